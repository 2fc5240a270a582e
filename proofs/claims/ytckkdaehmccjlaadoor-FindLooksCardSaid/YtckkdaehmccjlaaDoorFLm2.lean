/- Texts of this session put together by a program, part 2: Px9, Px63, Px64, Px10, Px12, Px13, Px11, Px14, Px15, Find, Px68, Px69, Ev, PFirst, PBeg, PSame, PFst. -/
import Derived.Test.YtckkdaehmccjlaaDoorFLm1
namespace Go.Proofs.YtckkdaehmccjlaaDoor.P
open Go.RowKit Go.Proofs.YtckkdaehmccjlaaDoorW.PrintWords Go.Proofs.YtckkdaehmccjlaaDoorW.PrintLast Go.Proofs.YtckkdaehmccjlaaDoorW.PrintMore
attribute [local go_sem] max2_int min2_int max_two min_two max_three min_three max_four min_four   -- for this text's walks alone
set_option linter.unusedVariables false
set_option linter.unusedSimpArgs false
attribute [local go_sem high] eqA60
def flow_trimmed.l0 : Nat → List (S60) → Option ((List (S60)))
 | 0, _ => none
 | k + 1, x0 => if (x0.length : Int) > 0 then (if 0 ≤ (wrap64 ((x0.length : Int) - 1)) then (if (wrap64 ((x0.length : Int) - 1)) < (x0.length : Int) then ((flow_none.f).bind fun bt162 => (if ((((rd_T60 x0 (wrap64 ((x0.length : Int) - 1))).f0).toList) == bt162.1.toList && (((rd_T60 x0 (wrap64 ((x0.length : Int) - 1))).f1) == bt162.2.1 && ((((rd_T60 x0 (wrap64 ((x0.length : Int) - 1))).f2.f0) == bt162.2.2.1 && (((rd_T60 x0 (wrap64 ((x0.length : Int) - 1))).f2.f1) == bt162.2.2.2.1 && (((rd_T60 x0 (wrap64 ((x0.length : Int) - 1))).f2.f2) == bt162.2.2.2.2)))))) = true then (if (wrap64 ((x0.length : Int) - 1)) ≤ (x0.length : Int) then (flow_trimmed.l0 k (x0.take ((wrap64 ((x0.length : Int) - 1)) : Int).toNat)) else (none)) else (some x0))) else (none)) else (none)) else (some x0)
def flow_trimmed.f (k : Nat) (l0 : List (S60)) : Option ((List (S60))) := flow_trimmed.l0 k l0
def flow_trimmed.T1 : Bool × List (List Nat × List Nat) := (true, [([], []), ([0], [0]), ([1], [1]), ([2], [2]), ([3], [3]), ([3], [3]), ([5, 3], [3, 5]), ([6, 3], [3, 6]), ([4, 7, 3], [3, 4, 7]), ([8, 3], [3, 8]), ([3, 3], [3]), ([9, 10, 3], [3, 9, 10]), ([3, 11], [3, 11])])
def flow_trimmed.B1 : List Nat := [0, 1, 3, 7, 15, 15, 47, 111, 255, 511, 15, 2047, 4095]
theorem flow_trimmed.tab1 : rtab .any (opsOf Tryd.f44 1) = flow_trimmed.T1 := by kernel_rfl
theorem flow_trimmed.bits1 : waitsOk flow_trimmed.T1.2 flow_trimmed.B1 = true := by kernel_rfl
set_option maxHeartbeats 8000000 in
set_option maxRecDepth 100000 in
theorem flow_trimmed.calls (k : Nat) (P0_ : Nat → Prop) (A0 : Option Addr) (c0 : Nat) (l0 : List (S60)) (r : List (S60)) (w : World) (hs0 : Kd.V k60 60 w w.heap.size (fun k_ => P0_ k_) (.slice A0 l0.length c0) l0) (h : flow_trimmed.f k l0 = some r) :
  Calls Tryd.prog 44 #[.slice A0 l0.length c0] w fun e w' => ∃ v0_ : Value, e = .returned (v0_) ∧ Kd.V k60 60 w' w.heap.size (fun k_ => (P0_ k_ ∨ w.heap.size ≤ k_)) v0_ r ∧ Below w.heap.size w w' := by
 have hu60 := Tryd.underlying60
 have HO0 := Aside0.mk (show Kd.V k60 60 w w.heap.size (fun k_ => (P0_ k_ ∨ w.heap.size ≤ k_)) (.slice A0 l0.length c0) l0 from Kd.V_mono hs0 (fun k_ hk => .inl hk))
 have HB := Aside0.mk (Below.refl w.heap.size w)
 have H : (flow_trimmed.l0 k l0) = some r := h
 clear h
 have H' := Aside0.mk H
 clear H
 go_enter Tryd.func44, Tryd.ntmps44
 go_wp2
 go_loopg [0] k (fun kq v0 w' => ∃ (x0_1 : List (S60)), Aside0 (flow_trimmed.l0 kq x0_1 = some r) ∧ Aside0 (kq ≤ k) ∧ Aside0 (Kd.V k60 60 w' w.heap.size (fun k_ => (P0_ k_ ∨ w.heap.size ≤ k_)) v0 x0_1) ∧ Aside0 (Below w.heap.size w w'))
 case atStart => exact ⟨(l0), H', ⟨Nat.le_refl _⟩, ⟨by (with_reducible repeat (first | apply Kd.V_alloc | apply Kd.V_drewN | apply Kd.V_drew)); exact HO0.out⟩, ⟨zb⟩⟩
 case round =>
  clear H'
  obtain ⟨x0_1, HA, HK1, HO_0, HB⟩ := hrel
  cases gk with
  | zero => exact absurd HA.out (by simp [flow_trimmed.l0])
  | succ k1 =>
   have H := HA.out
   clear HA
   simp only [flow_trimmed.l0] at H
   by_cases c2 : (x0_1.length : Int) > 0
   ·rw [if_pos c2] at H
    have c2b0 : decide (0 < (x0_1.length : Int)) = true := decide_eq_true c2
    have c2b1 : decide (0 < x0_1.length) = true := decide_eq_true (by omega)
    clear c2
    obtain ⟨ji3, hji3⟩ : ∃ j_ : Int, (wrap64 ((x0_1.length : Int) - 1)) = j_ := ⟨_, rfl⟩
    replace H : (if 0 ≤ (ji3) then (if (ji3) < (x0_1.length : Int) then ((flow_none.f).bind fun bt162 => (if ((((rd_T60 x0_1 (ji3)).f0).toList) == bt162.1.toList && (((rd_T60 x0_1 (ji3)).f1) == bt162.2.1 && ((((rd_T60 x0_1 (ji3)).f2.f0) == bt162.2.2.1 && (((rd_T60 x0_1 (ji3)).f2.f1) == bt162.2.2.2.1 && (((rd_T60 x0_1 (ji3)).f2.f2) == bt162.2.2.2.2)))))) = true then (if (ji3) ≤ (x0_1.length : Int) then (flow_trimmed.l0 k1 (x0_1.take ((ji3) : Int).toNat)) else (none)) else (some x0_1))) else (none)) else (none)) = some r := by first | (rw [hji3] at H; exact H) | (simp only [hji3] at H ⊢; exact H)
    have hji3w : (IntKind.i64.wrap ((x0_1.length : Int) - 1)) = ji3 := (i64_w _).trans hji3
    by_cases c4 : 0 ≤ (ji3)
    ·rw [if_pos c4] at H
     have c4b0 : decide (0 ≤ (ji3)) = true := decide_eq_true c4
     clear c4
     by_cases c5 : (ji3) < (x0_1.length : Int)
     ·rw [if_pos c5] at H
      have c5b0 : decide ((ji3) < (x0_1.length : Int)) = true := decide_eq_true c5
      clear c5
      replace H := Option.bind_eq_some_iff.mp H
      obtain ⟨⟨t162, t163, t164, t165, t166⟩, A60, H⟩ := H
      replace H : (if ((((rd_T60 x0_1 (ji3)).f0).toList) == t162.toList && (((rd_T60 x0_1 (ji3)).f1) == t163 && ((((rd_T60 x0_1 (ji3)).f2.f0) == t164 && (((rd_T60 x0_1 (ji3)).f2.f1) == t165 && (((rd_T60 x0_1 (ji3)).f2.f2) == t166)))))) = true then (if (ji3) ≤ (x0_1.length : Int) then (flow_trimmed.l0 k1 (x0_1.take ((ji3) : Int).toNat)) else (none)) else (some x0_1)) = some r := H
      have A6 := Aside0.mk A60
      clear A60
      by_cases c7 : ((((rd_T60 x0_1 (ji3)).f0).toList) == t162.toList && (((rd_T60 x0_1 (ji3)).f1) == t163 && ((((rd_T60 x0_1 (ji3)).f2.f0) == t164 && (((rd_T60 x0_1 (ji3)).f2.f1) == t165 && (((rd_T60 x0_1 (ji3)).f2.f2) == t166)))))) = true
      ·rw [if_pos c7] at H
       have c7b0 : ((((rd_T60 x0_1 (ji3)).f0).toList) == t162.toList && (((rd_T60 x0_1 (ji3)).f1) == t163 && ((((rd_T60 x0_1 (ji3)).f2.f0) == t164 && (((rd_T60 x0_1 (ji3)).f2.f1) == t165 && (((rd_T60 x0_1 (ji3)).f2.f2) == t166)))))) = true := c7
       (try (have c7b1 : decide ((((rd_T60 x0_1 (ji3)).f0).toList) = t162.toList && (((rd_T60 x0_1 (ji3)).f1) == t163 && ((((rd_T60 x0_1 (ji3)).f2.f0) == t164 && (((rd_T60 x0_1 (ji3)).f2.f1) == t165 && (((rd_T60 x0_1 (ji3)).f2.f2) == t166)))))) = true := by simpa using c7))
       (try (have c7b2 : ((((rd_T60 x0_1 (ji3)).f0).toList) == t162.toList && (((rd_T60 x0_1 (ji3)).f1) == t163 && ((((rd_T60 x0_1 (ji3)).f2.f0) == t164 && (((rd_T60 x0_1 (ji3)).f2.f1) == t165 && (((rd_T60 x0_1 (ji3)).f2.f2) == t166)))))) = true := by simpa using c7))
       clear c7
       have c8b0 := eq_true (of_decide_eq_true za : 0 ≤ (ji3))
       by_cases c9 : (ji3) ≤ (x0_1.length : Int)
       ·rw [if_pos c9] at H
        have c9b0 := eq_true c9
        have c9b1 : decide ((ji3) ≤ (x0_1.length : Int)) = true := decide_eq_true c9
        clear c9
        obtain ⟨y167, hy167⟩ : ∃ y_ : List (S60), y_ = (x0_1.take ((ji3) : Int).toNat) := ⟨_, rfl⟩
        replace H : (flow_trimmed.l0 k1 y167) = some r := by first | (rw [hy167]; with_reducible exact H) | (have H2_ := (Option.bind_some _ _).symm.trans H; rw [hy167]; with_reducible exact H2_) | (have H2_ := (Option.bind_some _ _).symm.trans H; with_reducible exact H2_) | with_reducible exact H | (rw [hy167]; exact H) | exact H
        have Ny167 := Aside0.mk hy167
        clear hy167
        have H' := Aside0.mk H
        clear H
        try go_wp2
        have n0_ := Aside0.mk (Kd.V_drew HO_0.out)
        have n1_ := Aside0.mk (below_drew1 HB.out)
        clear HO_0
        clear HB
        have HO_0 := n0_
        have HB := n1_
        clear n0_ n1_
        obtain ⟨Ao11, co11, eo11⟩ := Kd.V_slice HO_0.out
        (first | subst eo11 | (injection eo11 with f1_ f2_ f3_; have f4_ := f1_.symm; have f5_ := f3_.symm; clear f1_ f2_ f3_; subst f4_; subst f5_))
        have p161 : 0 ≤ ((ji3) : Int) := of_decide_eq_true za
        have q161 : (ji3) < (x0_1.length : Int) := of_decide_eq_true za
        obtain ⟨ad161, e161, hx161_0, hx161_1, hx161_2, hx161_3, hx161_4⟩ := at_T60 (Kd.V_reads' HO_0.out).2.2 (ji3) p161 q161
        cases e161
        replace p161 := eq_true p161
        replace q161 := eq_true q161
        refine start_ (n := 13) (S := fun w' => w'.cell? (ad161.add (((ji3)).toNat * 5)) = some (.string ((rd_T60 x0_1 (ji3)).f0)) ∧ w'.cell? ⟨(ad161.add (((ji3)).toNat * 5)).block, (ad161.add (((ji3)).toNat * 5)).off + 1, none⟩ = some (.int .i64 ((rd_T60 x0_1 (ji3)).f1)) ∧ w'.cell? ⟨(ad161.add (((ji3)).toNat * 5)).block, (ad161.add (((ji3)).toNat * 5)).off + 2, none⟩ = some (.int .i64 ((rd_T60 x0_1 (ji3)).f2.f0)) ∧ w'.cell? ⟨(ad161.add (((ji3)).toNat * 5)).block, (ad161.add (((ji3)).toNat * 5)).off + 3, none⟩ = some (.int .i64 ((rd_T60 x0_1 (ji3)).f2.f1)) ∧ w'.cell? ⟨(ad161.add (((ji3)).toNat * 5)).block, (ad161.add (((ji3)).toNat * 5)).off + 4, none⟩ = some (.int .i64 ((rd_T60 x0_1 (ji3)).f2.f2))) (ds := []) #[false, false, false, false, false, false, false, false, false, false, false, false, false] (by kernel_rfl) rfl rfl ⟨hx161_0, hx161_1, hx161_2, hx161_3, hx161_4⟩ (fun hHeld => ?_); refine with_tabW flow_trimmed.tab1 flow_trimmed.bits1 (fun HT_ HW_ => ?_)
        generalize wr.drew = w10 at HO_0 HB hx161_0 hx161_1 hx161_2 hx161_3 hx161_4 hHeld ⊢
        refine pure_ (i := 0) (N := some 3) (v := ?_) (a' := ?_) #[true, false, false, false, false, false, false, false, false, false, false, false, false] rfl rfl (any_of HT_.out (by kernel_rfl)) (fun _ _ _ h => h) (Or.inl ⟨by rfl, ?_⟩) ?_ ?_
        rotate_left
        ·intro w'
         go_simp
         with_reducible rfl
        rotate_left
        ·exact zr
        refine pure_ (i := 1) (N := some 4) (v := ?_) (a' := ?_) #[true, true, false, false, false, false, false, false, false, false, false, false, false] rfl rfl (any_of HT_.out (by kernel_rfl)) (fun _ _ _ h => h) (Or.inl ⟨by rfl, ?_⟩) ?_ ?_
        rotate_left
        ·intro w'
         go_simp
         with_reducible rfl
        rotate_left
        ·exact zr
        refine pure_ (i := 2) (N := some 5) (v := ?_) (a' := ?_) #[true, true, true, false, false, false, false, false, false, false, false, false, false] rfl rfl (any_of HT_.out (by kernel_rfl)) (fun _ _ _ h => h) (Or.inl ⟨by rfl, ?_⟩) ?_ ?_
        rotate_left
        ·intro w'
         go_simp
         with_reducible rfl
        rotate_left
        ·exact zr
        refine pure_ (i := 3) (N := some 6) (v := ?_) (a' := ?_) #[true, true, true, true, false, false, false, false, false, false, false, false, false] rfl rfl (any_of HT_.out (by kernel_rfl)) (fun _ _ _ h => h) (Or.inl ⟨by rfl, ?_⟩) ?_ ?_
        rotate_left
        ·intro w'
         go_simp
         with_reducible rfl
        rotate_left
        ·exact zr
        refine pure_ (i := 4) (N := some 7) (v := ?_) (a' := ?_) #[true, true, true, true, true, false, false, false, false, false, false, false, false] rfl rfl (any_of HT_.out (by kernel_rfl)) (fun _ _ _ h => h) (Or.inl ⟨by rfl, ?_⟩) ?_ ?_
        rotate_left
        ·intro w'
         go_simp
         with_reducible rfl
        rotate_left
        ·exact zr
        refine pure_ (i := 5) (N := some 8) (v := ?_) (a' := ?_) #[true, true, true, true, true, true, false, false, false, false, false, false, false] rfl rfl (any_of HT_.out (by kernel_rfl)) (fun _ _ _ h => h) (Or.inl ⟨by rfl, ?_⟩) ?_ ?_
        rotate_left
        ·intro w'
         go_simp
         with_reducible rfl
        rotate_left
        ·exact zr
        refine pure_ (i := 6) (N := some 9) (v := ?_) (a' := ?_) #[true, true, true, true, true, true, true, false, false, false, false, false, false] rfl rfl (any_of HT_.out (by kernel_rfl)) (fun _ _ _ h => h) (Or.inl ⟨by rfl, ?_⟩) ?_ ?_
        rotate_left
        ·intro w'
         go_simp
         with_reducible rfl
        rotate_left
        ·exact zr
        refine pure_ (i := 7) (N := some 10) (v := ?_) (a' := ?_) #[true, true, true, true, true, true, true, true, false, false, false, false, false] rfl rfl (any_of HT_.out (by kernel_rfl)) (fun _ _ _ h => h) (Or.inl ⟨by rfl, ?_⟩) ?_ ?_
        rotate_left
        ·intro w'
         go_simp
         with_reducible rfl
        rotate_left
        ·exact zr
        refine pure_ (i := 8) (N := some 11) (v := ?_) (a' := ?_) #[true, true, true, true, true, true, true, true, true, false, false, false, false] rfl rfl (any_of HT_.out (by kernel_rfl)) (fun _ _ _ h => h) (Or.inl ⟨by rfl, ?_⟩) ?_ ?_
        rotate_left
        ·intro w'
         go_simp
         with_reducible rfl
        rotate_left
        ·exact zr
        refine take_ (i := 9) (N := some 12) (v := ?_) (a' := ?_) #[true, true, true, true, true, true, true, true, true, true, false, false, false] rfl rfl (take_ofW HT_.out HW_.out (by kernel_rfl)) (fun _ _ _ h => h) (Or.inl ⟨by rfl, ?_⟩) hHeld ?_ ?_
        rotate_left
        ·rintro w' ⟨s0, s1, s2, s3, s4⟩
         go_simp
         with_reducible rfl
        rotate_left
        ·exact zr
        refine one_ (i := 10) (N := some 13) #[true, true, true, true, true, true, true, true, true, true, true, false, false] rfl rfl (one_of HT_.out (by kernel_rfl)) (by decide) (fun K hK => ?_)
        refine goes_ Tryd.func67 (by kernel_rfl) rfl #[] (by rfl) rfl rfl zl ?_
        with_reducible refine (flow_none.calls  t162 t163 t164 t165 t166 _ A6.out).mono ?_
        rintro e w12 ⟨rfl, hb⟩
        have HS0_ := (hb.cell (World.block_lt_of_cell? _ _ (hHeld.1))).trans (hHeld.1)
        have HS1_ := (hb.cell (World.block_lt_of_cell? _ _ (hHeld.2.1))).trans (hHeld.2.1)
        have HS2_ := (hb.cell (World.block_lt_of_cell? _ _ (hHeld.2.2.1))).trans (hHeld.2.2.1)
        have HS3_ := (hb.cell (World.block_lt_of_cell? _ _ (hHeld.2.2.2.1))).trans (hHeld.2.2.2.1)
        have HS4_ := (hb.cell (World.block_lt_of_cell? _ _ (hHeld.2.2.2.2))).trans (hHeld.2.2.2.2)
        refine ⟨_, rfl, ?_⟩
        have n0_ := Aside0.mk (Kd.V_below (by (with_reducible repeat (first | apply Kd.V_alloc | apply Kd.V_drewN | apply Kd.V_drew)); exact HO_0.out) hb)
        have n1_ := (zs HB hb)
        clear HO_0
        clear HB
        have HO_0 := n0_
        have HB := n1_
        clear n0_ n1_
        (try clear hb)
        (try clear hb2)
        (try clear hk)
        (try clear hi)
        refine hK.out _ _ ⟨HS0_, HS1_, HS2_, HS3_, HS4_⟩ (fun hHeld => ?_)
        clear hK K
        refine norm_ (a' := ?_) ?_ ?_
        rotate_left
        ·show Act.put _ (some 13) _ = _
         simp only [Act.put, List.setIfInBounds_toArray, List.set_cons_zero, List.set_cons_succ, i64_w, i32_w]
         rfl
        refine pure_ (i := 11) (N := some 14) (v := ?_) (a' := ?_) #[true, true, true, true, true, true, true, true, true, true, true, true, false] rfl rfl (any_of HT_.out (by kernel_rfl)) (fun _ _ _ h => h) (Or.inl ⟨by rfl, ?_⟩) ?_ ?_
        rotate_left
        ·intro w'
         go_simp
         with_reducible rfl
        rotate_left
        ·exact zr
        refine pure_ (i := 12) (N := some 15) (v := ?_) (a' := ?_) #[true, true, true, true, true, true, true, true, true, true, true, true, true] rfl rfl (any_of HT_.out (by kernel_rfl)) (fun _ _ _ h => h) (Or.inl ⟨by rfl, ?_⟩) ?_ ?_
        rotate_left
        ·intro w'
         go_simp
         with_reducible rfl
        rotate_left
        ·exact zr
        refine done_ (done_of HT_.out (by kernel_rfl)) ?_
        have q13 : ((ji3) : Int) ≤ ((x0_1.length : Int) : Int) := of_decide_eq_true za
        obtain ⟨i013, hi013, _, hsz13, _⟩ := info_parts info60
        have hroom13 : x0_1.length ≤ co11 := (Kd.V_reads' HO_0.out).2.1
        have hC13 : Kd.F k60 _ _ (some ad161) x0_1.length x0_1 := (Kd.V_at (base := w.heap.size) HO_0.out).2.2
        have hcut13 := cut_to (P := Tryd.prog) 36 60 .i64 Tryd.underlying36 hi013 (some ad161) x0_1.length co11 (ji3) (of_decide_eq_true za) q13 hroom13
        have hr13 := Kd.F_take (m := ((ji3) : Int).toNat) hC13 (by omega)
        have hy13 : y167.length = ((ji3) : Int).toNat := (by rw [Ny167.out, List.length_take]; omega)
        rw [← Ny167.out] at hr13
        rw [← hy13] at hcut13
        have HO171 := Aside0.mk (show Kd.V k60 60 _ w.heap.size _ (.slice (some ad161) y167.length co11) y167 from Kd.V_mk (by omega) hr13)
        have HC171 := Aside0.mk (show y167.length ≤ co11 from by omega)
        clear hr13 hC13 hroom13 hi013 hsz13
        have KY13 := Aside0.mk hy13
        clear hy13
        replace q13 := eq_true q13
        try go_wp2
        go_roundg k1
        case measure => have := HK1.out; omega
        case rel => exact ⟨(y167), H', ⟨by have := HK1.out; omega⟩, ⟨by (with_reducible repeat (first | apply Kd.V_alloc | apply Kd.V_drewN | apply Kd.V_drew)); exact HO171.out⟩, ⟨zb⟩⟩
       ·rw [if_neg c9] at H
        exact absurd H (by simp)
      ·rw [if_neg c7] at H
       have c7b0 : ((((rd_T60 x0_1 (ji3)).f0).toList) == t162.toList && (((rd_T60 x0_1 (ji3)).f1) == t163 && ((((rd_T60 x0_1 (ji3)).f2.f0) == t164 && (((rd_T60 x0_1 (ji3)).f2.f1) == t165 && (((rd_T60 x0_1 (ji3)).f2.f2) == t166)))))) = false := by simpa using c7
       (try (have c7b1 : decide ((((rd_T60 x0_1 (ji3)).f0).toList) = t162.toList && (((rd_T60 x0_1 (ji3)).f1) == t163 && ((((rd_T60 x0_1 (ji3)).f2.f0) == t164 && (((rd_T60 x0_1 (ji3)).f2.f1) == t165 && (((rd_T60 x0_1 (ji3)).f2.f2) == t166)))))) = false := by simpa using c7))
       (try (have c7b2 : ((((rd_T60 x0_1 (ji3)).f0).toList) == t162.toList && (((rd_T60 x0_1 (ji3)).f1) == t163 && ((((rd_T60 x0_1 (ji3)).f2.f0) == t164 && (((rd_T60 x0_1 (ji3)).f2.f1) == t165 && (((rd_T60 x0_1 (ji3)).f2.f2) == t166)))))) = false := by simpa using c7))
       (try (have c7b3 : ¬ ((((rd_T60 x0_1 (ji3)).f0).toList) = t162.toList && (((rd_T60 x0_1 (ji3)).f1) == t163 && ((((rd_T60 x0_1 (ji3)).f2.f0) == t164 && (((rd_T60 x0_1 (ji3)).f2.f1) == t165 && (((rd_T60 x0_1 (ji3)).f2.f2) == t166)))))) := by simpa using c7))
       clear c7
       obtain rfl := Option.some.inj H
       try go_wp2
       have n0_ := Aside0.mk (Kd.V_drew HO_0.out)
       have n1_ := Aside0.mk (below_drew1 HB.out)
       clear HO_0
       clear HB
       have HO_0 := n0_
       have HB := n1_
       clear n0_ n1_
       obtain ⟨Ao15, co15, eo15⟩ := Kd.V_slice HO_0.out
       (first | subst eo15 | (injection eo15 with f1_ f2_ f3_; have f4_ := f1_.symm; have f5_ := f3_.symm; clear f1_ f2_ f3_; subst f4_; subst f5_))
       have p161 : 0 ≤ ((ji3) : Int) := of_decide_eq_true za
       have q161 : (ji3) < (x0_1.length : Int) := of_decide_eq_true za
       obtain ⟨ad161, e161, hx161_0, hx161_1, hx161_2, hx161_3, hx161_4⟩ := at_T60 (Kd.V_reads' HO_0.out).2.2 (ji3) p161 q161
       cases e161
       replace p161 := eq_true p161
       replace q161 := eq_true q161
       refine start_ (n := 13) (S := fun w' => w'.cell? (ad161.add (((ji3)).toNat * 5)) = some (.string ((rd_T60 x0_1 (ji3)).f0)) ∧ w'.cell? ⟨(ad161.add (((ji3)).toNat * 5)).block, (ad161.add (((ji3)).toNat * 5)).off + 1, none⟩ = some (.int .i64 ((rd_T60 x0_1 (ji3)).f1)) ∧ w'.cell? ⟨(ad161.add (((ji3)).toNat * 5)).block, (ad161.add (((ji3)).toNat * 5)).off + 2, none⟩ = some (.int .i64 ((rd_T60 x0_1 (ji3)).f2.f0)) ∧ w'.cell? ⟨(ad161.add (((ji3)).toNat * 5)).block, (ad161.add (((ji3)).toNat * 5)).off + 3, none⟩ = some (.int .i64 ((rd_T60 x0_1 (ji3)).f2.f1)) ∧ w'.cell? ⟨(ad161.add (((ji3)).toNat * 5)).block, (ad161.add (((ji3)).toNat * 5)).off + 4, none⟩ = some (.int .i64 ((rd_T60 x0_1 (ji3)).f2.f2))) (ds := []) #[false, false, false, false, false, false, false, false, false, false, false, false, false] (by kernel_rfl) rfl rfl ⟨hx161_0, hx161_1, hx161_2, hx161_3, hx161_4⟩ (fun hHeld => ?_); refine with_tabW flow_trimmed.tab1 flow_trimmed.bits1 (fun HT_ HW_ => ?_)
       generalize wr.drew = w14 at HO_0 HB hx161_0 hx161_1 hx161_2 hx161_3 hx161_4 hHeld ⊢
       refine pure_ (i := 0) (N := some 3) (v := ?_) (a' := ?_) #[true, false, false, false, false, false, false, false, false, false, false, false, false] rfl rfl (any_of HT_.out (by kernel_rfl)) (fun _ _ _ h => h) (Or.inl ⟨by rfl, ?_⟩) ?_ ?_
       rotate_left
       ·intro w'
        go_simp
        with_reducible rfl
       rotate_left
       ·exact zr
       refine pure_ (i := 1) (N := some 4) (v := ?_) (a' := ?_) #[true, true, false, false, false, false, false, false, false, false, false, false, false] rfl rfl (any_of HT_.out (by kernel_rfl)) (fun _ _ _ h => h) (Or.inl ⟨by rfl, ?_⟩) ?_ ?_
       rotate_left
       ·intro w'
        go_simp
        with_reducible rfl
       rotate_left
       ·exact zr
       refine pure_ (i := 2) (N := some 5) (v := ?_) (a' := ?_) #[true, true, true, false, false, false, false, false, false, false, false, false, false] rfl rfl (any_of HT_.out (by kernel_rfl)) (fun _ _ _ h => h) (Or.inl ⟨by rfl, ?_⟩) ?_ ?_
       rotate_left
       ·intro w'
        go_simp
        with_reducible rfl
       rotate_left
       ·exact zr
       refine pure_ (i := 3) (N := some 6) (v := ?_) (a' := ?_) #[true, true, true, true, false, false, false, false, false, false, false, false, false] rfl rfl (any_of HT_.out (by kernel_rfl)) (fun _ _ _ h => h) (Or.inl ⟨by rfl, ?_⟩) ?_ ?_
       rotate_left
       ·intro w'
        go_simp
        with_reducible rfl
       rotate_left
       ·exact zr
       refine pure_ (i := 4) (N := some 7) (v := ?_) (a' := ?_) #[true, true, true, true, true, false, false, false, false, false, false, false, false] rfl rfl (any_of HT_.out (by kernel_rfl)) (fun _ _ _ h => h) (Or.inl ⟨by rfl, ?_⟩) ?_ ?_
       rotate_left
       ·intro w'
        go_simp
        with_reducible rfl
       rotate_left
       ·exact zr
       refine pure_ (i := 5) (N := some 8) (v := ?_) (a' := ?_) #[true, true, true, true, true, true, false, false, false, false, false, false, false] rfl rfl (any_of HT_.out (by kernel_rfl)) (fun _ _ _ h => h) (Or.inl ⟨by rfl, ?_⟩) ?_ ?_
       rotate_left
       ·intro w'
        go_simp
        with_reducible rfl
       rotate_left
       ·exact zr
       refine pure_ (i := 6) (N := some 9) (v := ?_) (a' := ?_) #[true, true, true, true, true, true, true, false, false, false, false, false, false] rfl rfl (any_of HT_.out (by kernel_rfl)) (fun _ _ _ h => h) (Or.inl ⟨by rfl, ?_⟩) ?_ ?_
       rotate_left
       ·intro w'
        go_simp
        with_reducible rfl
       rotate_left
       ·exact zr
       refine pure_ (i := 7) (N := some 10) (v := ?_) (a' := ?_) #[true, true, true, true, true, true, true, true, false, false, false, false, false] rfl rfl (any_of HT_.out (by kernel_rfl)) (fun _ _ _ h => h) (Or.inl ⟨by rfl, ?_⟩) ?_ ?_
       rotate_left
       ·intro w'
        go_simp
        with_reducible rfl
       rotate_left
       ·exact zr
       refine pure_ (i := 8) (N := some 11) (v := ?_) (a' := ?_) #[true, true, true, true, true, true, true, true, true, false, false, false, false] rfl rfl (any_of HT_.out (by kernel_rfl)) (fun _ _ _ h => h) (Or.inl ⟨by rfl, ?_⟩) ?_ ?_
       rotate_left
       ·intro w'
        go_simp
        with_reducible rfl
       rotate_left
       ·exact zr
       refine take_ (i := 9) (N := some 12) (v := ?_) (a' := ?_) #[true, true, true, true, true, true, true, true, true, true, false, false, false] rfl rfl (take_ofW HT_.out HW_.out (by kernel_rfl)) (fun _ _ _ h => h) (Or.inl ⟨by rfl, ?_⟩) hHeld ?_ ?_
       rotate_left
       ·rintro w' ⟨s0, s1, s2, s3, s4⟩
        go_simp
        with_reducible rfl
       rotate_left
       ·exact zr
       refine one_ (i := 10) (N := some 13) #[true, true, true, true, true, true, true, true, true, true, true, false, false] rfl rfl (one_of HT_.out (by kernel_rfl)) (by decide) (fun K hK => ?_)
       refine goes_ Tryd.func67 (by kernel_rfl) rfl #[] (by rfl) rfl rfl zl ?_
       with_reducible refine (flow_none.calls  t162 t163 t164 t165 t166 _ A6.out).mono ?_
       rintro e w16 ⟨rfl, hb⟩
       have HS0_ := (hb.cell (World.block_lt_of_cell? _ _ (hHeld.1))).trans (hHeld.1)
       have HS1_ := (hb.cell (World.block_lt_of_cell? _ _ (hHeld.2.1))).trans (hHeld.2.1)
       have HS2_ := (hb.cell (World.block_lt_of_cell? _ _ (hHeld.2.2.1))).trans (hHeld.2.2.1)
       have HS3_ := (hb.cell (World.block_lt_of_cell? _ _ (hHeld.2.2.2.1))).trans (hHeld.2.2.2.1)
       have HS4_ := (hb.cell (World.block_lt_of_cell? _ _ (hHeld.2.2.2.2))).trans (hHeld.2.2.2.2)
       refine ⟨_, rfl, ?_⟩
       have n0_ := Aside0.mk (Kd.V_below (by (with_reducible repeat (first | apply Kd.V_alloc | apply Kd.V_drewN | apply Kd.V_drew)); exact HO_0.out) hb)
       have n1_ := (zs HB hb)
       clear HO_0
       clear HB
       have HO_0 := n0_
       have HB := n1_
       clear n0_ n1_
       (try clear hb)
       (try clear hb2)
       (try clear hk)
       (try clear hi)
       refine hK.out _ _ ⟨HS0_, HS1_, HS2_, HS3_, HS4_⟩ (fun hHeld => ?_)
       clear hK K
       refine norm_ (a' := ?_) ?_ ?_
       rotate_left
       ·show Act.put _ (some 13) _ = _
        simp only [Act.put, List.setIfInBounds_toArray, List.set_cons_zero, List.set_cons_succ, i64_w, i32_w]
        rfl
       refine pure_ (i := 11) (N := some 14) (v := ?_) (a' := ?_) #[true, true, true, true, true, true, true, true, true, true, true, true, false] rfl rfl (any_of HT_.out (by kernel_rfl)) (fun _ _ _ h => h) (Or.inl ⟨by rfl, ?_⟩) ?_ ?_
       rotate_left
       ·intro w'
        go_simp
        with_reducible rfl
       rotate_left
       ·exact zr
       refine pure_ (i := 12) (N := some 15) (v := ?_) (a' := ?_) #[true, true, true, true, true, true, true, true, true, true, true, true, true] rfl rfl (any_of HT_.out (by kernel_rfl)) (fun _ _ _ h => h) (Or.inl ⟨by rfl, ?_⟩) ?_ ?_
       rotate_left
       ·intro w'
        go_simp
        with_reducible rfl
       rotate_left
       ·exact zr
       refine done_ (done_of HT_.out (by kernel_rfl)) ?_
       try go_wp2
       go_ret
       exact ⟨_, by first | rfl | (simp [errW_none, errW_some] <;> rfl) | (simp only [← hji3]; first | rfl | (simp [errW_none, errW_some] <;> rfl)) | (simp [*, errW_none, errW_some] <;> rfl), by (with_reducible repeat (first | apply Kd.V_alloc | apply Kd.V_drewN | apply Kd.V_drew)); exact HO_0.out, zb⟩
     ·rw [if_neg c5] at H
      exact absurd H (by simp)
    ·rw [if_neg c4] at H
     exact absurd H (by simp)
   ·rw [if_neg c2] at H
    have c2b0 : decide (0 < (x0_1.length : Int)) = false := decide_eq_false c2
    have c2b1 : decide (0 < x0_1.length) = false := decide_eq_false (by omega)
    clear c2
    obtain rfl := Option.some.inj H
    try go_wp2
    have n0_ := Aside0.mk (Kd.V_drew HO_0.out)
    have n1_ := Aside0.mk (below_drew1 HB.out)
    clear HO_0
    clear HB
    have HO_0 := n0_
    have HB := n1_
    clear n0_ n1_
    obtain ⟨Ao18, co18, eo18⟩ := Kd.V_slice HO_0.out
    (first | subst eo18 | (injection eo18 with f1_ f2_ f3_; have f4_ := f1_.symm; have f5_ := f3_.symm; clear f1_ f2_ f3_; subst f4_; subst f5_))
    refine start_ (n := 13) (S := fun w' => True) (ds := []) #[false, false, false, false, false, false, false, false, false, false, false, false, false] (by kernel_rfl) rfl rfl trivial (fun hHeld => ?_); refine with_tabW flow_trimmed.tab1 flow_trimmed.bits1 (fun HT_ HW_ => ?_)
    generalize wr.drew = w17 at HO_0 HB hHeld ⊢
    refine pure_ (i := 0) (N := some 3) (v := ?_) (a' := ?_) #[true, false, false, false, false, false, false, false, false, false, false, false, false] rfl rfl (any_of HT_.out (by kernel_rfl)) (fun _ _ _ h => h) (Or.inl ⟨by rfl, ?_⟩) ?_ ?_
    rotate_left
    ·intro w'
     go_simp
     with_reducible rfl
    rotate_left
    ·exact zr
    refine pure_ (i := 1) (N := some 4) (v := ?_) (a' := ?_) #[true, true, false, false, false, false, false, false, false, false, false, false, false] rfl rfl (any_of HT_.out (by kernel_rfl)) (fun _ _ _ h => h) (Or.inl ⟨by rfl, ?_⟩) ?_ ?_
    rotate_left
    ·intro w'
     go_simp
     with_reducible rfl
    rotate_left
    ·exact zr
    refine pure_ (i := 2) (N := some 5) (v := ?_) (a' := ?_) #[true, true, true, false, false, false, false, false, false, false, false, false, false] rfl rfl (any_of HT_.out (by kernel_rfl)) (fun _ _ _ h => h) (Or.inl ⟨by rfl, ?_⟩) ?_ ?_
    rotate_left
    ·intro w'
     go_simp
     with_reducible rfl
    rotate_left
    ·exact zr
    refine pure_ (i := 3) (N := some 6) (v := ?_) (a' := ?_) #[true, true, true, true, false, false, false, false, false, false, false, false, false] rfl rfl (any_of HT_.out (by kernel_rfl)) (fun _ _ _ h => h) (Or.inl ⟨by rfl, ?_⟩) ?_ ?_
    rotate_left
    ·intro w'
     go_simp
     with_reducible rfl
    rotate_left
    ·exact zr
    refine pure_ (i := 4) (N := some 7) (v := undef) (a' := ?_) #[true, true, true, true, true, false, false, false, false, false, false, false, false] rfl rfl (any_of HT_.out (by kernel_rfl)) (fun _ _ _ h => h) (Or.inr ⟨by rfl, rfl⟩) ?_ ?_
    rotate_left
    ·exact zr
    refine pure_ (i := 5) (N := some 8) (v := undef) (a' := ?_) #[true, true, true, true, true, true, false, false, false, false, false, false, false] rfl rfl (any_of HT_.out (by kernel_rfl)) (fun _ _ _ h => h) (Or.inr ⟨by rfl, rfl⟩) ?_ ?_
    rotate_left
    ·exact zr
    refine pure_ (i := 6) (N := some 9) (v := undef) (a' := ?_) #[true, true, true, true, true, true, true, false, false, false, false, false, false] rfl rfl (any_of HT_.out (by kernel_rfl)) (fun _ _ _ h => h) (Or.inr ⟨by rfl, rfl⟩) ?_ ?_
    rotate_left
    ·exact zr
    refine pure_ (i := 7) (N := some 10) (v := undef) (a' := ?_) #[true, true, true, true, true, true, true, true, false, false, false, false, false] rfl rfl (any_of HT_.out (by kernel_rfl)) (fun _ _ _ h => h) (Or.inr ⟨by rfl, rfl⟩) ?_ ?_
    rotate_left
    ·exact zr
    refine pure_ (i := 8) (N := some 11) (v := undef) (a' := ?_) #[true, true, true, true, true, true, true, true, true, false, false, false, false] rfl rfl (any_of HT_.out (by kernel_rfl)) (fun _ _ _ h => h) (Or.inr ⟨by rfl, rfl⟩) ?_ ?_
    rotate_left
    ·exact zr
    refine pure_ (i := 9) (N := some 12) (v := undef) (a' := ?_) #[true, true, true, true, true, true, true, true, true, true, false, false, false] rfl rfl (any_of HT_.out (by kernel_rfl)) (fun _ _ _ h => h) (Or.inr ⟨by rfl, rfl⟩) ?_ ?_
    rotate_left
    ·exact zr
    refine pure_ (i := 10) (N := some 13) (v := undef) (a' := ?_) #[true, true, true, true, true, true, true, true, true, true, true, false, false] rfl rfl (any_of HT_.out (by kernel_rfl)) (fun _ _ _ h => h) (Or.inr ⟨by rfl, rfl⟩) ?_ ?_
    rotate_left
    ·exact zr
    refine pure_ (i := 11) (N := some 14) (v := undef) (a' := ?_) #[true, true, true, true, true, true, true, true, true, true, true, true, false] rfl rfl (any_of HT_.out (by kernel_rfl)) (fun _ _ _ h => h) (Or.inr ⟨by rfl, rfl⟩) ?_ ?_
    rotate_left
    ·exact zr
    refine pure_ (i := 12) (N := some 15) (v := ?_) (a' := ?_) #[true, true, true, true, true, true, true, true, true, true, true, true, true] rfl rfl (any_of HT_.out (by kernel_rfl)) (fun _ _ _ h => h) (Or.inl ⟨by rfl, ?_⟩) ?_ ?_
    rotate_left
    ·intro w'
     go_simp
     with_reducible rfl
    rotate_left
    ·exact zr
    refine done_ (done_of HT_.out (by kernel_rfl)) ?_
    try go_wp2
    go_ret
    exact ⟨_, ze, by (with_reducible repeat (first | apply Kd.V_alloc | apply Kd.V_drewN | apply Kd.V_drew)); exact HO_0.out, zb⟩
end Go.Proofs.YtckkdaehmccjlaaDoor.P
namespace Go.Proofs.YtckkdaehmccjlaaDoor.P
open Go.RowKit Go.Proofs.YtckkdaehmccjlaaDoorW.PrintWords Go.Proofs.YtckkdaehmccjlaaDoorW.PrintLast Go.Proofs.YtckkdaehmccjlaaDoorW.PrintMore
attribute [local go_sem] max2_int min2_int max_two min_two max_three min_three max_four min_four   -- for this text's walks alone
set_option linter.unusedVariables false
set_option linter.unusedSimpArgs false
def flow_Join.l0 : Nat → List (S38) → List (List (S60)) → List (S60) → List (S38) → Int → Int → Option ((List (List (S60))) × Int)
 | 0, _, _, _, _, _, _ => none
 | k + 1, x0, x4, x5, x11, x12, x13 => if x13 < x12 then (if 0 ≤ x13 then (if x13 < (x11.length : Int) then (if x5.length + ((rd_T38 x11 x13).f0).length < 2932031007402 then ((some (x5 ++ ((rd_T38 x11 x13).f0) : List (S60))).bind fun y175 => (if ((rd_T38 x11 x13).f1 = true) then (if x13 = (wrap64 ((x0.length : Int) - 1)) then ((flow_trimmed.f k y175).bind fun t178 => (if x4.length < 5864062014805 then (flow_Join.l0 k x0 (x4 ++ [t178]) ([] : List (S60)) x11 x12 (wrap64 (x13 + 1))) else (none))) else (flow_Join.l0 k x0 x4 y175 x11 x12 (wrap64 (x13 + 1)))) else ((flow_trimmed.f k y175).bind fun t184 => (if x4.length < 5864062014805 then (flow_Join.l0 k x0 (x4 ++ [t184]) ([] : List (S60)) x11 x12 (wrap64 (x13 + 1))) else (none))))) else (none)) else (none)) else (none)) else (some (x4, 0))
def flow_Join.f (k : Nat) (l0 : List (S38)) : Option ((List (List (S60))) × Int) := (flow_may.f k l0).bind fun t172 => (if t172 = true then (flow_Join.l0 k l0 ([] : List (List (S60))) ([] : List (S60)) l0 (l0.length : Int) 0) else (some (([] : List (List (S60))), 1)))
set_option maxHeartbeats 8000000 in
set_option maxRecDepth 100000 in
theorem flow_Join.calls (k : Nat) (A0 : Option Addr) (c0 : Nat) (l0 : List (S38)) (r1 : List (List (S60))) (r2 : Int) (w : World) (hr0 : Kd.C k38 w A0 l0.length l0) (hc0 : l0.length ≤ c0) (h : flow_Join.f k l0 = some (r1, r2)) (hT : Tabs w := by first | exact Aside0.out (by with_reducible assumption) | exact Tabs.keepA (by with_reducible assumption) (by repeat (first | (with_reducible exact Aside0.out (by with_reducible assumption)) | (with_reducible apply below_alloc) | (with_reducible apply pw_below_drewN) | (with_reducible apply below_drew1) | (with_reducible refine below_set ?_ (Aside0.out (by with_reducible assumption)))))) :
  Calls Tryd.prog 18 #[.slice A0 l0.length c0] w fun e w' => ∃ v0_ : Value, e = .returned (.tuple #[v0_, .int .i64 r2]) ∧ Kd.N (Kd.slice 60 k60) 36 w' w.heap.size (fun k_ => (w.heap.size ≤ k_)) v0_ r1 ∧ Below w.heap.size w w' := by
 have HT := Aside0.mk (show Tabs w from hT)
 clear hT
 have hu38 := Tryd.underlying38
 have HR0 := Aside0.mk hr0
 have HC0 := Aside0.mk hc0
 clear hr0 hc0
 have HB := Aside0.mk (Below.refl w.heap.size w)
 have H : ((flow_may.f k l0).bind fun t172 => (if t172 = true then (flow_Join.l0 k l0 ([] : List (List (S60))) ([] : List (S60)) l0 (l0.length : Int) 0) else (some (([] : List (List (S60))), 1)))) = some (r1, r2) := h
 clear h
 replace H := Option.bind_eq_some_iff.mp H
 obtain ⟨t172, A20, H⟩ := H
 replace H : (if t172 = true then (flow_Join.l0 k l0 ([] : List (List (S60))) ([] : List (S60)) l0 (l0.length : Int) 0) else (some (([] : List (List (S60))), 1))) = some (r1, r2) := H
 have A2 := Aside0.mk A20
 clear A20
 by_cases c3 : t172 = true
 ·subst c3
  have H1 : (flow_Join.l0 k l0 ([] : List (List (S60))) ([] : List (S60)) l0 (l0.length : Int) 0) = some (r1, r2) := by rw [if_pos rfl] at H; exact H
  clear H
  have H := H1
  clear H1
  have H' := Aside0.mk H
  clear H
  go_enter Tryd.func18, Tryd.ntmps18
  go_wp2_with (first | ((with_reducible refine gate_callee (f := 43) rfl ?_); refine goesL_ (some 9) rfl rfl Tryd.func43 (by kernel_rfl) rfl #[.slice A0 l0.length c0] rfl zl ?_; (with_reducible refine (flow_may.calls k _ _ l0 true _ ?side1 ?side2 A2.out).mono ?_); (case side1 => repeat (first | exact HR0.out | (with_reducible refine Kd.C_alloc ?_ _) | (with_reducible refine Kd.C_drewN ?_ _) | (with_reducible refine Kd.C_drew ?_))); (case side2 => exact HC0.out); rintro e w4 ⟨rfl, hb⟩; refine ⟨_, rfl, ?_⟩; replace HB := (zs HB hb); (try clear hb)))
  go_loopg [4, 5, 13] k (fun kq v4 v5 v13 w' => ∃ (x4_1 : List (List (S60))) (x5_1 : List (S60)) (x13_1 : Int), v13 = .int .i64 x13_1 ∧ Aside0 (flow_Join.l0 kq l0 x4_1 x5_1 l0 (l0.length : Int) x13_1 = some (r1, r2)) ∧ Aside0 (kq ≤ k) ∧ Aside0 (Kd.N (Kd.slice 60 k60) 36 w' w.heap.size (fun k_ => (w.heap.size ≤ k_) ∧ some k_ ≠ (v5 : Value).ownBlock) v4 x4_1) ∧ Aside0 (Kd.R k60 60 w' w.heap.size (fun k_ => (w.heap.size ≤ k_)) v5 x5_1) ∧ Aside0 (Below w.heap.size w w'))
  case atStart => exact ⟨(([] : List (List (S60)))), (([] : List (S60))), (0), zf, H', ⟨Nat.le_refl _⟩, ⟨by first | exact Kd.S_nil _ _ _ _ _ | exact Kd.N_nil _ _ _ _ _ | exact Kd.V_nil _ _ _ _ _ | exact Kd.Q_nil _ _ _ _ _ | exact Kd.R_nil _ _ _ _ _⟩, ⟨by first | exact Kd.R_nil _ _ _ _ _ | exact Kd.N_nil _ _ _ _ _ | exact Kd.V_nil _ _ _ _ _ | exact Kd.Q_nil _ _ _ _ _ | exact Kd.S_nil _ _ _ _ _⟩, ⟨zb⟩⟩
  case round =>
   clear H'
   try clear c3
   obtain ⟨x4_1, x5_1, x13_1, rfl, HA, HK1, HO_4, HO_5, HB⟩ := hrel
   cases gk with
   | zero => exact absurd HA.out (by simp [flow_Join.l0])
   | succ k1 =>
    have H := HA.out
    clear HA
    simp only [flow_Join.l0] at H
    by_cases c5 : x13_1 < (l0.length : Int)
    ·rw [if_pos c5] at H
     have c5b0 : decide (x13_1 < (l0.length : Int)) = true := decide_eq_true c5
     clear c5
     by_cases c6 : 0 ≤ x13_1
     ·rw [if_pos c6] at H
      have c6b0 : decide (0 ≤ x13_1) = true := decide_eq_true c6
      clear c6
      by_cases c7 : x13_1 < (l0.length : Int)
      ·rw [if_pos c7] at H
       have c7b0 : decide (x13_1 < (l0.length : Int)) = true := decide_eq_true c7
       clear c7
       by_cases c8 : x5_1.length + ((rd_T38 l0 x13_1).f0).length < 2932031007402
       ·rw [if_pos c8] at H
        have LMc8 := Aside0.mk c8
        clear c8
        obtain ⟨y175, hy175⟩ : ∃ y_ : List (S60), y_ = (x5_1 ++ ((rd_T38 l0 x13_1).f0)) := ⟨_, rfl⟩
        replace H : (if ((rd_T38 l0 x13_1).f1 = true) then (if x13_1 = (wrap64 ((l0.length : Int) - 1)) then ((flow_trimmed.f k1 y175).bind fun t178 => (if x4_1.length < 5864062014805 then (flow_Join.l0 k1 l0 (x4_1 ++ [t178]) ([] : List (S60)) l0 (l0.length : Int) (wrap64 (x13_1 + 1))) else (none))) else (flow_Join.l0 k1 l0 x4_1 y175 l0 (l0.length : Int) (wrap64 (x13_1 + 1)))) else ((flow_trimmed.f k1 y175).bind fun t184 => (if x4_1.length < 5864062014805 then (flow_Join.l0 k1 l0 (x4_1 ++ [t184]) ([] : List (S60)) l0 (l0.length : Int) (wrap64 (x13_1 + 1))) else (none)))) = some (r1, r2) := by first | (rw [hy175]; with_reducible exact H) | (have H2_ := (Option.bind_some _ _).symm.trans H; rw [hy175]; with_reducible exact H2_) | (have H2_ := (Option.bind_some _ _).symm.trans H; with_reducible exact H2_) | with_reducible exact H | (rw [hy175]; exact H) | exact H
        have Ny175 := Aside0.mk hy175
        clear hy175
        obtain ⟨bq9, hbq9⟩ : ∃ b_ : Bool, b_ = ((rd_T38 l0 x13_1).f1) := ⟨_, rfl⟩
        replace H : (if (bq9 = true) then (if x13_1 = (wrap64 ((l0.length : Int) - 1)) then ((flow_trimmed.f k1 y175).bind fun t178 => (if x4_1.length < 5864062014805 then (flow_Join.l0 k1 l0 (x4_1 ++ [t178]) ([] : List (S60)) l0 (l0.length : Int) (wrap64 (x13_1 + 1))) else (none))) else (flow_Join.l0 k1 l0 x4_1 y175 l0 (l0.length : Int) (wrap64 (x13_1 + 1)))) else ((flow_trimmed.f k1 y175).bind fun t184 => (if x4_1.length < 5864062014805 then (flow_Join.l0 k1 l0 (x4_1 ++ [t184]) ([] : List (S60)) l0 (l0.length : Int) (wrap64 (x13_1 + 1))) else (none)))) = some (r1, r2) := by rw [← hbq9] at H; exact H
        have Nbq9 := Aside0.mk hbq9
        clear hbq9
        by_cases c10 : (bq9 = true)
        ·subst c10
         have H1 : (if x13_1 = (wrap64 ((l0.length : Int) - 1)) then ((flow_trimmed.f k1 y175).bind fun t178 => (if x4_1.length < 5864062014805 then (flow_Join.l0 k1 l0 (x4_1 ++ [t178]) ([] : List (S60)) l0 (l0.length : Int) (wrap64 (x13_1 + 1))) else (none))) else (flow_Join.l0 k1 l0 x4_1 y175 l0 (l0.length : Int) (wrap64 (x13_1 + 1)))) = some (r1, r2) := by rw [if_pos rfl] at H; exact H
         clear H
         have H := H1
         clear H1
         by_cases c11 : x13_1 = (wrap64 ((l0.length : Int) - 1))
         ·rw [if_pos c11] at H
          have c11b0 : (x13_1 == (wrap64 ((l0.length : Int) - 1))) = true := beq_iff_eq.mpr c11
          have c11b1 : (x13_1 != (wrap64 ((l0.length : Int) - 1))) = false := bne_eq_false_iff_eq.mpr c11
          clear c11
          replace H := Option.bind_eq_some_iff.mp H
          obtain ⟨t178, A120, H⟩ := H
          replace H : (if x4_1.length < 5864062014805 then (flow_Join.l0 k1 l0 (x4_1 ++ [t178]) ([] : List (S60)) l0 (l0.length : Int) (wrap64 (x13_1 + 1))) else (none)) = some (r1, r2) := H
          have A12 := Aside0.mk A120
          clear A120
          by_cases c13 : x4_1.length < 5864062014805
          ·rw [if_pos c13] at H
           have LMc13 := Aside0.mk c13
           clear c13
           obtain ⟨y181, hy181⟩ : ∃ y_ : List (List (S60)), y_ = (x4_1 ++ [t178]) := ⟨_, rfl⟩
           replace H : (flow_Join.l0 k1 l0 y181 ([] : List (S60)) l0 (l0.length : Int) (wrap64 (x13_1 + 1))) = some (r1, r2) := by first | (rw [hy181]; with_reducible exact H) | (have H2_ := (Option.bind_some _ _).symm.trans H; rw [hy181]; with_reducible exact H2_) | (have H2_ := (Option.bind_some _ _).symm.trans H; with_reducible exact H2_) | with_reducible exact H | (rw [hy181]; exact H) | exact H
           have Ny181 := Aside0.mk hy181
           clear hy181
           have H' := Aside0.mk H
           clear H
           have p173 : 0 ≤ (x13_1 : Int) := of_decide_eq_true za
           have q173 : x13_1 < (l0.length : Int) := of_decide_eq_true za
           obtain ⟨ad173, A173_0, c173_0, e173, hx173_0, hx173_1, hl173_0, hi173_0⟩ := at_T38 HR0.out x13_1 p173 q173
           (try rw [← Nbq9.out] at hx173_1)
           cases e173
           replace hx173_0 := zc HB hx173_0
           replace hx173_1 := zc HB hx173_1
           have HR173_0 := Aside0.mk hi173_0
           have HC173_0 := Aside0.mk hl173_0
           clear hi173_0 hl173_0
           replace p173 := eq_true p173
           replace q173 := eq_true q173
           go_wp2_with (first | ((with_reducible refine gate_dst (N := 7) rfl ?_); (try (refine gate_guard (by rfl) ?_; dsimp only)); refine box_event ?hg (N := 7) ?hd (cs := #[.slice none 0 0, .bool false]) (t := 38) ?hr ?_; (case hd => rfl); (case hg => rfl); (case hr => exact zo); intro gb174 hg w14 hbox hb; replace HO_4 := Aside0.mk (Kd.N_below (Kd.N_elderB (zNa HO_4) gb174 (Nat.le_of_eq hg.symm)) hb); replace HO_5 := (zR HO_5 hb); have BK174 := Aside0.mk (hbox); have GW174 := Aside0.mk ((zg hg : w.heap.size ≤ gb174)); have GE174 := Aside0.mk ((zg hg : w.heap.size ≤ gb174)); replace HB := (zs HB hb); clear hb hbox hg; obtain ⟨hcz15_0, hcz15_1, hfz15_0, hfz15_1⟩ := zq2 (w := w14) BK174) | ((with_reducible refine gate_builtin (b := .append) (xs := #[.tmp 18, .tmp 20]) rfl ?_); (try (refine gate_guard (by rfl) ?_; dsimp only)); at_builtin; refine Kd.R_append_rows k60 (w0 := w) w.heap.size rfl (.tmp 18) (.tmp 20) 36 60 (.agg #[(.string ⟨#[]⟩), (.int .i64 0), (.int .i64 0), (.int .i64 0), (.int .i64 0)]) 48 rfl Tryd.underlying36 info60 rfl (by decide) (by omega) u5 x5_1 ((rd_T38 l0 x13_1).f0) _ _ _ (fun k_ => (w.heap.size ≤ k_)) (fun _ => False) rfl rfl ?aO ?aR (fun _ _ h => h) (fun _ h => h.elim) ?aF ?aB ?aS ?aL ?_; (case aR => exact Kd.C_below HR173_0.out zb); (case aB => exact zb); (case aF => exact (fun k_ hk => (Nat.le_trans (below_size zb) hk))); (case aO => exact (by (with_reducible repeat (first | apply Kd.R_alloc | apply Kd.R_drewN | apply Kd.R_drew)); exact Kd.R_mono (Kd.R_far (p := ⟨gb174, 1, none⟩) (Kd.R_far (p := ⟨gb174, 0, none⟩) (Kd.R_types HO_5.out BK174.out (by decide)) (fun _ hk => hk.2) (.slice A173_0 ((rd_T38 l0 x13_1).f0).length c173_0)) (fun _ hk => hk.2) (.bool true)) (fun _ hk => hk.1))); (case aS => exact (below_size zb)); (case aL => have := LMc8.out; omega); intro v176 w16 ho hb hg hat; rw [← Ny175.out] at ho; have n0_ := Aside0.mk (Kd.N_afterv (ok := (fun k_ => (w.heap.size ≤ k_) ∧ k_ ≠ gb174)) (by (with_reducible repeat (first | apply Kd.N_alloc | apply Kd.N_drewN | apply Kd.N_drew)); exact Kd.N_mono (Kd.N_far (p := ⟨gb174, 1, none⟩) (Kd.N_far (p := ⟨gb174, 0, none⟩) (Kd.N_mono HO_4.out (fun k_ hk => (⟨hk, hk.2⟩ : _ ∧ k_ ≠ gb174))) (fun _ hk => hk.2) (.slice A173_0 ((rd_T38 l0 x13_1).f0).length c173_0)) (fun _ hk => hk.2) (.bool true)) (fun _ hk => ⟨⟨hk.1.1.1, hk.1.2⟩, hk.1.1.2⟩)) hg hat); have n1_ := Aside0.mk (blk_grown (g := gb174) (o := .cells #[.slice A173_0 ((rd_T38 l0 x13_1).f0).length c173_0, .bool true] 38 (0, 0)) (by refine blk_put (cs := #[.slice A173_0 ((rd_T38 l0 x13_1).f0).length c173_0, .bool false]) ?_ 1 _ rfl; refine blk_put (cs := #[.slice none 0 0, .bool false]) ?_ 0 _ rfl; exact BK174.out) hg (Kd.R_ne HO_5.out BK174.out (by decide))); have n2_ := Aside0.mk (hb); have n3_ := Aside0.mk (ho); clear HO_4; clear BK174; clear HB; clear HO_5; have HO_4 := n0_; have BK174 := n1_; have HB := n2_; have HO177 := n3_; clear n0_ n1_ n2_ n3_; clear ho hb hg hat; obtain ⟨hcz17_0, hcz17_1, hfz17_0, hfz17_1⟩ := zq2 (w := w16) BK174; obtain ⟨Ao18, co18, eo18⟩ := Kd.R_slice HO177.out; subst eo18) | ((with_reducible refine gate_callee (f := 44) rfl ?_); refine goesL_ (some 34) rfl rfl Tryd.func44 (by kernel_rfl) rfl #[.slice Ao18 y175.length co18] rfl zl ?_; (with_reducible refine (flow_trimmed.calls k1 (fun k_ => some k_ = (.slice Ao18 y175.length co18 : Value).ownBlock) _ _ y175 t178 _ ?side1 A12.out).mono ?_); (case side1 => exact Kd.R_V (Kd.R_tight rfl (Kd.R_types (Kd.R_apart' (HO177.out) (Kd.N_typed HO_4.out) (by decide)) BK174.out (by decide)))); rintro e w19 ⟨v179, rfl, ho0, hb⟩; refine ⟨_, rfl, ?_⟩; have n0_ := (zN HO_4 hb); have n1_ := (zR HO177 hb); have n2_ := Aside0.mk (Kd.V_lower (Kd.V_mono (ok' := fun k_ => (w.heap.size ≤ k_) ∧ some k_ ≠ (u4 : Value).ownBlock ∧ k_ ≠ gb174) ho0 (fun k_ hk_ => ⟨Or.elim hk_ (fun hs_ => ((Kd.R_types (Kd.R_apart' (HO177.out) (Kd.N_typed HO_4.out) (by decide)) BK174.out (by decide)).1 k_ hs_.symm).1.1) (fun hn_ => (Nat.le_trans (below_size zb) hn_)), Or.elim hk_ (fun hs_ => ((Kd.R_types (Kd.R_apart' (HO177.out) (Kd.N_typed HO_4.out) (by decide)) BK174.out (by decide)).1 k_ hs_.symm).1.2) (fun hn_ => (Kd.fresh' (Kd.N_lt (zNa HO_4)) k_ hn_)), Or.elim hk_ (fun hs_ => ((Kd.R_types (Kd.R_apart' (HO177.out) (Kd.N_typed HO_4.out) (by decide)) BK174.out (by decide)).1 k_ hs_.symm).2) (fun hn_ => (Kd.freshB (g := gb174) (o := .cells #[.slice A173_0 ((rd_T38 l0 x13_1).f0).length c173_0, .bool true] 38 (0, 0)) (by exact BK174.out) k_ hn_))⟩)) (below_size zb)); have n3_ := (zk BK174 hb); have n4_ := (zs HB hb); clear HO_4; clear HO177; clear BK174; clear HB; have HO_4 := n0_; have HO177 := n1_; have HO180 := n2_; have BK174 := n3_; have HB := n4_; clear n0_ n1_ n2_ n3_ n4_; (try clear hb); (try clear hk); (try clear ho0); obtain ⟨Ao21, co21, eo21⟩ := Kd.V_slice HO180.out; subst eo21) | ((with_reducible refine gate_builtin (b := .append) (xs := #[.tmp 32, .tmp 35]) rfl ?_); (try (refine gate_guard (by rfl) ?_; dsimp only)); at_builtin; refine Kd.N_append (Kd.slice 60 k60) (w0 := w) w.heap.size rfl (.tmp 32) (.tmp 35) 39 36 (.slice none 0 0) 24 rfl Tryd.underlying39 info36 rfl (by decide) (by omega) u4 x4_1 t178 [.slice Ao21 t178.length co21] (fun k_ => (w.heap.size ≤ k_) ∧ k_ ≠ gb174) (fun k_ => ((fun k_ => (w.heap.size ≤ k_) ∧ k_ ≠ gb174)) k_ ∧ some k_ ≠ (u4 : Value).ownBlock) rfl rfl ?aP (fun _ hk => hk) ?aF ?aO ?aB ?aS ?aL ?_; (case aP => exact (Kd.FK_slice_mk (Kd.V_reads' (Kd.V_mono (ok' := (fun k_ => ((fun k_ => (w.heap.size ≤ k_) ∧ k_ ≠ gb174)) k_ ∧ some k_ ≠ (u4 : Value).ownBlock)) (HO180.out) (fun k_ hk => ⟨⟨hk.1, hk.2.2⟩, hk.2.1⟩))).2.1 (Kd.V_F (Kd.V_mono (ok' := (fun k_ => ((fun k_ => (w.heap.size ≤ k_) ∧ k_ ≠ gb174)) k_ ∧ some k_ ≠ (u4 : Value).ownBlock)) (HO180.out) (fun k_ hk => ⟨⟨hk.1, hk.2.2⟩, hk.2.1⟩))))); (case aB => exact zb); (case aF => exact (fun k_ hk => ⟨(Nat.le_trans (below_size zb) hk), Kd.freshB (g := gb174) (o := .cells #[.slice A173_0 ((rd_T38 l0 x13_1).f0).length c173_0, .bool true] 38 (0, 0)) (by exact BK174.out) k_ hk⟩)); (case aO => exact (by (with_reducible repeat (first | apply Kd.N_alloc | apply Kd.N_drewN | apply Kd.N_drew)); exact Kd.N_mono HO_4.out (fun _ hk => ⟨hk.1.1, hk.1.2⟩))); (case aS => exact (below_size zb)); (case aL => have := LMc13.out; omega); intro v182 w20 ho hb hg hat; rw [← Ny181.out] at ho; have n0_ := Aside0.mk (blk_grown (g := gb174) (o := .cells #[.slice A173_0 ((rd_T38 l0 x13_1).f0).length c173_0, .bool true] 38 (0, 0)) (by exact BK174.out) hg (Kd.N_ne HO_4.out BK174.out (by decide))); have n1_ := Aside0.mk (Kd.R_over' (zRa HO177) (Kd.N_typed (zNa HO_4)) (by decide) hg); have n2_ := Aside0.mk (Kd.V_afterv (ok := (fun k_ => (w.heap.size ≤ k_) ∧ k_ ≠ gb174)) (by (with_reducible repeat (first | apply Kd.V_alloc | apply Kd.V_drewN | apply Kd.V_drew)); exact Kd.V_mono HO180.out (fun _ hk => ⟨⟨hk.1, hk.2.2⟩, hk.2.1⟩)) hg hat); have n3_ := Aside0.mk (hb); have n4_ := Aside0.mk (ho); clear BK174; clear HO177; clear HO180; clear HB; clear HO_4; have BK174 := n0_; have HO177 := n1_; have HO180 := n2_; have HB := n3_; have HO183 := n4_; clear n0_ n1_ n2_ n3_ n4_; clear ho hb hg hat))
           go_roundg k1
           case measure => have := HK1.out; omega
           case rel => exact ⟨(y181), (([] : List (S60))), (wrap64 (x13_1 + 1)), zf, H', ⟨by have := HK1.out; omega⟩, ⟨by (with_reducible repeat (first | apply Kd.N_alloc | apply Kd.N_drewN | apply Kd.N_drew)); exact Kd.N_mono HO183.out (fun _ hk => ⟨hk.1, (by simp [Value.ownBlock])⟩)⟩, ⟨by first | exact Kd.R_nil _ _ _ _ _ | exact Kd.N_nil _ _ _ _ _ | exact Kd.V_nil _ _ _ _ _ | exact Kd.Q_nil _ _ _ _ _ | exact Kd.S_nil _ _ _ _ _⟩, ⟨zb⟩⟩
          ·rw [if_neg c13] at H
           exact absurd H (by simp)
         ·rw [if_neg c11] at H
          have c11b0 : (x13_1 == (wrap64 ((l0.length : Int) - 1))) = false := beq_eq_false_iff_ne.mpr c11
          have c11b1 : (x13_1 != (wrap64 ((l0.length : Int) - 1))) = true := bne_iff_ne.mpr c11
          have H' := Aside0.mk H
          clear H
          have p173 : 0 ≤ (x13_1 : Int) := of_decide_eq_true za
          have q173 : x13_1 < (l0.length : Int) := of_decide_eq_true za
          obtain ⟨ad173, A173_0, c173_0, e173, hx173_0, hx173_1, hl173_0, hi173_0⟩ := at_T38 HR0.out x13_1 p173 q173
          (try rw [← Nbq9.out] at hx173_1)
          cases e173
          replace hx173_0 := zc HB hx173_0
          replace hx173_1 := zc HB hx173_1
          have HR173_0 := Aside0.mk hi173_0
          have HC173_0 := Aside0.mk hl173_0
          clear hi173_0 hl173_0
          replace p173 := eq_true p173
          replace q173 := eq_true q173
          go_wp2_with (first | ((with_reducible refine gate_dst (N := 7) rfl ?_); (try (refine gate_guard (by rfl) ?_; dsimp only)); refine box_event ?hg (N := 7) ?hd (cs := #[.slice none 0 0, .bool false]) (t := 38) ?hr ?_; (case hd => rfl); (case hg => rfl); (case hr => exact zo); intro gb174 hg w22 hbox hb; replace HO_4 := Aside0.mk (Kd.N_below (Kd.N_elderB (zNa HO_4) gb174 (Nat.le_of_eq hg.symm)) hb); replace HO_5 := (zR HO_5 hb); have BK174 := Aside0.mk (hbox); have GW174 := Aside0.mk ((zg hg : w.heap.size ≤ gb174)); have GE174 := Aside0.mk ((zg hg : w.heap.size ≤ gb174)); replace HB := (zs HB hb); clear hb hbox hg; obtain ⟨hcz23_0, hcz23_1, hfz23_0, hfz23_1⟩ := zq2 (w := w22) BK174) | ((with_reducible refine gate_builtin (b := .append) (xs := #[.tmp 18, .tmp 20]) rfl ?_); (try (refine gate_guard (by rfl) ?_; dsimp only)); at_builtin; refine Kd.R_append_rows k60 (w0 := w) w.heap.size rfl (.tmp 18) (.tmp 20) 36 60 (.agg #[(.string ⟨#[]⟩), (.int .i64 0), (.int .i64 0), (.int .i64 0), (.int .i64 0)]) 48 rfl Tryd.underlying36 info60 rfl (by decide) (by omega) u5 x5_1 ((rd_T38 l0 x13_1).f0) _ _ _ (fun k_ => (w.heap.size ≤ k_)) (fun _ => False) rfl rfl ?aO ?aR (fun _ _ h => h) (fun _ h => h.elim) ?aF ?aB ?aS ?aL ?_; (case aR => exact Kd.C_below HR173_0.out zb); (case aB => exact zb); (case aF => exact (fun k_ hk => (Nat.le_trans (below_size zb) hk))); (case aO => exact (by (with_reducible repeat (first | apply Kd.R_alloc | apply Kd.R_drewN | apply Kd.R_drew)); exact Kd.R_mono (Kd.R_far (p := ⟨gb174, 1, none⟩) (Kd.R_far (p := ⟨gb174, 0, none⟩) (Kd.R_types HO_5.out BK174.out (by decide)) (fun _ hk => hk.2) (.slice A173_0 ((rd_T38 l0 x13_1).f0).length c173_0)) (fun _ hk => hk.2) (.bool true)) (fun _ hk => hk.1))); (case aS => exact (below_size zb)); (case aL => have := LMc8.out; omega); intro v176 w24 ho hb hg hat; rw [← Ny175.out] at ho; have n0_ := Aside0.mk (Kd.N_afterv (ok := (fun k_ => (w.heap.size ≤ k_) ∧ k_ ≠ gb174)) (by (with_reducible repeat (first | apply Kd.N_alloc | apply Kd.N_drewN | apply Kd.N_drew)); exact Kd.N_mono (Kd.N_far (p := ⟨gb174, 1, none⟩) (Kd.N_far (p := ⟨gb174, 0, none⟩) (Kd.N_mono HO_4.out (fun k_ hk => (⟨hk, hk.2⟩ : _ ∧ k_ ≠ gb174))) (fun _ hk => hk.2) (.slice A173_0 ((rd_T38 l0 x13_1).f0).length c173_0)) (fun _ hk => hk.2) (.bool true)) (fun _ hk => ⟨⟨hk.1.1.1, hk.1.2⟩, hk.1.1.2⟩)) hg hat); have n1_ := Aside0.mk (blk_grown (g := gb174) (o := .cells #[.slice A173_0 ((rd_T38 l0 x13_1).f0).length c173_0, .bool true] 38 (0, 0)) (by refine blk_put (cs := #[.slice A173_0 ((rd_T38 l0 x13_1).f0).length c173_0, .bool false]) ?_ 1 _ rfl; refine blk_put (cs := #[.slice none 0 0, .bool false]) ?_ 0 _ rfl; exact BK174.out) hg (Kd.R_ne HO_5.out BK174.out (by decide))); have n2_ := Aside0.mk (hb); have n3_ := Aside0.mk (ho); clear HO_4; clear BK174; clear HB; clear HO_5; have HO_4 := n0_; have BK174 := n1_; have HB := n2_; have HO177 := n3_; clear n0_ n1_ n2_ n3_; clear ho hb hg hat; obtain ⟨hcz25_0, hcz25_1, hfz25_0, hfz25_1⟩ := zq2 (w := w24) BK174))
          go_roundg k1
          case measure => have := HK1.out; omega
          case rel => exact ⟨(x4_1), (y175), (wrap64 (x13_1 + 1)), zf, H', ⟨by have := HK1.out; omega⟩, ⟨by (with_reducible repeat (first | apply Kd.N_alloc | apply Kd.N_drewN | apply Kd.N_drew)); exact Kd.N_mono HO_4.out (fun _ hk => ⟨hk.1.1, hk.2⟩)⟩, ⟨by (with_reducible repeat (first | apply Kd.R_alloc | apply Kd.R_drewN | apply Kd.R_drew)); exact HO177.out⟩, ⟨zb⟩⟩
        ·replace c10 := Bool.eq_false_iff.mpr c10
         subst c10
         have H1 : ((flow_trimmed.f k1 y175).bind fun t184 => (if x4_1.length < 5864062014805 then (flow_Join.l0 k1 l0 (x4_1 ++ [t184]) ([] : List (S60)) l0 (l0.length : Int) (wrap64 (x13_1 + 1))) else (none))) = some (r1, r2) := by rw [if_neg (show ¬ (false = true) by decide)] at H; exact H
         clear H
         have H := H1
         clear H1
         replace H := Option.bind_eq_some_iff.mp H
         obtain ⟨t184, A260, H⟩ := H
         replace H : (if x4_1.length < 5864062014805 then (flow_Join.l0 k1 l0 (x4_1 ++ [t184]) ([] : List (S60)) l0 (l0.length : Int) (wrap64 (x13_1 + 1))) else (none)) = some (r1, r2) := H
         have A26 := Aside0.mk A260
         clear A260
         by_cases c27 : x4_1.length < 5864062014805
         ·rw [if_pos c27] at H
          have LMc27 := Aside0.mk c27
          clear c27
          obtain ⟨y187, hy187⟩ : ∃ y_ : List (List (S60)), y_ = (x4_1 ++ [t184]) := ⟨_, rfl⟩
          replace H : (flow_Join.l0 k1 l0 y187 ([] : List (S60)) l0 (l0.length : Int) (wrap64 (x13_1 + 1))) = some (r1, r2) := by first | (rw [hy187]; with_reducible exact H) | (have H2_ := (Option.bind_some _ _).symm.trans H; rw [hy187]; with_reducible exact H2_) | (have H2_ := (Option.bind_some _ _).symm.trans H; with_reducible exact H2_) | with_reducible exact H | (rw [hy187]; exact H) | exact H
          have Ny187 := Aside0.mk hy187
          clear hy187
          have H' := Aside0.mk H
          clear H
          have p173 : 0 ≤ (x13_1 : Int) := of_decide_eq_true za
          have q173 : x13_1 < (l0.length : Int) := of_decide_eq_true za
          obtain ⟨ad173, A173_0, c173_0, e173, hx173_0, hx173_1, hl173_0, hi173_0⟩ := at_T38 HR0.out x13_1 p173 q173
          (try rw [← Nbq9.out] at hx173_1)
          cases e173
          replace hx173_0 := zc HB hx173_0
          replace hx173_1 := zc HB hx173_1
          have HR173_0 := Aside0.mk hi173_0
          have HC173_0 := Aside0.mk hl173_0
          clear hi173_0 hl173_0
          replace p173 := eq_true p173
          replace q173 := eq_true q173
          go_wp2_with (first | ((with_reducible refine gate_dst (N := 7) rfl ?_); (try (refine gate_guard (by rfl) ?_; dsimp only)); refine box_event ?hg (N := 7) ?hd (cs := #[.slice none 0 0, .bool false]) (t := 38) ?hr ?_; (case hd => rfl); (case hg => rfl); (case hr => exact zo); intro gb174 hg w28 hbox hb; replace HO_4 := Aside0.mk (Kd.N_below (Kd.N_elderB (zNa HO_4) gb174 (Nat.le_of_eq hg.symm)) hb); replace HO_5 := (zR HO_5 hb); have BK174 := Aside0.mk (hbox); have GW174 := Aside0.mk ((zg hg : w.heap.size ≤ gb174)); have GE174 := Aside0.mk ((zg hg : w.heap.size ≤ gb174)); replace HB := (zs HB hb); clear hb hbox hg; obtain ⟨hcz29_0, hcz29_1, hfz29_0, hfz29_1⟩ := zq2 (w := w28) BK174) | ((with_reducible refine gate_builtin (b := .append) (xs := #[.tmp 18, .tmp 20]) rfl ?_); (try (refine gate_guard (by rfl) ?_; dsimp only)); at_builtin; refine Kd.R_append_rows k60 (w0 := w) w.heap.size rfl (.tmp 18) (.tmp 20) 36 60 (.agg #[(.string ⟨#[]⟩), (.int .i64 0), (.int .i64 0), (.int .i64 0), (.int .i64 0)]) 48 rfl Tryd.underlying36 info60 rfl (by decide) (by omega) u5 x5_1 ((rd_T38 l0 x13_1).f0) _ _ _ (fun k_ => (w.heap.size ≤ k_)) (fun _ => False) rfl rfl ?aO ?aR (fun _ _ h => h) (fun _ h => h.elim) ?aF ?aB ?aS ?aL ?_; (case aR => exact Kd.C_below HR173_0.out zb); (case aB => exact zb); (case aF => exact (fun k_ hk => (Nat.le_trans (below_size zb) hk))); (case aO => exact (by (with_reducible repeat (first | apply Kd.R_alloc | apply Kd.R_drewN | apply Kd.R_drew)); exact Kd.R_mono (Kd.R_far (p := ⟨gb174, 1, none⟩) (Kd.R_far (p := ⟨gb174, 0, none⟩) (Kd.R_types HO_5.out BK174.out (by decide)) (fun _ hk => hk.2) (.slice A173_0 ((rd_T38 l0 x13_1).f0).length c173_0)) (fun _ hk => hk.2) (.bool false)) (fun _ hk => hk.1))); (case aS => exact (below_size zb)); (case aL => have := LMc8.out; omega); intro v176 w30 ho hb hg hat; rw [← Ny175.out] at ho; have n0_ := Aside0.mk (Kd.N_afterv (ok := (fun k_ => (w.heap.size ≤ k_) ∧ k_ ≠ gb174)) (by (with_reducible repeat (first | apply Kd.N_alloc | apply Kd.N_drewN | apply Kd.N_drew)); exact Kd.N_mono (Kd.N_far (p := ⟨gb174, 1, none⟩) (Kd.N_far (p := ⟨gb174, 0, none⟩) (Kd.N_mono HO_4.out (fun k_ hk => (⟨hk, hk.2⟩ : _ ∧ k_ ≠ gb174))) (fun _ hk => hk.2) (.slice A173_0 ((rd_T38 l0 x13_1).f0).length c173_0)) (fun _ hk => hk.2) (.bool false)) (fun _ hk => ⟨⟨hk.1.1.1, hk.1.2⟩, hk.1.1.2⟩)) hg hat); have n1_ := Aside0.mk (blk_grown (g := gb174) (o := .cells #[.slice A173_0 ((rd_T38 l0 x13_1).f0).length c173_0, .bool false] 38 (0, 0)) (by refine blk_put (cs := #[.slice A173_0 ((rd_T38 l0 x13_1).f0).length c173_0, .bool false]) ?_ 1 _ rfl; refine blk_put (cs := #[.slice none 0 0, .bool false]) ?_ 0 _ rfl; exact BK174.out) hg (Kd.R_ne HO_5.out BK174.out (by decide))); have n2_ := Aside0.mk (hb); have n3_ := Aside0.mk (ho); clear HO_4; clear BK174; clear HB; clear HO_5; have HO_4 := n0_; have BK174 := n1_; have HB := n2_; have HO177 := n3_; clear n0_ n1_ n2_ n3_; clear ho hb hg hat; obtain ⟨hcz31_0, hcz31_1, hfz31_0, hfz31_1⟩ := zq2 (w := w30) BK174; obtain ⟨Ao32, co32, eo32⟩ := Kd.R_slice HO177.out; subst eo32) | ((with_reducible refine gate_callee (f := 44) rfl ?_); refine goesL_ (some 34) rfl rfl Tryd.func44 (by kernel_rfl) rfl #[.slice Ao32 y175.length co32] rfl zl ?_; (with_reducible refine (flow_trimmed.calls k1 (fun k_ => some k_ = (.slice Ao32 y175.length co32 : Value).ownBlock) _ _ y175 t184 _ ?side1 A26.out).mono ?_); (case side1 => exact Kd.R_V (Kd.R_tight rfl (Kd.R_types (Kd.R_apart' (HO177.out) (Kd.N_typed HO_4.out) (by decide)) BK174.out (by decide)))); rintro e w33 ⟨v185, rfl, ho0, hb⟩; refine ⟨_, rfl, ?_⟩; have n0_ := (zN HO_4 hb); have n1_ := (zR HO177 hb); have n2_ := Aside0.mk (Kd.V_lower (Kd.V_mono (ok' := fun k_ => (w.heap.size ≤ k_) ∧ some k_ ≠ (u4 : Value).ownBlock ∧ k_ ≠ gb174) ho0 (fun k_ hk_ => ⟨Or.elim hk_ (fun hs_ => ((Kd.R_types (Kd.R_apart' (HO177.out) (Kd.N_typed HO_4.out) (by decide)) BK174.out (by decide)).1 k_ hs_.symm).1.1) (fun hn_ => (Nat.le_trans (below_size zb) hn_)), Or.elim hk_ (fun hs_ => ((Kd.R_types (Kd.R_apart' (HO177.out) (Kd.N_typed HO_4.out) (by decide)) BK174.out (by decide)).1 k_ hs_.symm).1.2) (fun hn_ => (Kd.fresh' (Kd.N_lt (zNa HO_4)) k_ hn_)), Or.elim hk_ (fun hs_ => ((Kd.R_types (Kd.R_apart' (HO177.out) (Kd.N_typed HO_4.out) (by decide)) BK174.out (by decide)).1 k_ hs_.symm).2) (fun hn_ => (Kd.freshB (g := gb174) (o := .cells #[.slice A173_0 ((rd_T38 l0 x13_1).f0).length c173_0, .bool false] 38 (0, 0)) (by exact BK174.out) k_ hn_))⟩)) (below_size zb)); have n3_ := (zk BK174 hb); have n4_ := (zs HB hb); clear HO_4; clear HO177; clear BK174; clear HB; have HO_4 := n0_; have HO177 := n1_; have HO186 := n2_; have BK174 := n3_; have HB := n4_; clear n0_ n1_ n2_ n3_ n4_; (try clear hb); (try clear hk); (try clear ho0); obtain ⟨Ao35, co35, eo35⟩ := Kd.V_slice HO186.out; subst eo35) | ((with_reducible refine gate_builtin (b := .append) (xs := #[.tmp 32, .tmp 35]) rfl ?_); (try (refine gate_guard (by rfl) ?_; dsimp only)); at_builtin; refine Kd.N_append (Kd.slice 60 k60) (w0 := w) w.heap.size rfl (.tmp 32) (.tmp 35) 39 36 (.slice none 0 0) 24 rfl Tryd.underlying39 info36 rfl (by decide) (by omega) u4 x4_1 t184 [.slice Ao35 t184.length co35] (fun k_ => (w.heap.size ≤ k_) ∧ k_ ≠ gb174) (fun k_ => ((fun k_ => (w.heap.size ≤ k_) ∧ k_ ≠ gb174)) k_ ∧ some k_ ≠ (u4 : Value).ownBlock) rfl rfl ?aP (fun _ hk => hk) ?aF ?aO ?aB ?aS ?aL ?_; (case aP => exact (Kd.FK_slice_mk (Kd.V_reads' (Kd.V_mono (ok' := (fun k_ => ((fun k_ => (w.heap.size ≤ k_) ∧ k_ ≠ gb174)) k_ ∧ some k_ ≠ (u4 : Value).ownBlock)) (HO186.out) (fun k_ hk => ⟨⟨hk.1, hk.2.2⟩, hk.2.1⟩))).2.1 (Kd.V_F (Kd.V_mono (ok' := (fun k_ => ((fun k_ => (w.heap.size ≤ k_) ∧ k_ ≠ gb174)) k_ ∧ some k_ ≠ (u4 : Value).ownBlock)) (HO186.out) (fun k_ hk => ⟨⟨hk.1, hk.2.2⟩, hk.2.1⟩))))); (case aB => exact zb); (case aF => exact (fun k_ hk => ⟨(Nat.le_trans (below_size zb) hk), Kd.freshB (g := gb174) (o := .cells #[.slice A173_0 ((rd_T38 l0 x13_1).f0).length c173_0, .bool false] 38 (0, 0)) (by exact BK174.out) k_ hk⟩)); (case aO => exact (by (with_reducible repeat (first | apply Kd.N_alloc | apply Kd.N_drewN | apply Kd.N_drew)); exact Kd.N_mono HO_4.out (fun _ hk => ⟨hk.1.1, hk.1.2⟩))); (case aS => exact (below_size zb)); (case aL => have := LMc27.out; omega); intro v188 w34 ho hb hg hat; rw [← Ny187.out] at ho; have n0_ := Aside0.mk (blk_grown (g := gb174) (o := .cells #[.slice A173_0 ((rd_T38 l0 x13_1).f0).length c173_0, .bool false] 38 (0, 0)) (by exact BK174.out) hg (Kd.N_ne HO_4.out BK174.out (by decide))); have n1_ := Aside0.mk (Kd.R_over' (zRa HO177) (Kd.N_typed (zNa HO_4)) (by decide) hg); have n2_ := Aside0.mk (Kd.V_afterv (ok := (fun k_ => (w.heap.size ≤ k_) ∧ k_ ≠ gb174)) (by (with_reducible repeat (first | apply Kd.V_alloc | apply Kd.V_drewN | apply Kd.V_drew)); exact Kd.V_mono HO186.out (fun _ hk => ⟨⟨hk.1, hk.2.2⟩, hk.2.1⟩)) hg hat); have n3_ := Aside0.mk (hb); have n4_ := Aside0.mk (ho); clear BK174; clear HO177; clear HO186; clear HB; clear HO_4; have BK174 := n0_; have HO177 := n1_; have HO186 := n2_; have HB := n3_; have HO189 := n4_; clear n0_ n1_ n2_ n3_ n4_; clear ho hb hg hat))
          go_roundg k1
          case measure => have := HK1.out; omega
          case rel => exact ⟨(y187), (([] : List (S60))), (wrap64 (x13_1 + 1)), zf, H', ⟨by have := HK1.out; omega⟩, ⟨by (with_reducible repeat (first | apply Kd.N_alloc | apply Kd.N_drewN | apply Kd.N_drew)); exact Kd.N_mono HO189.out (fun _ hk => ⟨hk.1, (by simp [Value.ownBlock])⟩)⟩, ⟨by first | exact Kd.R_nil _ _ _ _ _ | exact Kd.N_nil _ _ _ _ _ | exact Kd.V_nil _ _ _ _ _ | exact Kd.Q_nil _ _ _ _ _ | exact Kd.S_nil _ _ _ _ _⟩, ⟨zb⟩⟩
         ·rw [if_neg c27] at H
          exact absurd H (by simp)
       ·rw [if_neg c8] at H
        exact absurd H (by simp)
      ·rw [if_neg c7] at H
       exact absurd H (by simp)
     ·rw [if_neg c6] at H
      exact absurd H (by simp)
    ·rw [if_neg c5] at H
     have c5b0 : decide (x13_1 < (l0.length : Int)) = false := decide_eq_false c5
     clear c5
     simp only [Option.some.injEq, Prod.mk.injEq] at H
     obtain ⟨rfl, rfl⟩ := H
     go_wp2
     go_ret2
     exact ⟨_, ze, by (with_reducible repeat (first | apply Kd.N_alloc | apply Kd.N_drewN | apply Kd.N_drew)); exact Kd.N_mono HO_4.out (fun _ hk => hk.1), zb⟩
 ·replace c3 := Bool.eq_false_iff.mpr c3
  subst c3
  have H1 : (some (([] : List (List (S60))), 1)) = some (r1, r2) := by rw [if_neg (show ¬ (false = true) by decide)] at H; exact H
  clear H
  have H := H1
  clear H1
  simp only [Option.some.injEq, Prod.mk.injEq] at H
  obtain ⟨rfl, rfl⟩ := H
  go_enter Tryd.func18, Tryd.ntmps18
  go_wp2_with (first | ((with_reducible refine gate_callee (f := 43) rfl ?_); refine goesL_ (some 9) rfl rfl Tryd.func43 (by kernel_rfl) rfl #[.slice A0 l0.length c0] rfl zl ?_; (with_reducible refine (flow_may.calls k _ _ l0 false _ ?side1 ?side2 A2.out).mono ?_); (case side1 => repeat (first | exact HR0.out | (with_reducible refine Kd.C_alloc ?_ _) | (with_reducible refine Kd.C_drewN ?_ _) | (with_reducible refine Kd.C_drew ?_))); (case side2 => exact HC0.out); rintro e w36 ⟨rfl, hb⟩; refine ⟨_, rfl, ?_⟩; replace HB := (zs HB hb); (try clear hb)))
  go_ret2
  exact ⟨_, ze, by first | exact Kd.S_nil _ _ _ _ _ | exact Kd.N_nil _ _ _ _ _ | exact Kd.V_nil _ _ _ _ _ | exact Kd.Q_nil _ _ _ _ _ | exact Kd.R_nil _ _ _ _ _, zb⟩
def find_may.f (k : Nat) (l0 : List (S38)) : Option (Bool) := (flow_Join.f k l0).bind fun bt190 => (some (bt190.2 == 0))
set_option maxHeartbeats 8000000 in
set_option maxRecDepth 100000 in
theorem find_may.calls (k : Nat) (A0 : Option Addr) (c0 : Nat) (l0 : List (S38)) (r : Bool) (w : World) (hr0 : Kd.C k38 w A0 l0.length l0) (hc0 : l0.length ≤ c0) (h : find_may.f k l0 = some r) (hT : Tabs w := by first | exact Aside0.out (by with_reducible assumption) | exact Tabs.keepA (by with_reducible assumption) (by repeat (first | (with_reducible exact Aside0.out (by with_reducible assumption)) | (with_reducible apply below_alloc) | (with_reducible apply pw_below_drewN) | (with_reducible apply below_drew1) | (with_reducible refine below_set ?_ (Aside0.out (by with_reducible assumption)))))) :
  Calls Tryd.prog 36 #[.slice A0 l0.length c0] w fun e w' => e = .returned (.bool r) ∧ Below w.heap.size w w' := by
 have HT := Aside0.mk (show Tabs w from hT)
 clear hT
 have HR0 := Aside0.mk hr0
 have HC0 := Aside0.mk hc0
 clear hr0 hc0
 have HB := Aside0.mk (Below.refl w.heap.size w)
 have H : ((flow_Join.f k l0).bind fun bt190 => (some (bt190.2 == 0))) = some r := h
 clear h
 replace H := Option.bind_eq_some_iff.mp H
 obtain ⟨⟨t190, t193⟩, A20, H⟩ := H
 replace H : (some (t193 == 0)) = some r := H
 have A2 := Aside0.mk A20
 clear A20
 obtain rfl := Option.some.inj H
 go_enter Tryd.func36, Tryd.ntmps36
 go_wp2_with (first | ((with_reducible refine gate_callee (f := 18) rfl ?_); refine goesL_ (some 7) rfl rfl Tryd.func18 (by kernel_rfl) rfl #[.slice A0 l0.length c0] rfl zl ?_; (with_reducible refine (flow_Join.calls k _ _ l0 t190 t193 _ ?side1 ?side2 A2.out).mono ?_); (case side1 => repeat (first | exact HR0.out | (with_reducible refine Kd.C_alloc ?_ _) | (with_reducible refine Kd.C_drewN ?_ _) | (with_reducible refine Kd.C_drew ?_))); (case side2 => exact HC0.out); rintro e w3 ⟨v191, rfl, ho0, hb⟩; refine ⟨_, rfl, ?_⟩; have HO192 := Aside0.mk (Kd.N_lower (Kd.N_mono (ok' := fun k_ => True) ho0 (fun k_ hk_ => trivial)) (below_size zb)); replace HB := (zs HB hb); (try clear hb); (try clear ho0)))
 go_ret
 exact ⟨ze, zb⟩
def find_there.f (l0 : List (S38)) (a1 : Int) (a2 : Int) : Option (Bool) := if a1 ≥ 0 then (if a1 < (l0.length : Int) then (if a2 ≥ 0 then (if 0 ≤ a1 then (some (decide (a2 < (((rd_T38 l0 a1).f0).length : Int)))) else (none)) else (some false)) else (some false)) else (some false)
set_option maxHeartbeats 8000000 in
set_option maxRecDepth 100000 in
theorem find_there.calls (A0 : Option Addr) (c0 : Nat) (l0 : List (S38)) (a1 : Int) (a2 : Int) (r : Bool) (w : World) (hr0 : Kd.C k38 w A0 l0.length l0) (hc0 : l0.length ≤ c0) (h : find_there.f l0 a1 a2 = some r) :
  Calls Tryd.prog 37 #[.slice A0 l0.length c0, .int .i64 a1, .int .i64 a2] w fun e w' => e = .returned (.bool r) ∧ Drawn0 w w' := by
 have HR0 := Aside0.mk hr0
 have HC0 := Aside0.mk hc0
 clear hr0 hc0
 have H : (if a1 ≥ 0 then (if a1 < (l0.length : Int) then (if a2 ≥ 0 then (if 0 ≤ a1 then (some (decide (a2 < (((rd_T38 l0 a1).f0).length : Int)))) else (none)) else (some false)) else (some false)) else (some false)) = some r := h
 clear h
 by_cases c4 : a1 ≥ 0
 ·rw [if_pos c4] at H
  have c4b0 : decide (0 ≤ a1) = true := decide_eq_true c4
  clear c4
  by_cases c5 : a1 < (l0.length : Int)
  ·rw [if_pos c5] at H
   have c5b0 : decide (a1 < (l0.length : Int)) = true := decide_eq_true c5
   clear c5
   by_cases c6 : a2 ≥ 0
   ·rw [if_pos c6] at H
    have c6b0 : decide (0 ≤ a2) = true := decide_eq_true c6
    clear c6
    by_cases c7 : 0 ≤ a1
    ·rw [if_pos c7] at H
     have c7b0 : decide (0 ≤ a1) = true := decide_eq_true c7
     clear c7
     obtain rfl := Option.some.inj H
     have p194 : 0 ≤ (a1 : Int) := of_decide_eq_true za
     have q194 : a1 < (l0.length : Int) := of_decide_eq_true za
     obtain ⟨ad194, A194_0, c194_0, e194, hx194_0, hx194_1, hl194_0, hi194_0⟩ := at_T38 HR0.out a1 p194 q194
     cases e194
     have HR194_0 := Aside0.mk hi194_0
     have HC194_0 := Aside0.mk hl194_0
     clear hi194_0 hl194_0
     replace p194 := eq_true p194
     replace q194 := eq_true q194
     go_enter Tryd.func37, Tryd.ntmps37
     go_wp2
     go_ret
     exact ⟨by first | rfl | (simp; done) | (simp [*]; done), by repeat (first | exact Drawn0.refl _ | apply Drawn0.step)⟩
    ·rw [if_neg c7] at H
     exact absurd H (by simp)
   ·rw [if_neg c6] at H
    have c6b0 : decide (0 ≤ a2) = false := decide_eq_false c6
    clear c6
    obtain rfl := Option.some.inj H
    go_enter Tryd.func37, Tryd.ntmps37
    go_wp2
    go_ret
    exact ⟨by first | rfl | (simp; done) | (simp [*]; done), by repeat (first | exact Drawn0.refl _ | apply Drawn0.step)⟩
  ·rw [if_neg c5] at H
   have c5b0 : decide (a1 < (l0.length : Int)) = false := decide_eq_false c5
   clear c5
   obtain rfl := Option.some.inj H
   go_enter Tryd.func37, Tryd.ntmps37
   go_wp2
   go_ret
   exact ⟨by first | rfl | (simp; done) | (simp [*]; done), by repeat (first | exact Drawn0.refl _ | apply Drawn0.step)⟩
 ·rw [if_neg c4] at H
  have c4b0 : decide (0 ≤ a1) = false := decide_eq_false c4
  clear c4
  obtain rfl := Option.some.inj H
  go_enter Tryd.func37, Tryd.ntmps37
  go_wp2
  go_ret
  exact ⟨by first | rfl | (simp; done) | (simp [*]; done), by repeat (first | exact Drawn0.refl _ | apply Drawn0.step)⟩
def cmp_isNaN_int.f (a0 : Int) : Option (Bool) := some (a0 != a0)
set_option maxHeartbeats 8000000 in
set_option maxRecDepth 100000 in
theorem cmp_isNaN_int.calls (a0 : Int) (r : Bool) (w : World) (h : cmp_isNaN_int.f a0 = some r) :
  Calls Tryd.prog 63 #[.int .i64 a0] w fun e w' => e = .returned (.bool r) ∧ Drawn0 w w' := by
 have H : (some (a0 != a0)) = some r := h
 clear h
 obtain rfl := Option.some.inj H
 go_enter Tryd.func63, Tryd.ntmps63
 go_wp2
 go_ret
 exact ⟨by first | rfl | (simp; done) | (simp [*]; done), by repeat (first | exact Drawn0.refl _ | apply Drawn0.step)⟩
def cmp_Compare_int.f (a0 : Int) (a1 : Int) : Option (Int) := (cmp_isNaN_int.f a0).bind fun t196 => ((cmp_isNaN_int.f a1).bind fun t197 => (if t196 = true then (if t197 = true then (some 0) else (some (-1))) else (if t197 = true then (some 1) else (if a0 < a1 then (some (-1)) else (if a0 > a1 then (some 1) else (some 0))))))
set_option maxHeartbeats 8000000 in
set_option maxRecDepth 100000 in
theorem cmp_Compare_int.calls (a0 : Int) (a1 : Int) (r : Int) (w : World) (h : cmp_Compare_int.f a0 a1 = some r) :
  Calls Tryd.prog 40 #[.int .i64 a0, .int .i64 a1] w fun e w' => e = .returned (.int .i64 r) ∧ Drawn0 w w' := by
 have H : ((cmp_isNaN_int.f a0).bind fun t196 => ((cmp_isNaN_int.f a1).bind fun t197 => (if t196 = true then (if t197 = true then (some 0) else (some (-1))) else (if t197 = true then (some 1) else (if a0 < a1 then (some (-1)) else (if a0 > a1 then (some 1) else (some 0))))))) = some r := h
 clear h
 replace H := Option.bind_eq_some_iff.mp H
 obtain ⟨t196, A30, H⟩ := H
 replace H : ((cmp_isNaN_int.f a1).bind fun t197 => (if t196 = true then (if t197 = true then (some 0) else (some (-1))) else (if t197 = true then (some 1) else (if a0 < a1 then (some (-1)) else (if a0 > a1 then (some 1) else (some 0)))))) = some r := H
 have A3 := Aside0.mk A30
 clear A30
 replace H := Option.bind_eq_some_iff.mp H
 obtain ⟨t197, A40, H⟩ := H
 replace H : (if t196 = true then (if t197 = true then (some 0) else (some (-1))) else (if t197 = true then (some 1) else (if a0 < a1 then (some (-1)) else (if a0 > a1 then (some 1) else (some 0))))) = some r := H
 have A4 := Aside0.mk A40
 clear A40
 by_cases c5 : t196 = true
 ·subst c5
  have H1 : (if t197 = true then (some 0) else (some (-1))) = some r := by rw [if_pos rfl] at H; exact H
  clear H
  have H := H1
  clear H1
  by_cases c6 : t197 = true
  ·subst c6
   have H1 : (some 0) = some r := by rw [if_pos rfl] at H; exact H
   clear H
   have H := H1
   clear H1
   obtain rfl := Option.some.inj H
   go_enter Tryd.func40, Tryd.ntmps40
   go_wp2_with (first | ((with_reducible refine gate_callee (f := 63) rfl ?_); refine goesL_ (some 8) rfl rfl Tryd.func63 (by kernel_rfl) rfl #[.int .i64 a0] rfl zl ?_; (with_reducible refine (cmp_isNaN_int.calls a0 true _ A3.out).mono ?_); rintro e w' ⟨rfl, ⟨nd, rfl⟩⟩; refine ⟨_, rfl, ?_⟩) | ((with_reducible refine gate_callee (f := 63) rfl ?_); refine goesL_ (some 10) rfl rfl Tryd.func63 (by kernel_rfl) rfl #[.int .i64 a1] rfl zl ?_; (with_reducible refine (cmp_isNaN_int.calls a1 true _ A4.out).mono ?_); rintro e w' ⟨rfl, ⟨nd, rfl⟩⟩; refine ⟨_, rfl, ?_⟩))
   go_ret
   exact ⟨by first | rfl | (simp; done) | (simp [*]; done), by repeat (first | exact Drawn0.refl _ | apply Drawn0.step)⟩
  ·replace c6 := Bool.eq_false_iff.mpr c6
   subst c6
   have H1 : (some (-1)) = some r := by rw [if_neg (show ¬ (false = true) by decide)] at H; exact H
   clear H
   have H := H1
   clear H1
   obtain rfl := Option.some.inj H
   go_enter Tryd.func40, Tryd.ntmps40
   go_wp2_with (first | ((with_reducible refine gate_callee (f := 63) rfl ?_); refine goesL_ (some 8) rfl rfl Tryd.func63 (by kernel_rfl) rfl #[.int .i64 a0] rfl zl ?_; (with_reducible refine (cmp_isNaN_int.calls a0 true _ A3.out).mono ?_); rintro e w' ⟨rfl, ⟨nd, rfl⟩⟩; refine ⟨_, rfl, ?_⟩) | ((with_reducible refine gate_callee (f := 63) rfl ?_); refine goesL_ (some 10) rfl rfl Tryd.func63 (by kernel_rfl) rfl #[.int .i64 a1] rfl zl ?_; (with_reducible refine (cmp_isNaN_int.calls a1 false _ A4.out).mono ?_); rintro e w' ⟨rfl, ⟨nd, rfl⟩⟩; refine ⟨_, rfl, ?_⟩))
   go_ret
   exact ⟨by first | rfl | (simp; done) | (simp [*]; done), by repeat (first | exact Drawn0.refl _ | apply Drawn0.step)⟩
 ·replace c5 := Bool.eq_false_iff.mpr c5
  subst c5
  have H1 : (if t197 = true then (some 1) else (if a0 < a1 then (some (-1)) else (if a0 > a1 then (some 1) else (some 0)))) = some r := by rw [if_neg (show ¬ (false = true) by decide)] at H; exact H
  clear H
  have H := H1
  clear H1
  by_cases c7 : t197 = true
  ·subst c7
   have H1 : (some 1) = some r := by rw [if_pos rfl] at H; exact H
   clear H
   have H := H1
   clear H1
   obtain rfl := Option.some.inj H
   go_enter Tryd.func40, Tryd.ntmps40
   go_wp2_with (first | ((with_reducible refine gate_callee (f := 63) rfl ?_); refine goesL_ (some 8) rfl rfl Tryd.func63 (by kernel_rfl) rfl #[.int .i64 a0] rfl zl ?_; (with_reducible refine (cmp_isNaN_int.calls a0 false _ A3.out).mono ?_); rintro e w' ⟨rfl, ⟨nd, rfl⟩⟩; refine ⟨_, rfl, ?_⟩) | ((with_reducible refine gate_callee (f := 63) rfl ?_); refine goesL_ (some 10) rfl rfl Tryd.func63 (by kernel_rfl) rfl #[.int .i64 a1] rfl zl ?_; (with_reducible refine (cmp_isNaN_int.calls a1 true _ A4.out).mono ?_); rintro e w' ⟨rfl, ⟨nd, rfl⟩⟩; refine ⟨_, rfl, ?_⟩))
   go_ret
   exact ⟨by first | rfl | (simp; done) | (simp [*]; done), by repeat (first | exact Drawn0.refl _ | apply Drawn0.step)⟩
  ·replace c7 := Bool.eq_false_iff.mpr c7
   subst c7
   have H1 : (if a0 < a1 then (some (-1)) else (if a0 > a1 then (some 1) else (some 0))) = some r := by rw [if_neg (show ¬ (false = true) by decide)] at H; exact H
   clear H
   have H := H1
   clear H1
   by_cases c8 : a0 < a1
   ·rw [if_pos c8] at H
    have c8b0 : decide (a0 < a1) = true := decide_eq_true c8
    clear c8
    obtain rfl := Option.some.inj H
    go_enter Tryd.func40, Tryd.ntmps40
    go_wp2_with (first | ((with_reducible refine gate_callee (f := 63) rfl ?_); refine goesL_ (some 8) rfl rfl Tryd.func63 (by kernel_rfl) rfl #[.int .i64 a0] rfl zl ?_; (with_reducible refine (cmp_isNaN_int.calls a0 false _ A3.out).mono ?_); rintro e w' ⟨rfl, ⟨nd, rfl⟩⟩; refine ⟨_, rfl, ?_⟩) | ((with_reducible refine gate_callee (f := 63) rfl ?_); refine goesL_ (some 10) rfl rfl Tryd.func63 (by kernel_rfl) rfl #[.int .i64 a1] rfl zl ?_; (with_reducible refine (cmp_isNaN_int.calls a1 false _ A4.out).mono ?_); rintro e w' ⟨rfl, ⟨nd, rfl⟩⟩; refine ⟨_, rfl, ?_⟩))
    go_ret
    exact ⟨by first | rfl | (simp; done) | (simp [*]; done), by repeat (first | exact Drawn0.refl _ | apply Drawn0.step)⟩
   ·rw [if_neg c8] at H
    have c8b0 : decide (a0 < a1) = false := decide_eq_false c8
    clear c8
    by_cases c9 : a0 > a1
    ·rw [if_pos c9] at H
     have c9b0 : decide (a1 < a0) = true := decide_eq_true c9
     clear c9
     obtain rfl := Option.some.inj H
     go_enter Tryd.func40, Tryd.ntmps40
     go_wp2_with (first | ((with_reducible refine gate_callee (f := 63) rfl ?_); refine goesL_ (some 8) rfl rfl Tryd.func63 (by kernel_rfl) rfl #[.int .i64 a0] rfl zl ?_; (with_reducible refine (cmp_isNaN_int.calls a0 false _ A3.out).mono ?_); rintro e w' ⟨rfl, ⟨nd, rfl⟩⟩; refine ⟨_, rfl, ?_⟩) | ((with_reducible refine gate_callee (f := 63) rfl ?_); refine goesL_ (some 10) rfl rfl Tryd.func63 (by kernel_rfl) rfl #[.int .i64 a1] rfl zl ?_; (with_reducible refine (cmp_isNaN_int.calls a1 false _ A4.out).mono ?_); rintro e w' ⟨rfl, ⟨nd, rfl⟩⟩; refine ⟨_, rfl, ?_⟩))
     go_ret
     exact ⟨by first | rfl | (simp; done) | (simp [*]; done), by repeat (first | exact Drawn0.refl _ | apply Drawn0.step)⟩
    ·rw [if_neg c9] at H
     have c9b0 : decide (a1 < a0) = false := decide_eq_false c9
     clear c9
     obtain rfl := Option.some.inj H
     go_enter Tryd.func40, Tryd.ntmps40
     go_wp2_with (first | ((with_reducible refine gate_callee (f := 63) rfl ?_); refine goesL_ (some 8) rfl rfl Tryd.func63 (by kernel_rfl) rfl #[.int .i64 a0] rfl zl ?_; (with_reducible refine (cmp_isNaN_int.calls a0 false _ A3.out).mono ?_); rintro e w' ⟨rfl, ⟨nd, rfl⟩⟩; refine ⟨_, rfl, ?_⟩) | ((with_reducible refine gate_callee (f := 63) rfl ?_); refine goesL_ (some 10) rfl rfl Tryd.func63 (by kernel_rfl) rfl #[.int .i64 a1] rfl zl ?_; (with_reducible refine (cmp_isNaN_int.calls a1 false _ A4.out).mono ?_); rintro e w' ⟨rfl, ⟨nd, rfl⟩⟩; refine ⟨_, rfl, ?_⟩))
     go_ret
     exact ⟨by first | rfl | (simp; done) | (simp [*]; done), by repeat (first | exact Drawn0.refl _ | apply Drawn0.step)⟩
def cmp_Or_int.l0 : Nat → Int → List Int → Int → Int → Option (Int)
 | 0, _, _, _, _ => none
 | k + 1, x3, x6, x7, x8 => if x8 < x7 then (if 0 ≤ x8 then (if x8 < (x6.length : Int) then (if (rd x6 x8) = x3 then (cmp_Or_int.l0 k x3 x6 x7 (wrap64 (x8 + 1))) else (some (rd x6 x8))) else (none)) else (none)) else (some x3)
def cmp_Or_int.f (k : Nat) (l0 : List Int) : Option (Int) := cmp_Or_int.l0 k 0 l0 (l0.length : Int) 0
set_option maxHeartbeats 8000000 in
set_option maxRecDepth 100000 in
theorem cmp_Or_int.calls (k : Nat) (A0 : Option Addr) (c0 : Nat) (l0 : List Int) (r : Int) (w : World) (hr0 : Kd.C (Kd.int .i64) w A0 l0.length l0) (hc0 : l0.length ≤ c0) (h : cmp_Or_int.f k l0 = some r) :
  Calls Tryd.prog 39 #[.slice A0 l0.length c0] w fun e w' => e = .returned (.int .i64 r) ∧ Drawn0 w w' := by
 have HR0 := Aside0.mk hr0
 have HC0 := Aside0.mk hc0
 clear hr0 hc0
 have H : (cmp_Or_int.l0 k 0 l0 (l0.length : Int) 0) = some r := h
 clear h
 have H' := Aside0.mk H
 clear H
 go_enter Tryd.func39, Tryd.ntmps39
 go_wp2
 go_loopg [8] k (fun kq v8 w' => ∃ (x8_1 : Int), v8 = .int .i64 x8_1 ∧ Aside0 (cmp_Or_int.l0 kq 0 l0 (l0.length : Int) x8_1 = some r) ∧ Aside0 (kq ≤ k) ∧ Drawn0 w w')
 case atStart => exact ⟨(0), zf, H', ⟨Nat.le_refl _⟩, by repeat (first | exact Drawn0.refl _ | apply Drawn0.step)⟩
 case round =>
  clear H'
  obtain ⟨x8_1, rfl, HA, HK1, ⟨m1, rfl⟩⟩ := hrel
  cases gk with
  | zero => exact absurd HA.out (by simp [cmp_Or_int.l0])
  | succ k1 =>
   have H := HA.out
   clear HA
   simp only [cmp_Or_int.l0] at H
   by_cases c2 : x8_1 < (l0.length : Int)
   ·rw [if_pos c2] at H
    have c2b0 : decide (x8_1 < (l0.length : Int)) = true := decide_eq_true c2
    clear c2
    by_cases c3 : 0 ≤ x8_1
    ·rw [if_pos c3] at H
     have c3b0 : decide (0 ≤ x8_1) = true := decide_eq_true c3
     clear c3
     by_cases c4 : x8_1 < (l0.length : Int)
     ·rw [if_pos c4] at H
      have c4b0 : decide (x8_1 < (l0.length : Int)) = true := decide_eq_true c4
      clear c4
      by_cases c5 : (rd l0 x8_1) = 0
      ·rw [if_pos c5] at H
       have c5b0 : ((rd l0 x8_1) == 0) = true := beq_iff_eq.mpr c5
       have c5b1 : ((rd l0 x8_1) != 0) = false := bne_eq_false_iff_eq.mpr c5
       clear c5
       have H' := Aside0.mk H
       clear H
       have p195 : 0 ≤ (x8_1 : Int) := of_decide_eq_true za
       have q195 : x8_1 < (l0.length : Int) := of_decide_eq_true za
       obtain ⟨ad195, e195, hx195_0⟩ := Kd.at_int HR0.out x8_1 p195 q195
       cases e195
       replace p195 := eq_true p195
       replace q195 := eq_true q195
       go_wp2
       go_roundg k1
       case measure => have := HK1.out; omega
       case rel => exact ⟨(wrap64 (x8_1 + 1)), zf, H', ⟨by have := HK1.out; omega⟩, by repeat (first | exact Drawn0.refl _ | apply Drawn0.step)⟩
      ·rw [if_neg c5] at H
       have c5b0 : ((rd l0 x8_1) == 0) = false := beq_eq_false_iff_ne.mpr c5
       have c5b1 : ((rd l0 x8_1) != 0) = true := bne_iff_ne.mpr c5
       obtain rfl := Option.some.inj H
       have p195 : 0 ≤ (x8_1 : Int) := of_decide_eq_true za
       have q195 : x8_1 < (l0.length : Int) := of_decide_eq_true za
       obtain ⟨ad195, e195, hx195_0⟩ := Kd.at_int HR0.out x8_1 p195 q195
       cases e195
       replace p195 := eq_true p195
       replace q195 := eq_true q195
       go_wp2
       go_ret
       exact ⟨by first | rfl | (simp; done) | (simp [*]; done), by repeat (first | exact Drawn0.refl _ | apply Drawn0.step)⟩
     ·rw [if_neg c4] at H
      exact absurd H (by simp)
    ·rw [if_neg c3] at H
     exact absurd H (by simp)
   ·rw [if_neg c2] at H
    have c2b0 : decide (x8_1 < (l0.length : Int)) = false := decide_eq_false c2
    clear c2
    obtain rfl := Option.some.inj H
    go_wp2
    go_ret
    exact ⟨by first | rfl | (simp; done) | (simp [*]; done), by repeat (first | exact Drawn0.refl _ | apply Drawn0.step)⟩
def stringslite_HasPrefix.f (a0 : ByteArray) (a1 : ByteArray) : Option (Bool) := if (a0.size : Int) ≥ (a1.size : Int) then (if 0 ≤ (a1.size : Int) then (if (a1.size : Int) ≤ (a0.size : Int) then (some ((a0.extract 0 ((a1.size : Int) : Int).toNat).toList == a1.toList)) else (none)) else (none)) else (some false)
set_option maxHeartbeats 8000000 in
set_option maxRecDepth 100000 in
theorem stringslite_HasPrefix.calls (a0 : ByteArray) (a1 : ByteArray) (r : Bool) (w : World) (h : stringslite_HasPrefix.f a0 a1 = some r) :
  Calls Tryd.prog 64 #[.string a0, .string a1] w fun e w' => e = .returned (.bool r) ∧ Drawn0 w w' := by
 have H : (if (a0.size : Int) ≥ (a1.size : Int) then (if 0 ≤ (a1.size : Int) then (if (a1.size : Int) ≤ (a0.size : Int) then (some ((a0.extract 0 ((a1.size : Int) : Int).toNat).toList == a1.toList)) else (none)) else (none)) else (some false)) = some r := h
 clear h
 by_cases c3 : (a0.size : Int) ≥ (a1.size : Int)
 ·rw [if_pos c3] at H
  have c3b0 : decide ((a1.size : Int) ≤ (a0.size : Int)) = true := decide_eq_true c3
  have c3b1 : decide (a1.size ≤ a0.size) = true := decide_eq_true (Int.ofNat_le.mp c3)
  clear c3
  by_cases c4 : 0 ≤ (a1.size : Int)
  ·rw [if_pos c4] at H
   have c4b0 := eq_true c4
   have c4b1 : decide (0 ≤ (a1.size : Int)) = true := decide_eq_true c4
   clear c4
   by_cases c5 : (a1.size : Int) ≤ (a0.size : Int)
   ·rw [if_pos c5] at H
    have c5b0 := eq_true c5
    have c5b1 : decide ((a1.size : Int) ≤ (a0.size : Int)) = true := decide_eq_true c5
    clear c5
    obtain rfl := Option.some.inj H
    go_enter Tryd.func64, Tryd.ntmps64
    go_wp2
    go_ret
    exact ⟨by first | rfl | (simp; done) | (simp [*]; done), by repeat (first | exact Drawn0.refl _ | apply Drawn0.step)⟩
   ·rw [if_neg c5] at H
    exact absurd H (by simp)
  ·rw [if_neg c4] at H
   exact absurd H (by simp)
 ·rw [if_neg c3] at H
  have c3b0 : decide ((a1.size : Int) ≤ (a0.size : Int)) = false := decide_eq_false c3
  have c3b1 : decide (a1.size ≤ a0.size) = false := decide_eq_false (fun h => c3 (Int.ofNat_le.mpr h))
  clear c3
  obtain rfl := Option.some.inj H
  go_enter Tryd.func64, Tryd.ntmps64
  go_wp2
  go_ret
  exact ⟨by first | rfl | (simp; done) | (simp [*]; done), by repeat (first | exact Drawn0.refl _ | apply Drawn0.step)⟩
def strings_HasPrefix.f (a0 : ByteArray) (a1 : ByteArray) : Option (Bool) := (stringslite_HasPrefix.f a0 a1).bind fun t198 => (some t198)
set_option maxHeartbeats 8000000 in
set_option maxRecDepth 100000 in
theorem strings_HasPrefix.calls (a0 : ByteArray) (a1 : ByteArray) (r : Bool) (w : World) (h : strings_HasPrefix.f a0 a1 = some r) :
  Calls Tryd.prog 41 #[.string a0, .string a1] w fun e w' => e = .returned (.bool r) ∧ Drawn0 w w' := by
 have H : ((stringslite_HasPrefix.f a0 a1).bind fun t198 => (some t198)) = some r := h
 clear h
 replace H := Option.bind_eq_some_iff.mp H
 obtain ⟨t198, A30, H⟩ := H
 replace H : (some t198) = some r := H
 have A3 := Aside0.mk A30
 clear A30
 obtain rfl := Option.some.inj H
 go_enter Tryd.func41, Tryd.ntmps41
 go_wp2_with (first | ((with_reducible refine gate_callee (f := 64) rfl ?_); refine goesL_ (some 7) rfl rfl Tryd.func64 (by kernel_rfl) rfl #[.string a0, .string a1] rfl zl ?_; (with_reducible refine (stringslite_HasPrefix.calls a0 a1 t198 _ A3.out).mono ?_); rintro e w' ⟨rfl, ⟨nd, rfl⟩⟩; refine ⟨_, rfl, ?_⟩))
 go_ret
 exact ⟨by first | rfl | (simp; done) | (simp [*]; done), by repeat (first | exact Drawn0.refl _ | apply Drawn0.step)⟩
end Go.Proofs.YtckkdaehmccjlaaDoor.P
namespace Go.Proofs.YtckkdaehmccjlaaDoor.P
open Go.RowKit Go.Proofs.YtckkdaehmccjlaaDoorW.PrintWords Go.Proofs.YtckkdaehmccjlaaDoorW.PrintLast Go.Proofs.YtckkdaehmccjlaaDoorW.PrintMore
attribute [local go_sem] Oper.semAt_some
set_option linter.unusedVariables false
set_option linter.unusedSimpArgs false
def cmpI (a b : Int) : Int := if a < b then -1 else if a > b then 1 else 0
def orI (a b : Int) : Int := if a = 0 then b else a
theorem compare_f (a b : Int) : cmp_Compare_int.f a b = some (cmpI a b) := by
 unfold cmp_Compare_int.f cmp_isNaN_int.f cmpI
 simp
 split <;> (try split) <;> rfl
theorem or_f (a b : Int) : cmp_Or_int.f 5 [a, b] = some (orI a b) := by
 have r0 : ∀ x y : Int, rd [x, y] 0 = x := fun _ _ => rfl
 have r1 : ∀ x y : Int, rd [x, y] 1 = y := fun _ _ => rfl
 have w1 : wrap64 1 = 1 := IntWalk.wrap64_in _ (by omega)
 have w2 : wrap64 2 = 2 := IntWalk.wrap64_in _ (by omega)
 unfold cmp_Or_int.f orI
 by_cases h : a = 0
 ·by_cases h2 : b = 0
  ·simp [cmp_Or_int.l0, r0, r1, w1, w2, h, h2]
  ·simp [cmp_Or_int.l0, r0, r1, w1, h, h2]
 ·simp [cmp_Or_int.l0, r0, h]
theorem two_C {w : World} {x y : Int} {g : Nat} {e : TypeId} (h : w.heap[g]? = some (.cells #[.int .i64 x, .int .i64 y] e (0, 0))) : Kd.C (Kd.int .i64) w (some ⟨g, 0, none⟩) [x, y].length [x, y] := by
 refine ⟨rfl, by simp, fun _ => ⟨_, rfl, fun j p hj => ?_⟩⟩
 match j with
 | 0 => cases hj; exact ⟨[.int .i64 x], rfl, rfl, fun i u hu => by
   match i with
   | 0 => cases hu; exact (blk_cell h 0).trans rfl⟩
 | 1 => cases hj; exact ⟨[.int .i64 y], rfl, rfl, fun i u hu => by
   match i with
   | 0 => cases hu; exact (blk_cell h 1).trans rfl⟩
def cellsAt (l : List S38) (p : Nat × Nat) : List S60 := (rd_T38 l p.1).f0.drop p.2
def wideAt (l : List S38) (p : Nat × Nat) : Int := (rd_T60 (cellsAt l p) 0).f1
def hitO (l : List S38) (s : ByteArray) (row col side : Int) (p : Nat × Nat) : Option Bool :=
 if orI (cmpI p.1 row) (cmpI p.2 col) = side then if 0 < wideAt l p then (find_say.f (cellsAt l p)).bind fun t => strings_HasPrefix.f t s else some false else some false
def seekO (l : List S38) (s : ByteArray) (row col side : Int) : List (Nat × Nat) → Option (Int × Int × Int)
 | [] => some (0, 0, 5)
 | p :: t => (hitO l s row col side p).bind fun b => if b = true then some ((p.1 : Int), (p.2 : Int), 0) else seekO l s row col side t
def okL (l : List S38) : Bool := l.all fun x => decide ((sayL x.f0).length ≤ 140737488355328)
theorem say_at {l : List S38} (h : okL l = true) (p : Nat × Nat) (hp : p.1 < l.length) : ∃ t, find_say.f (cellsAt l p) = some t := by
 unfold find_say.f
 refine ⟨_, if_pos ?_⟩
 have h1 := List.all_eq_true.1 h (l[p.1]) (List.getElem_mem hp)
 have e : rd_T38 l (p.1 : Nat) = l[p.1] := by unfold rd_T38; simp [List.getD_eq_getElem?_getD, hp]
 have h2 := congrArg (fun x => (sayL x).length) (List.take_append_drop p.2 l[p.1].f0)
 simp only [sayL_append, List.length_append] at h2
 have h3 := of_decide_eq_true h1
 unfold cellsAt
 rw [e]
 omega
theorem prefix_at (a b : ByteArray) : ∃ r, strings_HasPrefix.f a b = some r := by
 unfold strings_HasPrefix.f stringslite_HasPrefix.f
 by_cases h : (a.size : Int) ≥ (b.size : Int)
 ·rw [if_pos h, if_pos (by omega), if_pos (by omega)]; exact ⟨_, rfl⟩
 ·rw [if_neg h]; exact ⟨_, rfl⟩
def sideB (back : Bool) : Int := if back = true then -1 else 1
def find_Find.f (k : Nat) (l0 : List S38) (a1 : ByteArray) (a2 : Int) (a3 : Int) (a4 : Bool) : Option (Int × Int × Int) :=
 (find_may.f k l0).bind fun m => if m = true then (find_there.f l0 a2 a3).bind fun t => if t = true then if a1.toList = ([] : List UInt8) then some (0, 0, 1) else if (a1.size : Int) ≤ 64 then if okL l0 = true then seekO l0 a1 a2 a3 (sideB a4) (plc l0 a4) else none else some (0, 0, 1) else some (0, 0, 1) else some (0, 0, 1)
theorem seekO_none {l : List S38} {s : ByteArray} {row col side : Int} : ∀ {ps : List (Nat × Nat)} {r}, seekO l s row col side ps = some r → (∀ p ∈ ps, hitO l s row col side p = some false) → r = (0, 0, 5)
 | [], r, h, _ => (Option.some.inj h).symm
 | p :: t, r, h, hf => by
  unfold seekO at h
  rw [hf p (by simp), Option.bind_some] at h
  exact seekO_none h (fun q hq => hf q (by simp [hq]))
theorem seekO_at {l : List S38} {s : ByteArray} {row col side : Int} : ∀ {pre rest : List (Nat × Nat)} {p r}, seekO l s row col side (pre ++ p :: rest) = some r → (∀ q ∈ pre, hitO l s row col side q = some false) → ∃ b, hitO l s row col side p = some b ∧ (b = true → r = ((p.1 : Int), (p.2 : Int), 0))
 | [], rest, p, r, h, _ => by
  obtain ⟨b, hb, h⟩ := Option.bind_eq_some_iff.1 h
  refine ⟨b, hb, fun e => ?_⟩
  rw [if_pos e] at h
  exact (Option.some.inj h).symm
 | q :: t, rest, p, r, h, hf => by
  rw [List.cons_append] at h
  unfold seekO at h
  rw [hf q (by simp), Option.bind_some] at h
  exact seekO_at h (fun x hx => hf x (by simp [hx]))
theorem or_calls (x y : Int) (w : World) (g : Nat) (e : TypeId) (h : w.heap[g]? = some (.cells #[.int .i64 x, .int .i64 y] e (0, 0))) : Calls Tryd.prog 39 #[.slice (some ⟨g, 0, none⟩) 2 2] w fun e w' => e = .returned (.int .i64 (orI x y)) ∧ Drawn0 w w' :=
 cmp_Or_int.calls 5 (some ⟨g, 0, none⟩) 2 [x, y] (orI x y) w (two_C h) (Nat.le_refl _) (or_f x y)
structure FindBoxes (S : Nat) (A : Option Addr) (n c : Nat) (s : ByteArray) (row col : Int) (W : World) : Prop where
 b5 : W.heap[S]? = some (.cells #[.slice A n c] 22 (0, 0))
 b6 : W.heap[S + 1]? = some (.cells #[.string s] 9 (0, 0))
 b7 : W.heap[S + 1 + 1]? = some (.cells #[.int .i64 row] 3 (0, 0))
 b8 : W.heap[S + 1 + 1 + 1]? = some (.cells #[.int .i64 col] 3 (0, 0))
 b10 : W.heap[S + 1 + 1 + 1 + 1]? = some (.cells #[.int .i64 0] 3 (0, 0))
 b11 : W.heap[S + 1 + 1 + 1 + 1 + 1]? = some (.cells #[.int .i64 0] 3 (0, 0))
 b12 : W.heap[S + 1 + 1 + 1 + 1 + 1 + 1]? = some (.cells #[.int .i64 0] 24 (0, 0))
 size : S + 1 + 1 + 1 + 1 + 1 + 1 + 1 ≤ W.heap.size
theorem FindBoxes.below {S : Nat} {A : Option Addr} {n c : Nat} {s : ByteArray} {row col : Int} {W W' : World} (h : FindBoxes S A n c s row col W) (hb : Below W.heap.size W W') : FindBoxes S A n c s row col W' :=
 have := h.size
 ⟨(hb.block _ (by omega)).trans h.b5, (hb.block _ (by omega)).trans h.b6, (hb.block _ (by omega)).trans h.b7, (hb.block _ (by omega)).trans h.b8, (hb.block _ (by omega)).trans h.b10, (hb.block _ (by omega)).trans h.b11, (hb.block _ (by omega)).trans h.b12, Nat.le_trans h.size hb.size⟩
def findWorld (w : World) (A : Option Addr) (n c : Nat) (s : ByteArray) (row col : Int) : World :=
 ((((((w.alloc (.cells #[.slice A n c] 22)).alloc (.cells #[.string s] 9)).alloc (.cells #[.int .i64 row] 3)).alloc (.cells #[.int .i64 col] 3)).alloc (.cells #[.int .i64 0] 3)).alloc (.cells #[.int .i64 0] 3)).alloc (.cells #[.int .i64 0] 24)
theorem FindBoxes.new (w : World) (A : Option Addr) (n c : Nat) (s : ByteArray) (row col : Int) : FindBoxes w.heap.size A n c s row col (findWorld w A n c s row col) := by
 have h : ∀ (W : World) (o : Obj) (i : Nat), i = W.heap.size → (W.alloc o).heap[i]? = some o := fun W o i e => by subst e; exact blk_new W o
 have h' : ∀ (W : World) (o : Obj) (i : Nat) (r : Option Obj), i < W.heap.size → W.heap[i]? = r → (W.alloc o).heap[i]? = r := fun W o i r hi e => (Below.heap_alloc _ _ _ hi).trans e
 unfold findWorld
 constructor <;> first | (simp only [World.size_alloc]; omega) | (repeat (first | (refine h _ _ _ ?_; simp only [World.size_alloc]; done) | (refine h' _ _ _ _ (by simp only [World.size_alloc]; omega) ?_)))
theorem findWorld_below (w : World) (A : Option Addr) (n c : Nat) (s : ByteArray) (row col : Int) : Below w.heap.size w (findWorld w A n c s row col) :=
 below_alloc (below_alloc (below_alloc (below_alloc (below_alloc (below_alloc (below_alloc (Below.refl _ _) _) _) _) _) _) _) _
theorem FindBoxes.put {S : Nat} {A : Option Addr} {n c : Nat} {s : ByteArray} {row col : Int} {W : World} (h : FindBoxes S A n c s row col W) (x y z : Int) :
  (((W.setCell ⟨S + 1 + 1 + 1 + 1, 0, none⟩ (.int .i64 x)).setCell ⟨S + 1 + 1 + 1 + 1 + 1, 0, none⟩ (.int .i64 y)).setCell ⟨S + 1 + 1 + 1 + 1 + 1 + 1, 0, none⟩ (.int .i64 z)).heap[S + 1 + 1 + 1 + 1]? = some (.cells #[.int .i64 x] 3 (0, 0)) ∧
  (((W.setCell ⟨S + 1 + 1 + 1 + 1, 0, none⟩ (.int .i64 x)).setCell ⟨S + 1 + 1 + 1 + 1 + 1, 0, none⟩ (.int .i64 y)).setCell ⟨S + 1 + 1 + 1 + 1 + 1 + 1, 0, none⟩ (.int .i64 z)).heap[S + 1 + 1 + 1 + 1 + 1]? = some (.cells #[.int .i64 y] 3 (0, 0)) ∧
  (((W.setCell ⟨S + 1 + 1 + 1 + 1, 0, none⟩ (.int .i64 x)).setCell ⟨S + 1 + 1 + 1 + 1 + 1, 0, none⟩ (.int .i64 y)).setCell ⟨S + 1 + 1 + 1 + 1 + 1 + 1, 0, none⟩ (.int .i64 z)).heap[S + 1 + 1 + 1 + 1 + 1 + 1]? = some (.cells #[.int .i64 z] 24 (0, 0)) := by
 refine ⟨?_, ?_, ?_⟩
 ·rw [Below.heap_setCell _ _ _ _ (by simp <;> omega), Below.heap_setCell _ _ _ _ (by simp <;> omega)]
  exact blk_put (cs := #[.int .i64 0]) h.b10 0 _ rfl
 ·rw [Below.heap_setCell _ _ _ _ (by simp <;> omega)]
  exact blk_put (cs := #[.int .i64 0]) ((Below.heap_setCell _ _ _ _ (by simp <;> omega)).trans h.b11) 0 _ rfl
 ·exact blk_put (cs := #[.int .i64 0]) ((Below.heap_setCell _ _ _ _ (by simp <;> omega)).trans ((Below.heap_setCell _ _ _ _ (by simp <;> omega)).trans h.b12)) 0 _ rfl
set_option maxRecDepth 100000 in
set_option maxHeartbeats 4000000 in
theorem find_body (back : Bool) (A0 : Option Addr) (c0 : Nat) (l0 : List S38) (a1 : ByteArray) (a2 a3 : Int) (w ws : World) (N2 : Nat) (HR : Aside0 (Kd.C k38 w A0 l0.length l0)) (hc0 : l0.length ≤ c0) (hok : okL l0 = true)
  (HBS : Aside0 (Below w.heap.size w ws)) (FX : Aside0 (FindBoxes w.heap.size A0 l0.length c0 a1 a2 a3 ws)) (HSD : Aside0 (ws.heap[N2]? = some (.cells #[.int .i64 (sideB back)] 3 (0, 0)))) (hwn : w.heap.size ≤ ws.heap.size)
  (l : Nat) (pre : List (PlcAt l0)) (x : PlcAt l0) (W : World) (hall : ∀ x ∈ pre, hitO l0 a1 a2 a3 (sideB back) x.1 = some false) (hbW : Below ws.heap.size ws W) :
  Code.wpIn (Fence.wide.inRound l) 4 Tryd.prog (Go.Code.block 1 ((Go.Code.region 9 #[{ dst := some 42, op := Go.Op.load 22 (Go.Operand.tmp 5), type := 22, pos := "find.go:68", after := #[], guard := none }, { dst := some 43, op := Go.Op.move (Go.Operand.tmp 14), type := 3, pos := "find.go:68", after := #[], guard := none }, { dst := some 44, op := Go.Op.indexAddr 22 (Go.Operand.tmp 42) (Go.Operand.tmp 43), type := 0, pos := "find.go:68", after := #[{ on := 0, ground := Go.Ground.data }, { on := 1, ground := Go.Ground.data }], guard := none }, { dst := some 45, op := Go.Op.fieldAddr 38 (Go.Operand.tmp 44) 0, type := 0, pos := "find.go:68", after := #[{ on := 2, ground := Go.Ground.data }], guard := none }, { dst := some 46, op := Go.Op.load 36 (Go.Operand.tmp 45), type := 36, pos := "find.go:68", after := #[{ on := 3, ground := Go.Ground.data }], guard := none }, { dst := some 47, op := Go.Op.move (Go.Operand.tmp 15), type := 3, pos := "find.go:68", after := #[], guard := none }, { dst := some 48, op := Go.Op.slice 36 (Go.Operand.tmp 46) (some (Go.Operand.tmp 47)) none none, type := 36, pos := "find.go:68", after := #[{ on := 4, ground := Go.Ground.data }, { on := 5, ground := Go.Ground.data }], guard := none }, { dst := some 16, op := Go.Op.assign (Go.Operand.tmp 48), type := 36, pos := "find.go:68", after := #[{ on := 6, ground := Go.Ground.data }, { on := 0, ground := Go.Ground.phase }, { on := 1, ground := Go.Ground.phase }, { on := 2, ground := Go.Ground.phase }, { on := 3, ground := Go.Ground.phase }, { on := 4, ground := Go.Ground.phase }, { on := 5, ground := Go.Ground.phase }, { on := 6, ground := Go.Ground.phase }], guard := none }] false).seq ((Go.Code.region 10 #[{ dst := some 49, op := Go.Op.move (Go.Operand.tmp 14), type := 3, pos := "find.go:69", after := #[], guard := none }, { dst := some 50, op := Go.Op.load 3 (Go.Operand.tmp 7), type := 3, pos := "find.go:69", after := #[], guard := none }, { dst := some 51, op := Go.Op.call { callee := Go.Callee.value (Go.Operand.func 40), args := #[Go.Operand.tmp 49, Go.Operand.tmp 50], argTypes := #[3, 3] }, type := 3, pos := "find.go:69", after := #[{ on := 0, ground := Go.Ground.data }, { on := 1, ground := Go.Ground.data }], guard := none }, { dst := some 52, op := Go.Op.move (Go.Operand.tmp 15), type := 3, pos := "find.go:69", after := #[], guard := none }, { dst := some 53, op := Go.Op.load 3 (Go.Operand.tmp 8), type := 3, pos := "find.go:69", after := #[], guard := none }, { dst := some 54, op := Go.Op.call { callee := Go.Callee.value (Go.Operand.func 40), args := #[Go.Operand.tmp 52, Go.Operand.tmp 53], argTypes := #[3, 3] }, type := 3, pos := "find.go:69", after := #[{ on := 3, ground := Go.Ground.data }, { on := 4, ground := Go.Ground.data }, { on := 2, ground := Go.Ground.chain }], guard := none }, { dst := some 55, op := Go.Op.buildSlice 93 2 #[(0, Go.Operand.tmp 51), (1, Go.Operand.tmp 54)], type := 93, pos := "find.go:69", after := #[{ on := 2, ground := Go.Ground.data }, { on := 5, ground := Go.Ground.data }], guard := none }, { dst := some 56, op := Go.Op.call { callee := Go.Callee.value (Go.Operand.func 39), args := #[Go.Operand.tmp 55], argTypes := #[93] }, type := 3, pos := "find.go:69", after := #[{ on := 6, ground := Go.Ground.data }, { on := 5, ground := Go.Ground.chain }], guard := none }, { dst := some 57, op := Go.Op.load 3 (Go.Operand.tmp 13), type := 3, pos := "find.go:69", after := #[], guard := none }, { dst := some 58, op := Go.Op.binOp Go.BinOp.eql 3 (Go.Operand.tmp 56) (Go.Operand.tmp 57) 3, type := 4, pos := "find.go:69", after := #[{ on := 7, ground := Go.Ground.data }, { on := 8, ground := Go.Ground.data }], guard := none }, { dst := some 59, op := Go.Op.move (Go.Operand.tmp 58), type := 4, pos := "find.go:69", after := #[{ on := 9, ground := Go.Ground.data }, { on := 7, ground := Go.Ground.chain }], guard := none }, { dst := some 60, op := Go.Op.move (Go.Operand.tmp 16), type := 36, pos := "find.go:69", after := #[{ on := 10, ground := Go.Ground.guard }], guard := some (10, true) }, { dst := some 61, op := Go.Op.indexAddr 36 (Go.Operand.tmp 60) (Go.Operand.const (Go.Value.int Go.IntKind.i64 0)), type := 0, pos := "find.go:69", after := #[{ on := 11, ground := Go.Ground.data }, { on := 10, ground := Go.Ground.guard }], guard := some (10, true) }, { dst := some 62, op := Go.Op.fieldAddr 60 (Go.Operand.tmp 61) 1, type := 0, pos := "find.go:69", after := #[{ on := 12, ground := Go.Ground.data }, { on := 10, ground := Go.Ground.guard }], guard := some (10, true) }, { dst := some 63, op := Go.Op.load 3 (Go.Operand.tmp 62), type := 3, pos := "find.go:69", after := #[{ on := 13, ground := Go.Ground.data }, { on := 10, ground := Go.Ground.guard }], guard := some (10, true) }, { dst := some 64, op := Go.Op.binOp Go.BinOp.gtr 3 (Go.Operand.tmp 63) (Go.Operand.const (Go.Value.int Go.IntKind.i64 0)) 3, type := 4, pos := "find.go:69", after := #[{ on := 14, ground := Go.Ground.data }, { on := 10, ground := Go.Ground.guard }], guard := some (10, true) }, { dst := some 65, op := Go.Op.pick (Go.Operand.tmp 59) (Go.Operand.tmp 64) (Go.Operand.const (Go.Value.bool false)), type := 4, pos := "find.go:69", after := #[{ on := 10, ground := Go.Ground.data }, { on := 15, ground := Go.Ground.data }], guard := none }, { dst := some 66, op := Go.Op.move (Go.Operand.tmp 65), type := 4, pos := "find.go:69", after := #[{ on := 16, ground := Go.Ground.data }, { on := 10, ground := Go.Ground.chain }], guard := none }, { dst := some 67, op := Go.Op.move (Go.Operand.tmp 16), type := 36, pos := "find.go:69", after := #[{ on := 17, ground := Go.Ground.guard }], guard := some (17, true) }, { dst := some 68, op := Go.Op.call { callee := Go.Callee.value (Go.Operand.func 42), args := #[Go.Operand.tmp 67], argTypes := #[36] }, type := 9, pos := "find.go:69", after := #[{ on := 18, ground := Go.Ground.data }, { on := 17, ground := Go.Ground.chain }, { on := 17, ground := Go.Ground.guard }], guard := some (17, true) }, { dst := some 69, op := Go.Op.load 9 (Go.Operand.tmp 6), type := 9, pos := "find.go:69", after := #[{ on := 17, ground := Go.Ground.guard }], guard := some (17, true) }, { dst := some 70, op := Go.Op.call { callee := Go.Callee.value (Go.Operand.func 41), args := #[Go.Operand.tmp 68, Go.Operand.tmp 69], argTypes := #[9, 9] }, type := 4, pos := "find.go:69", after := #[{ on := 19, ground := Go.Ground.data }, { on := 20, ground := Go.Ground.data }, { on := 19, ground := Go.Ground.chain }, { on := 17, ground := Go.Ground.guard }], guard := some (17, true) }, { dst := some 71, op := Go.Op.pick (Go.Operand.tmp 66) (Go.Operand.tmp 70) (Go.Operand.const (Go.Value.bool false)), type := 4, pos := "find.go:69", after := #[{ on := 17, ground := Go.Ground.data }, { on := 21, ground := Go.Ground.data }], guard := none }] true).seq (Go.Code.cond (Go.Operand.tmp 71) ((Go.Code.region 11 #[{ dst := some 72, op := Go.Op.move (Go.Operand.tmp 14), type := 3, pos := "find.go:70", after := #[], guard := none }, { dst := some 73, op := Go.Op.move (Go.Operand.tmp 15), type := 3, pos := "find.go:70", after := #[{ on := 2, ground := Go.Ground.gcOnly Go.Departure.lateStores }], guard := none }, { dst := none, op := Go.Op.store 3 (Go.Operand.tmp 10) (Go.Operand.tmp 72), type := 0, pos := "find.go:70", after := #[{ on := 0, ground := Go.Ground.data }, { on := 0, ground := Go.Ground.phase }, { on := 1, ground := Go.Ground.textOnly Go.Departure.lateStores }], guard := none }, { dst := none, op := Go.Op.store 3 (Go.Operand.tmp 11) (Go.Operand.tmp 73), type := 0, pos := "find.go:70", after := #[{ on := 1, ground := Go.Ground.data }, { on := 2, ground := Go.Ground.chain }, { on := 0, ground := Go.Ground.phase }, { on := 1, ground := Go.Ground.phase }, { on := 2, ground := Go.Ground.phase }], guard := none }, { dst := none, op := Go.Op.store 24 (Go.Operand.tmp 12) (Go.Operand.const (Go.Value.int Go.IntKind.i64 0)), type := 0, pos := "find.go:70", after := #[{ on := 3, ground := Go.Ground.chain }, { on := 0, ground := Go.Ground.phase }, { on := 1, ground := Go.Ground.phase }, { on := 2, ground := Go.Ground.phase }, { on := 3, ground := Go.Ground.phase }], guard := none }] false).seq Go.Code.ret) Go.Code.skip)))) (ownPostK (Below ws.heap.size) (fun pre W => (∀ x ∈ pre, hitO l0 a1 a2 a3 (sideB back) x.1 = some false) ∧ Below ws.heap.size ws W) (fun c pre W => (c = .ret ∧ (∃ pre' x, pre = pre' ++ [x] ∧ (∀ y ∈ pre', hitO l0 a1 a2 a3 (sideB back) y.1 = some false) ∧ hitO l0 a1 a2 a3 (sideB back) x.1 = some true ∧ W.heap[w.heap.size + 1 + 1 + 1 + 1]? = some (.cells #[.int .i64 (x.1.1 : Nat)] 3 (0, 0)) ∧ W.heap[w.heap.size + 1 + 1 + 1 + 1 + 1]? = some (.cells #[.int .i64 (x.1.2 : Nat)] 3 (0, 0)) ∧ W.heap[w.heap.size + 1 + 1 + 1 + 1 + 1 + 1]? = some (.cells #[.int .i64 0] 24 (0, 0)))) ∧ Below w.heap.size w W) (pre ++ [x]) W) { tmps := #[.slice A0 l0.length c0, .string a1, .int .i64 a2, .int .i64 a3, .bool back, .pointer (some ⟨w.heap.size, 0, none⟩), .pointer (some ⟨w.heap.size + 1, 0, none⟩), .pointer (some ⟨w.heap.size + 1 + 1, 0, none⟩), .pointer (some ⟨w.heap.size + 1 + 1 + 1, 0, none⟩), undef, .pointer (some ⟨w.heap.size + 1 + 1 + 1 + 1, 0, none⟩), .pointer (some ⟨w.heap.size + 1 + 1 + 1 + 1 + 1, 0, none⟩), .pointer (some ⟨w.heap.size + 1 + 1 + 1 + 1 + 1 + 1, 0, none⟩), .pointer (some ⟨N2, 0, none⟩), .int .i64 (x.1.1 : Nat), .int .i64 (x.1.2 : Nat), undef, .slice A0 l0.length c0, .bool true, .bool false, .bool false, .slice A0 l0.length c0, .int .i64 a2, .int .i64 a3, .bool true, .bool false, .bool false, .bool false, .string a1, .bool false, .bool false, .bool false, .string a1, .int .i64 a1.size, .bool false, .bool false, .bool back, .slice A0 l0.length c0, .bool back, .func (.func 62) #[] #[.pointer (some ⟨N2 + 1, 0, none⟩), .pointer (some ⟨N2 + 1 + 1, 0, none⟩)], .int .i64 (x.1.1 : Nat), .int .i64 (x.1.2 : Nat), undef, undef, undef, undef, undef, undef, undef, undef, undef, undef, undef, undef, undef, undef, undef, undef, undef, undef, undef, undef, undef, undef, undef, undef, undef, undef, undef, undef, undef, undef, undef, undef], defers := [] } W := by
 have hxl : x.1.1 < l0.length := x.2.1
 have hxc : x.1.2 < (rd_T38 l0 (x.1.1 : Nat)).f0.length := x.2.2
 obtain ⟨ad, Al, cl, e0, hx0, hx1, hl0, hi0⟩ := at_T38 (Kd.C_below HR.out (HBS.out.trans (hbW.mono hwn))) (x.1.1 : Nat) (by omega) (by omega)
 cases e0
 obtain ⟨adl, e0, _⟩ := hi0.2.2 (by omega)
 cases e0
 simp only [Int.toNat_natCast] at hx0 hx1
 have hmx := Kd.C_max hi0
 obtain ⟨ts, hts⟩ := say_at hok x.1 hxl
 obtain ⟨bp, hbp⟩ := prefix_at ts a1
 have hCd := Kd.C_drop (m := x.1.2) hi0 (by omega) hl0
 rw [if_neg (by omega), show k60.sz = 5 from rfl] at hCd
 have hlen : (cellsAt l0 x.1).length = (rd_T38 l0 (x.1.1 : Nat)).f0.length - x.1.2 := List.length_drop
 have hCe : Kd.C k60 W (some (adl.add (x.1.2 * 5))) ((rd_T38 l0 (x.1.1 : Nat)).f0.length - x.1.2) (cellsAt l0 x.1) := by rw [← hlen]; exact hCd
 have hidx : 0 < (rd_T38 l0 (x.1.1 : Nat)).f0.length - x.1.2 := by omega
 have CS : Aside0 (∀ W' : World, Below W.heap.size W W' → Calls Tryd.prog 42 #[.slice (some (adl.add (x.1.2 * 5))) ((rd_T38 l0 (x.1.1 : Nat)).f0.length - x.1.2) (cl - x.1.2)] W' fun e w' => e = .returned (.string ts) ∧ Below W'.heap.size W' w') := ⟨fun W' hW' => by
  have := find_say.calls (some (adl.add (x.1.2 * 5))) (cl - x.1.2) _ ts W' (by rw [hlen]; exact Kd.C_below hCe hW') (by rw [hlen]; omega) hts
  rwa [hlen] at this⟩
 obtain ⟨adc, e0, _, hw1, _⟩ := at_T60 hCe 0 (by omega) (by omega)
 cases e0
 have hw : W.cell? ⟨(adl.add (x.1.2 * 5)).block, (adl.add (x.1.2 * 5)).off + 1, none⟩ = some (.int .i64 (wideAt l0 x.1)) := hw1
 have a5 := (blk_cell (FX.out.below hbW).b5 0).trans rfl
 have FW := Aside0.mk (FX.out.below hbW)
 have HSW := Aside0.mk ((hbW.block _ (blk_lt HSD.out)).trans HSD.out)
 have HS : Aside0 (∀ w' : World, Below W.heap.size W w' → (w'.cell? ⟨w.heap.size + 1 + 1, 0, none⟩ = some (.int .i64 a2) ∧ w'.cell? ⟨w.heap.size + 1 + 1 + 1, 0, none⟩ = some (.int .i64 a3) ∧ w'.cell? ⟨N2, 0, none⟩ = some (.int .i64 (sideB back)) ∧ w'.cell? ⟨w.heap.size + 1, 0, none⟩ = some (.string a1) ∧ w'.cell? ⟨(adl.add (x.1.2 * 5)).block, (adl.add (x.1.2 * 5)).off + 1, none⟩ = some (.int .i64 (wideAt l0 x.1)))) := ⟨fun w' hb => ⟨(blk_cell (FW.out.below hb).b7 0).trans rfl, (blk_cell (FW.out.below hb).b8 0).trans rfl, (blk_cell ((hb.block _ (blk_lt HSW.out)).trans HSW.out) 0).trans rfl, (blk_cell (FW.out.below hb).b6 0).trans rfl, (hb.cell (World.block_lt_of_cell? W _ hw)).trans hw⟩⟩
 have HB0 : Aside0 (Below W.heap.size W W.drew) := ⟨(Below.refl _ _).drew⟩
 have HBW := Aside0.mk hbW
 have HALL := Aside0.mk hall
 have HBP := Aside0.mk hbp
 have HTS := Aside0.mk hts
 clear hi0 hbW hall hx1 hCd hCe hw1 hw hlen
 by_cases hq : orI (cmpI (x.1.1 : Nat) a2) (cmpI (x.1.2 : Nat) a3) = sideB back
 ·have hqb : (orI (cmpI (x.1.1 : Nat) a2) (cmpI (x.1.2 : Nat) a3) == sideB back) = true := beq_iff_eq.mpr hq
  by_cases hp : 0 < wideAt l0 x.1
  ·have hpb : decide (0 < wideAt l0 x.1) = true := decide_eq_true hp
   have HIT : Aside0 (hitO l0 a1 a2 a3 (sideB back) x.1 = some bp) := ⟨by unfold hitO; rw [if_pos hq, if_pos hp, hts]; exact hbp⟩
   clear hq hp hbp hts
   gi_wp2
   refine startR_ (n := 23) (S := fun w' => w'.cell? ⟨w.heap.size + 1 + 1, 0, none⟩ = some (.int .i64 a2) ∧ w'.cell? ⟨w.heap.size + 1 + 1 + 1, 0, none⟩ = some (.int .i64 a3) ∧ w'.cell? ⟨N2, 0, none⟩ = some (.int .i64 (sideB back)) ∧ w'.cell? ⟨w.heap.size + 1, 0, none⟩ = some (.string a1) ∧ w'.cell? ⟨(adl.add (x.1.2 * 5)).block, (adl.add (x.1.2 * 5)).off + 1, none⟩ = some (.int .i64 (wideAt l0 x.1))) (ds := []) #[false, false, false, false, false, false, false, false, false, false, false, false, false, false, false, false, false, false, false, false, false, false, false] (by kernel_rfl) (by rintro ⟨a, w, h⟩; exact h) (by kernel_rfl) rfl rfl (HS.out _ HB0.out) (fun hHeld => ?_)
   refine pure_ (i := 0) (N := some 49) (v := ?_) (a' := ?_) #[true, false, false, false, false, false, false, false, false, false, false, false, false, false, false, false, false, false, false, false, false, false, false] rfl rfl (by kernel_rfl) (fun _ _ _ h => h) (Or.inl ⟨by rfl, ?_⟩) ?_ ?_
   rotate_left
   ·intro w'
    go_simp
    with_reducible rfl
   rotate_left
   ·exact zr
   refine pure_ (i := 3) (N := some 52) (v := ?_) (a' := ?_) #[true, false, false, true, false, false, false, false, false, false, false, false, false, false, false, false, false, false, false, false, false, false, false] rfl rfl (by kernel_rfl) (fun _ _ _ h => h) (Or.inl ⟨by rfl, ?_⟩) ?_ ?_
   rotate_left
   ·intro w'
    go_simp
    with_reducible rfl
   rotate_left
   ·exact zr
   refine take_ (i := 1) (N := some 50) (v := ?_) (a' := ?_) #[true, true, false, true, false, false, false, false, false, false, false, false, false, false, false, false, false, false, false, false, false, false, false] rfl rfl (by kernel_rfl) (fun _ _ _ h => h) (Or.inl ⟨by rfl, ?_⟩) hHeld ?_ ?_
   rotate_left
   ·rintro w' ⟨s0, s1, s2, s3, s4⟩
    go_simp
    with_reducible rfl
   rotate_left
   ·exact zr
   refine take_ (i := 4) (N := some 53) (v := ?_) (a' := ?_) #[true, true, false, true, true, false, false, false, false, false, false, false, false, false, false, false, false, false, false, false, false, false, false] rfl rfl (by kernel_rfl) (fun _ _ _ h => h) (Or.inl ⟨by rfl, ?_⟩) hHeld ?_ ?_
   rotate_left
   ·rintro w' ⟨s0, s1, s2, s3, s4⟩
    go_simp
    with_reducible rfl
   rotate_left
   ·exact zr
   refine take_ (i := 8) (N := some 57) (v := ?_) (a' := ?_) #[true, true, false, true, true, false, false, false, true, false, false, false, false, false, false, false, false, false, false, false, false, false, false] rfl rfl (by kernel_rfl) (fun _ _ _ h => h) (Or.inl ⟨by rfl, ?_⟩) hHeld ?_ ?_
   rotate_left
   ·rintro w' ⟨s0, s1, s2, s3, s4⟩
    go_simp
    with_reducible rfl
   rotate_left
   ·exact zr
   refine one_ (i := 2) (N := some 51) #[true, true, true, true, true, false, false, false, true, false, false, false, false, false, false, false, false, false, false, false, false, false, false] rfl rfl (by kernel_rfl) (by decide) (fun K hK => ?_)
   refine goes_ Tryd.func40 (by kernel_rfl) rfl #[.int .i64 (x.1.1 : Nat), .int .i64 a2] (by rfl) rfl rfl zm ?_
   with_reducible refine (cmp_Compare_int.calls _ _ _ _ (compare_f (x.1.1 : Nat) a2)).mono ?_
   rintro e w3 ⟨rfl, hd⟩
   refine ⟨_, rfl, ?_⟩
   have HB1 := Aside0.mk (below_step HB0.out hd.below)
   clear hd
   refine hK.out _ _ (HS.out _ HB1.out) (fun hHeld => ?_)
   clear hK K
   refine norm_ (a' := ?_) ?_ ?_
   rotate_left
   ·show Act.put _ (some 51) _ = _
    simp only [Act.put, List.setIfInBounds_toArray, List.set_cons_zero, List.set_cons_succ, i64_w, i32_w]
    rfl
   refine one_ (i := 5) (N := some 54) #[true, true, true, true, true, true, false, false, true, false, false, false, false, false, false, false, false, false, false, false, false, false, false] rfl rfl (by kernel_rfl) (by decide) (fun K hK => ?_)
   refine goes_ Tryd.func40 (by kernel_rfl) rfl #[.int .i64 (x.1.2 : Nat), .int .i64 a3] (by rfl) rfl rfl zm ?_
   with_reducible refine (cmp_Compare_int.calls _ _ _ _ (compare_f (x.1.2 : Nat) a3)).mono ?_
   rintro e w4 ⟨rfl, hd⟩
   refine ⟨_, rfl, ?_⟩
   have HB2 := Aside0.mk (below_step HB1.out hd.below)
   clear hd
   refine hK.out _ _ (HS.out _ HB2.out) (fun hHeld => ?_)
   clear hK K
   refine norm_ (a' := ?_) ?_ ?_
   rotate_left
   ·show Act.put _ (some 54) _ = _
    simp only [Act.put, List.setIfInBounds_toArray, List.set_cons_zero, List.set_cons_succ, i64_w, i32_w]
    rfl
   refine one_ (i := 6) (N := some 55) #[true, true, true, true, true, true, true, false, true, false, false, false, false, false, false, false, false, false, false, false, false, false, false] rfl rfl (by kernel_rfl) (by decide) (fun K hK => ?_)
   refine value_ (w1 := ?_) (v := ?_) (by rfl) rfl ?_ ?_
   rotate_left 2
   ·go_simp
    constructor
    ·rfl
    ·rfl
   refine hK.out _ _ (HS.out _ (below_alloc HB2.out _)) (fun hHeld => ?_)
   clear hK K
   refine norm_ (a' := ?_) ?_ ?_
   rotate_left
   ·show Act.put _ (some 55) _ = _
    simp only [Act.put, List.setIfInBounds_toArray, List.set_cons_zero, List.set_cons_succ, i64_w, i32_w]
    rfl
   refine one_ (i := 7) (N := some 56) #[true, true, true, true, true, true, true, true, true, false, false, false, false, false, false, false, false, false, false, false, false, false, false] rfl rfl (by kernel_rfl) (by decide) (fun K hK => ?_)
   refine goes_ Tryd.func39 (by kernel_rfl) rfl #[.slice (some ⟨w4.heap.size, 0, none⟩) 2 2] (by rfl) rfl rfl zm ?_
   with_reducible refine (or_calls _ _ _ _ _ (blk_new _ _)).mono ?_
   rintro e w5 ⟨rfl, hd⟩
   refine ⟨_, rfl, ?_⟩
   have HB4 := Aside0.mk (below_step (below_alloc HB2.out _) hd.below)
   clear hd
   refine hK.out _ _ (HS.out _ HB4.out) (fun hHeld => ?_)
   clear hK K
   refine norm_ (a' := ?_) ?_ ?_
   rotate_left
   ·show Act.put _ (some 56) _ = _
    simp only [Act.put, List.setIfInBounds_toArray, List.set_cons_zero, List.set_cons_succ, i64_w, i32_w]
    rfl
   refine pure_ (i := 9) (N := some 58) (v := ?_) (a' := ?_) #[true, true, true, true, true, true, true, true, true, true, false, false, false, false, false, false, false, false, false, false, false, false, false] rfl rfl (by kernel_rfl) (fun _ _ _ h => h) (Or.inl ⟨by rfl, ?_⟩) ?_ ?_
   rotate_left
   ·intro w'
    go_simp
    with_reducible rfl
   rotate_left
   ·exact zr
   refine pure_ (i := 10) (N := some 59) (v := ?_) (a' := ?_) #[true, true, true, true, true, true, true, true, true, true, true, false, false, false, false, false, false, false, false, false, false, false, false] rfl rfl (by kernel_rfl) (fun _ _ _ h => h) (Or.inl ⟨by rfl, ?_⟩) ?_ ?_
   rotate_left
   ·intro w'
    go_simp
    with_reducible rfl
   rotate_left
   ·exact zr
   refine pure_ (i := 11) (N := some 60) (v := ?_) (a' := ?_) #[true, true, true, true, true, true, true, true, true, true, true, true, false, false, false, false, false, false, false, false, false, false, false] rfl rfl (by kernel_rfl) (fun _ _ _ h => h) (Or.inl ⟨by rfl, ?_⟩) ?_ ?_
   rotate_left
   ·intro w'
    go_simp
    with_reducible rfl
   rotate_left
   ·exact zr
   refine pure_ (i := 12) (N := some 61) (v := ?_) (a' := ?_) #[true, true, true, true, true, true, true, true, true, true, true, true, true, false, false, false, false, false, false, false, false, false, false] rfl rfl (by kernel_rfl) (fun _ _ _ h => h) (Or.inl ⟨by rfl, ?_⟩) ?_ ?_
   rotate_left
   ·intro w'
    go_simp
    with_reducible rfl
   rotate_left
   ·exact zr
   refine pure_ (i := 13) (N := some 62) (v := ?_) (a' := ?_) #[true, true, true, true, true, true, true, true, true, true, true, true, true, true, false, false, false, false, false, false, false, false, false] rfl rfl (by kernel_rfl) (fun _ _ _ h => h) (Or.inl ⟨by rfl, ?_⟩) ?_ ?_
   rotate_left
   ·intro w'
    go_simp
    with_reducible rfl
   rotate_left
   ·exact zr
   refine take_ (i := 14) (N := some 63) (v := ?_) (a' := ?_) #[true, true, true, true, true, true, true, true, true, true, true, true, true, true, true, false, false, false, false, false, false, false, false] rfl rfl (by kernel_rfl) (fun _ _ _ h => h) (Or.inl ⟨by rfl, ?_⟩) hHeld ?_ ?_
   rotate_left
   ·rintro w' ⟨s0, s1, s2, s3, s4⟩
    go_simp
    with_reducible rfl
   rotate_left
   ·exact zr
   refine pure_ (i := 15) (N := some 64) (v := ?_) (a' := ?_) #[true, true, true, true, true, true, true, true, true, true, true, true, true, true, true, true, false, false, false, false, false, false, false] rfl rfl (by kernel_rfl) (fun _ _ _ h => h) (Or.inl ⟨by rfl, ?_⟩) ?_ ?_
   rotate_left
   ·intro w'
    go_simp
    with_reducible rfl
   rotate_left
   ·exact zr
   refine pure_ (i := 16) (N := some 65) (v := ?_) (a' := ?_) #[true, true, true, true, true, true, true, true, true, true, true, true, true, true, true, true, true, false, false, false, false, false, false] rfl rfl (by kernel_rfl) (fun _ _ _ h => h) (Or.inl ⟨by rfl, ?_⟩) ?_ ?_
   rotate_left
   ·intro w'
    go_simp
    with_reducible rfl
   rotate_left
   ·exact zr
   refine pure_ (i := 17) (N := some 66) (v := ?_) (a' := ?_) #[true, true, true, true, true, true, true, true, true, true, true, true, true, true, true, true, true, true, false, false, false, false, false] rfl rfl (by kernel_rfl) (fun _ _ _ h => h) (Or.inl ⟨by rfl, ?_⟩) ?_ ?_
   rotate_left
   ·intro w'
    go_simp
    with_reducible rfl
   rotate_left
   ·exact zr
   refine pure_ (i := 18) (N := some 67) (v := ?_) (a' := ?_) #[true, true, true, true, true, true, true, true, true, true, true, true, true, true, true, true, true, true, true, false, false, false, false] rfl rfl (by kernel_rfl) (fun _ _ _ h => h) (Or.inl ⟨by rfl, ?_⟩) ?_ ?_
   rotate_left
   ·intro w'
    go_simp
    with_reducible rfl
   rotate_left
   ·exact zr
   refine take_ (i := 20) (N := some 69) (v := ?_) (a' := ?_) #[true, true, true, true, true, true, true, true, true, true, true, true, true, true, true, true, true, true, true, false, true, false, false] rfl rfl (by kernel_rfl) (fun _ _ _ h => h) (Or.inl ⟨by rfl, ?_⟩) hHeld ?_ ?_
   rotate_left
   ·rintro w' ⟨s0, s1, s2, s3, s4⟩
    go_simp
    with_reducible rfl
   rotate_left
   ·exact zr
   refine one_ (i := 19) (N := some 68) #[true, true, true, true, true, true, true, true, true, true, true, true, true, true, true, true, true, true, true, true, true, false, false] rfl rfl (by kernel_rfl) (by decide) (fun K hK => ?_)
   refine goes_ Tryd.func42 (by kernel_rfl) rfl #[.slice (some (adl.add (x.1.2 * 5))) ((rd_T38 l0 (x.1.1 : Nat)).f0.length - x.1.2) (cl - x.1.2)] (by rfl) rfl rfl zm ?_
   with_reducible refine (CS.out _ HB4.out).mono ?_
   rintro e w6 ⟨rfl, hb⟩
   refine ⟨_, rfl, ?_⟩
   have HB5 := Aside0.mk (below_step HB4.out hb)
   clear hb
   refine hK.out _ _ (HS.out _ HB5.out) (fun hHeld => ?_)
   clear hK K
   refine norm_ (a' := ?_) ?_ ?_
   rotate_left
   ·show Act.put _ (some 68) _ = _
    simp only [Act.put, List.setIfInBounds_toArray, List.set_cons_zero, List.set_cons_succ, i64_w, i32_w]
    rfl
   refine one_ (i := 21) (N := some 70) #[true, true, true, true, true, true, true, true, true, true, true, true, true, true, true, true, true, true, true, true, true, true, false] rfl rfl (by kernel_rfl) (by decide) (fun K hK => ?_)
   refine goes_ Tryd.func41 (by kernel_rfl) rfl #[.string ts, .string a1] (by rfl) rfl rfl zm ?_
   with_reducible refine (strings_HasPrefix.calls _ _ bp _ HBP.out).mono ?_
   rintro e w7 ⟨rfl, hd⟩
   refine ⟨_, rfl, ?_⟩
   have HB6 := Aside0.mk (below_step HB5.out hd.below)
   clear hd
   refine hK.out _ _ (HS.out _ HB6.out) (fun hHeld => ?_)
   clear hK K
   refine norm_ (a' := ?_) ?_ ?_
   rotate_left
   ·show Act.put _ (some 70) _ = _
    simp only [Act.put, List.setIfInBounds_toArray, List.set_cons_zero, List.set_cons_succ, i64_w, i32_w]
    rfl
   refine pure_ (i := 22) (N := some 71) (v := ?_) (a' := ?_) #[true, true, true, true, true, true, true, true, true, true, true, true, true, true, true, true, true, true, true, true, true, true, true] rfl rfl (by kernel_rfl) (fun _ _ _ h => h) (Or.inl ⟨by rfl, ?_⟩) ?_ ?_
   rotate_left
   ·intro w'
    go_simp
    with_reducible rfl
   rotate_left
   ·exact zr
   refine done_ (by kernel_rfl) ?_
   cases bp with
   | true =>
    have F7 := Aside0.mk (FW.out.below HB6.out)
    have c10 := (blk_cell F7.out.b10 0).trans rfl
    have c11 := (blk_cell F7.out.b11 0).trans rfl
    have c12 := (blk_cell F7.out.b12 0).trans rfl
    have f10 := blk_frozen F7.out.b10 0
    have f11 := blk_frozen F7.out.b11 0
    have f12 := blk_frozen F7.out.b12 0
    gi_wp2
    obtain ⟨g10, g11, g12⟩ := F7.out.put (x.1.1 : Nat) (x.1.2 : Nat) 0
    refine ⟨(((KeepsOthers.of_grownBy (grown_of_below HB6.out none) (fun j o e => by cases e)).trans (KeepsOthers.setCell _ _ _)).trans (KeepsOthers.setCell _ _ _)).trans (KeepsOthers.setCell _ _ _), ⟨rfl, pre, x, rfl, HALL.out, HIT.out, g10, g11, g12⟩, ?_⟩
    exact ((((HBS.out.trans (HBW.out.mono hwn)).trans (HB6.out.mono (Nat.le_trans hwn HBW.out.size))).setCell (p := ⟨w.heap.size + 1 + 1 + 1 + 1, 0, none⟩) (by show w.heap.size ≤ w.heap.size + 1 + 1 + 1 + 1; omega) _).setCell (p := ⟨w.heap.size + 1 + 1 + 1 + 1 + 1, 0, none⟩) (by show w.heap.size ≤ w.heap.size + 1 + 1 + 1 + 1 + 1; omega) _).setCell (p := ⟨w.heap.size + 1 + 1 + 1 + 1 + 1 + 1, 0, none⟩) (by show w.heap.size ≤ w.heap.size + 1 + 1 + 1 + 1 + 1 + 1; omega) _
   | false =>
    gi_wp2
    exact ⟨KeepsOthers.of_grownBy (grown_of_below HB6.out none) (fun j o e => by cases e), HB6.out.mono HBW.out.size, fun y hy => (by
     rcases List.mem_append.1 hy with h | h
     ·exact HALL.out y h
     ·rw [List.mem_singleton.1 h]; exact HIT.out), below_step HBW.out HB6.out⟩
  ·have hpb : decide (0 < wideAt l0 x.1) = false := decide_eq_false hp
   have HIT : Aside0 (hitO l0 a1 a2 a3 (sideB back) x.1 = some false) := ⟨by unfold hitO; rw [if_pos hq, if_neg hp]⟩
   clear hq hp hbp hts
   gi_wp2
   refine startR_ (n := 23) (S := fun w' => w'.cell? ⟨w.heap.size + 1 + 1, 0, none⟩ = some (.int .i64 a2) ∧ w'.cell? ⟨w.heap.size + 1 + 1 + 1, 0, none⟩ = some (.int .i64 a3) ∧ w'.cell? ⟨N2, 0, none⟩ = some (.int .i64 (sideB back)) ∧ w'.cell? ⟨w.heap.size + 1, 0, none⟩ = some (.string a1) ∧ w'.cell? ⟨(adl.add (x.1.2 * 5)).block, (adl.add (x.1.2 * 5)).off + 1, none⟩ = some (.int .i64 (wideAt l0 x.1))) (ds := []) #[false, false, false, false, false, false, false, false, false, false, false, false, false, false, false, false, false, false, false, false, false, false, false] (by kernel_rfl) (by rintro ⟨a, w, h⟩; exact h) (by kernel_rfl) rfl rfl (HS.out _ HB0.out) (fun hHeld => ?_)
   refine pure_ (i := 0) (N := some 49) (v := ?_) (a' := ?_) #[true, false, false, false, false, false, false, false, false, false, false, false, false, false, false, false, false, false, false, false, false, false, false] rfl rfl (by kernel_rfl) (fun _ _ _ h => h) (Or.inl ⟨by rfl, ?_⟩) ?_ ?_
   rotate_left
   ·intro w'
    go_simp
    with_reducible rfl
   rotate_left
   ·exact zr
   refine pure_ (i := 3) (N := some 52) (v := ?_) (a' := ?_) #[true, false, false, true, false, false, false, false, false, false, false, false, false, false, false, false, false, false, false, false, false, false, false] rfl rfl (by kernel_rfl) (fun _ _ _ h => h) (Or.inl ⟨by rfl, ?_⟩) ?_ ?_
   rotate_left
   ·intro w'
    go_simp
    with_reducible rfl
   rotate_left
   ·exact zr
   refine take_ (i := 1) (N := some 50) (v := ?_) (a' := ?_) #[true, true, false, true, false, false, false, false, false, false, false, false, false, false, false, false, false, false, false, false, false, false, false] rfl rfl (by kernel_rfl) (fun _ _ _ h => h) (Or.inl ⟨by rfl, ?_⟩) hHeld ?_ ?_
   rotate_left
   ·rintro w' ⟨s0, s1, s2, s3, s4⟩
    go_simp
    with_reducible rfl
   rotate_left
   ·exact zr
   refine take_ (i := 4) (N := some 53) (v := ?_) (a' := ?_) #[true, true, false, true, true, false, false, false, false, false, false, false, false, false, false, false, false, false, false, false, false, false, false] rfl rfl (by kernel_rfl) (fun _ _ _ h => h) (Or.inl ⟨by rfl, ?_⟩) hHeld ?_ ?_
   rotate_left
   ·rintro w' ⟨s0, s1, s2, s3, s4⟩
    go_simp
    with_reducible rfl
   rotate_left
   ·exact zr
   refine take_ (i := 8) (N := some 57) (v := ?_) (a' := ?_) #[true, true, false, true, true, false, false, false, true, false, false, false, false, false, false, false, false, false, false, false, false, false, false] rfl rfl (by kernel_rfl) (fun _ _ _ h => h) (Or.inl ⟨by rfl, ?_⟩) hHeld ?_ ?_
   rotate_left
   ·rintro w' ⟨s0, s1, s2, s3, s4⟩
    go_simp
    with_reducible rfl
   rotate_left
   ·exact zr
   refine one_ (i := 2) (N := some 51) #[true, true, true, true, true, false, false, false, true, false, false, false, false, false, false, false, false, false, false, false, false, false, false] rfl rfl (by kernel_rfl) (by decide) (fun K hK => ?_)
   refine goes_ Tryd.func40 (by kernel_rfl) rfl #[.int .i64 (x.1.1 : Nat), .int .i64 a2] (by rfl) rfl rfl zm ?_
   with_reducible refine (cmp_Compare_int.calls _ _ _ _ (compare_f (x.1.1 : Nat) a2)).mono ?_
   rintro e w3 ⟨rfl, hd⟩
   refine ⟨_, rfl, ?_⟩
   have HB1 := Aside0.mk (below_step HB0.out hd.below)
   clear hd
   refine hK.out _ _ (HS.out _ HB1.out) (fun hHeld => ?_)
   clear hK K
   refine norm_ (a' := ?_) ?_ ?_
   rotate_left
   ·show Act.put _ (some 51) _ = _
    simp only [Act.put, List.setIfInBounds_toArray, List.set_cons_zero, List.set_cons_succ, i64_w, i32_w]
    rfl
   refine one_ (i := 5) (N := some 54) #[true, true, true, true, true, true, false, false, true, false, false, false, false, false, false, false, false, false, false, false, false, false, false] rfl rfl (by kernel_rfl) (by decide) (fun K hK => ?_)
   refine goes_ Tryd.func40 (by kernel_rfl) rfl #[.int .i64 (x.1.2 : Nat), .int .i64 a3] (by rfl) rfl rfl zm ?_
   with_reducible refine (cmp_Compare_int.calls _ _ _ _ (compare_f (x.1.2 : Nat) a3)).mono ?_
   rintro e w4 ⟨rfl, hd⟩
   refine ⟨_, rfl, ?_⟩
   have HB2 := Aside0.mk (below_step HB1.out hd.below)
   clear hd
   refine hK.out _ _ (HS.out _ HB2.out) (fun hHeld => ?_)
   clear hK K
   refine norm_ (a' := ?_) ?_ ?_
   rotate_left
   ·show Act.put _ (some 54) _ = _
    simp only [Act.put, List.setIfInBounds_toArray, List.set_cons_zero, List.set_cons_succ, i64_w, i32_w]
    rfl
   refine one_ (i := 6) (N := some 55) #[true, true, true, true, true, true, true, false, true, false, false, false, false, false, false, false, false, false, false, false, false, false, false] rfl rfl (by kernel_rfl) (by decide) (fun K hK => ?_)
   refine value_ (w1 := ?_) (v := ?_) (by rfl) rfl ?_ ?_
   rotate_left 2
   ·go_simp
    constructor
    ·rfl
    ·rfl
   refine hK.out _ _ (HS.out _ (below_alloc HB2.out _)) (fun hHeld => ?_)
   clear hK K
   refine norm_ (a' := ?_) ?_ ?_
   rotate_left
   ·show Act.put _ (some 55) _ = _
    simp only [Act.put, List.setIfInBounds_toArray, List.set_cons_zero, List.set_cons_succ, i64_w, i32_w]
    rfl
   refine one_ (i := 7) (N := some 56) #[true, true, true, true, true, true, true, true, true, false, false, false, false, false, false, false, false, false, false, false, false, false, false] rfl rfl (by kernel_rfl) (by decide) (fun K hK => ?_)
   refine goes_ Tryd.func39 (by kernel_rfl) rfl #[.slice (some ⟨w4.heap.size, 0, none⟩) 2 2] (by rfl) rfl rfl zm ?_
   with_reducible refine (or_calls _ _ _ _ _ (blk_new _ _)).mono ?_
   rintro e w5 ⟨rfl, hd⟩
   refine ⟨_, rfl, ?_⟩
   have HB4 := Aside0.mk (below_step (below_alloc HB2.out _) hd.below)
   clear hd
   refine hK.out _ _ (HS.out _ HB4.out) (fun hHeld => ?_)
   clear hK K
   refine norm_ (a' := ?_) ?_ ?_
   rotate_left
   ·show Act.put _ (some 56) _ = _
    simp only [Act.put, List.setIfInBounds_toArray, List.set_cons_zero, List.set_cons_succ, i64_w, i32_w]
    rfl
   refine pure_ (i := 9) (N := some 58) (v := ?_) (a' := ?_) #[true, true, true, true, true, true, true, true, true, true, false, false, false, false, false, false, false, false, false, false, false, false, false] rfl rfl (by kernel_rfl) (fun _ _ _ h => h) (Or.inl ⟨by rfl, ?_⟩) ?_ ?_
   rotate_left
   ·intro w'
    go_simp
    with_reducible rfl
   rotate_left
   ·exact zr
   refine pure_ (i := 10) (N := some 59) (v := ?_) (a' := ?_) #[true, true, true, true, true, true, true, true, true, true, true, false, false, false, false, false, false, false, false, false, false, false, false] rfl rfl (by kernel_rfl) (fun _ _ _ h => h) (Or.inl ⟨by rfl, ?_⟩) ?_ ?_
   rotate_left
   ·intro w'
    go_simp
    with_reducible rfl
   rotate_left
   ·exact zr
   refine pure_ (i := 11) (N := some 60) (v := ?_) (a' := ?_) #[true, true, true, true, true, true, true, true, true, true, true, true, false, false, false, false, false, false, false, false, false, false, false] rfl rfl (by kernel_rfl) (fun _ _ _ h => h) (Or.inl ⟨by rfl, ?_⟩) ?_ ?_
   rotate_left
   ·intro w'
    go_simp
    with_reducible rfl
   rotate_left
   ·exact zr
   refine pure_ (i := 12) (N := some 61) (v := ?_) (a' := ?_) #[true, true, true, true, true, true, true, true, true, true, true, true, true, false, false, false, false, false, false, false, false, false, false] rfl rfl (by kernel_rfl) (fun _ _ _ h => h) (Or.inl ⟨by rfl, ?_⟩) ?_ ?_
   rotate_left
   ·intro w'
    go_simp
    with_reducible rfl
   rotate_left
   ·exact zr
   refine pure_ (i := 13) (N := some 62) (v := ?_) (a' := ?_) #[true, true, true, true, true, true, true, true, true, true, true, true, true, true, false, false, false, false, false, false, false, false, false] rfl rfl (by kernel_rfl) (fun _ _ _ h => h) (Or.inl ⟨by rfl, ?_⟩) ?_ ?_
   rotate_left
   ·intro w'
    go_simp
    with_reducible rfl
   rotate_left
   ·exact zr
   refine take_ (i := 14) (N := some 63) (v := ?_) (a' := ?_) #[true, true, true, true, true, true, true, true, true, true, true, true, true, true, true, false, false, false, false, false, false, false, false] rfl rfl (by kernel_rfl) (fun _ _ _ h => h) (Or.inl ⟨by rfl, ?_⟩) hHeld ?_ ?_
   rotate_left
   ·rintro w' ⟨s0, s1, s2, s3, s4⟩
    go_simp
    with_reducible rfl
   rotate_left
   ·exact zr
   refine pure_ (i := 15) (N := some 64) (v := ?_) (a' := ?_) #[true, true, true, true, true, true, true, true, true, true, true, true, true, true, true, true, false, false, false, false, false, false, false] rfl rfl (by kernel_rfl) (fun _ _ _ h => h) (Or.inl ⟨by rfl, ?_⟩) ?_ ?_
   rotate_left
   ·intro w'
    go_simp
    with_reducible rfl
   rotate_left
   ·exact zr
   refine pure_ (i := 16) (N := some 65) (v := ?_) (a' := ?_) #[true, true, true, true, true, true, true, true, true, true, true, true, true, true, true, true, true, false, false, false, false, false, false] rfl rfl (by kernel_rfl) (fun _ _ _ h => h) (Or.inl ⟨by rfl, ?_⟩) ?_ ?_
   rotate_left
   ·intro w'
    go_simp
    with_reducible rfl
   rotate_left
   ·exact zr
   refine pure_ (i := 17) (N := some 66) (v := ?_) (a' := ?_) #[true, true, true, true, true, true, true, true, true, true, true, true, true, true, true, true, true, true, false, false, false, false, false] rfl rfl (by kernel_rfl) (fun _ _ _ h => h) (Or.inl ⟨by rfl, ?_⟩) ?_ ?_
   rotate_left
   ·intro w'
    go_simp
    with_reducible rfl
   rotate_left
   ·exact zr
   refine pure_ (i := 18) (N := some 67) (v := undef) (a' := ?_) #[true, true, true, true, true, true, true, true, true, true, true, true, true, true, true, true, true, true, true, false, false, false, false] rfl rfl (by kernel_rfl) (fun _ _ _ h => h) (Or.inr ⟨by rfl, rfl⟩) ?_ ?_
   rotate_left
   ·exact zr
   refine pure_ (i := 19) (N := some 68) (v := undef) (a' := ?_) #[true, true, true, true, true, true, true, true, true, true, true, true, true, true, true, true, true, true, true, true, false, false, false] rfl rfl (by kernel_rfl) (fun _ _ _ h => h) (Or.inr ⟨by rfl, rfl⟩) ?_ ?_
   rotate_left
   ·exact zr
   refine pure_ (i := 20) (N := some 69) (v := undef) (a' := ?_) #[true, true, true, true, true, true, true, true, true, true, true, true, true, true, true, true, true, true, true, true, true, false, false] rfl rfl (by kernel_rfl) (fun _ _ _ h => h) (Or.inr ⟨by rfl, rfl⟩) ?_ ?_
   rotate_left
   ·exact zr
   refine pure_ (i := 21) (N := some 70) (v := undef) (a' := ?_) #[true, true, true, true, true, true, true, true, true, true, true, true, true, true, true, true, true, true, true, true, true, true, false] rfl rfl (by kernel_rfl) (fun _ _ _ h => h) (Or.inr ⟨by rfl, rfl⟩) ?_ ?_
   rotate_left
   ·exact zr
   refine pure_ (i := 22) (N := some 71) (v := ?_) (a' := ?_) #[true, true, true, true, true, true, true, true, true, true, true, true, true, true, true, true, true, true, true, true, true, true, true] rfl rfl (by kernel_rfl) (fun _ _ _ h => h) (Or.inl ⟨by rfl, ?_⟩) ?_ ?_
   rotate_left
   ·intro w'
    go_simp
    with_reducible rfl
   rotate_left
   ·exact zr
   refine done_ (by kernel_rfl) ?_
   gi_wp2
   exact ⟨KeepsOthers.of_grownBy (grown_of_below HB4.out none) (fun j o e => by cases e), HB4.out.mono HBW.out.size, fun y hy => (by
    rcases List.mem_append.1 hy with h | h
    ·exact HALL.out y h
    ·rw [List.mem_singleton.1 h]; exact HIT.out), below_step HBW.out HB4.out⟩
 ·have hqb : (orI (cmpI (x.1.1 : Nat) a2) (cmpI (x.1.2 : Nat) a3) == sideB back) = false := beq_eq_false_iff_ne.mpr hq
  have HIT : Aside0 (hitO l0 a1 a2 a3 (sideB back) x.1 = some false) := ⟨by unfold hitO; rw [if_neg hq]⟩
  clear hq hbp hts
  gi_wp2
  refine startR_ (n := 23) (S := fun w' => w'.cell? ⟨w.heap.size + 1 + 1, 0, none⟩ = some (.int .i64 a2) ∧ w'.cell? ⟨w.heap.size + 1 + 1 + 1, 0, none⟩ = some (.int .i64 a3) ∧ w'.cell? ⟨N2, 0, none⟩ = some (.int .i64 (sideB back)) ∧ w'.cell? ⟨w.heap.size + 1, 0, none⟩ = some (.string a1) ∧ w'.cell? ⟨(adl.add (x.1.2 * 5)).block, (adl.add (x.1.2 * 5)).off + 1, none⟩ = some (.int .i64 (wideAt l0 x.1))) (ds := []) #[false, false, false, false, false, false, false, false, false, false, false, false, false, false, false, false, false, false, false, false, false, false, false] (by kernel_rfl) (by rintro ⟨a, w, h⟩; exact h) (by kernel_rfl) rfl rfl (HS.out _ HB0.out) (fun hHeld => ?_)
  refine pure_ (i := 0) (N := some 49) (v := ?_) (a' := ?_) #[true, false, false, false, false, false, false, false, false, false, false, false, false, false, false, false, false, false, false, false, false, false, false] rfl rfl (by kernel_rfl) (fun _ _ _ h => h) (Or.inl ⟨by rfl, ?_⟩) ?_ ?_
  rotate_left
  ·intro w'
   go_simp
   with_reducible rfl
  rotate_left
  ·exact zr
  refine pure_ (i := 3) (N := some 52) (v := ?_) (a' := ?_) #[true, false, false, true, false, false, false, false, false, false, false, false, false, false, false, false, false, false, false, false, false, false, false] rfl rfl (by kernel_rfl) (fun _ _ _ h => h) (Or.inl ⟨by rfl, ?_⟩) ?_ ?_
  rotate_left
  ·intro w'
   go_simp
   with_reducible rfl
  rotate_left
  ·exact zr
  refine take_ (i := 1) (N := some 50) (v := ?_) (a' := ?_) #[true, true, false, true, false, false, false, false, false, false, false, false, false, false, false, false, false, false, false, false, false, false, false] rfl rfl (by kernel_rfl) (fun _ _ _ h => h) (Or.inl ⟨by rfl, ?_⟩) hHeld ?_ ?_
  rotate_left
  ·rintro w' ⟨s0, s1, s2, s3, s4⟩
   go_simp
   with_reducible rfl
  rotate_left
  ·exact zr
  refine take_ (i := 4) (N := some 53) (v := ?_) (a' := ?_) #[true, true, false, true, true, false, false, false, false, false, false, false, false, false, false, false, false, false, false, false, false, false, false] rfl rfl (by kernel_rfl) (fun _ _ _ h => h) (Or.inl ⟨by rfl, ?_⟩) hHeld ?_ ?_
  rotate_left
  ·rintro w' ⟨s0, s1, s2, s3, s4⟩
   go_simp
   with_reducible rfl
  rotate_left
  ·exact zr
  refine take_ (i := 8) (N := some 57) (v := ?_) (a' := ?_) #[true, true, false, true, true, false, false, false, true, false, false, false, false, false, false, false, false, false, false, false, false, false, false] rfl rfl (by kernel_rfl) (fun _ _ _ h => h) (Or.inl ⟨by rfl, ?_⟩) hHeld ?_ ?_
  rotate_left
  ·rintro w' ⟨s0, s1, s2, s3, s4⟩
   go_simp
   with_reducible rfl
  rotate_left
  ·exact zr
  refine one_ (i := 2) (N := some 51) #[true, true, true, true, true, false, false, false, true, false, false, false, false, false, false, false, false, false, false, false, false, false, false] rfl rfl (by kernel_rfl) (by decide) (fun K hK => ?_)
  refine goes_ Tryd.func40 (by kernel_rfl) rfl #[.int .i64 (x.1.1 : Nat), .int .i64 a2] (by rfl) rfl rfl zm ?_
  with_reducible refine (cmp_Compare_int.calls _ _ _ _ (compare_f (x.1.1 : Nat) a2)).mono ?_
  rintro e w3 ⟨rfl, hd⟩
  refine ⟨_, rfl, ?_⟩
  have HB1 := Aside0.mk (below_step HB0.out hd.below)
  clear hd
  refine hK.out _ _ (HS.out _ HB1.out) (fun hHeld => ?_)
  clear hK K
  refine norm_ (a' := ?_) ?_ ?_
  rotate_left
  ·show Act.put _ (some 51) _ = _
   simp only [Act.put, List.setIfInBounds_toArray, List.set_cons_zero, List.set_cons_succ, i64_w, i32_w]
   rfl
  refine one_ (i := 5) (N := some 54) #[true, true, true, true, true, true, false, false, true, false, false, false, false, false, false, false, false, false, false, false, false, false, false] rfl rfl (by kernel_rfl) (by decide) (fun K hK => ?_)
  refine goes_ Tryd.func40 (by kernel_rfl) rfl #[.int .i64 (x.1.2 : Nat), .int .i64 a3] (by rfl) rfl rfl zm ?_
  with_reducible refine (cmp_Compare_int.calls _ _ _ _ (compare_f (x.1.2 : Nat) a3)).mono ?_
  rintro e w4 ⟨rfl, hd⟩
  refine ⟨_, rfl, ?_⟩
  have HB2 := Aside0.mk (below_step HB1.out hd.below)
  clear hd
  refine hK.out _ _ (HS.out _ HB2.out) (fun hHeld => ?_)
  clear hK K
  refine norm_ (a' := ?_) ?_ ?_
  rotate_left
  ·show Act.put _ (some 54) _ = _
   simp only [Act.put, List.setIfInBounds_toArray, List.set_cons_zero, List.set_cons_succ, i64_w, i32_w]
   rfl
  refine one_ (i := 6) (N := some 55) #[true, true, true, true, true, true, true, false, true, false, false, false, false, false, false, false, false, false, false, false, false, false, false] rfl rfl (by kernel_rfl) (by decide) (fun K hK => ?_)
  refine value_ (w1 := ?_) (v := ?_) (by rfl) rfl ?_ ?_
  rotate_left 2
  ·go_simp
   constructor
   ·rfl
   ·rfl
  refine hK.out _ _ (HS.out _ (below_alloc HB2.out _)) (fun hHeld => ?_)
  clear hK K
  refine norm_ (a' := ?_) ?_ ?_
  rotate_left
  ·show Act.put _ (some 55) _ = _
   simp only [Act.put, List.setIfInBounds_toArray, List.set_cons_zero, List.set_cons_succ, i64_w, i32_w]
   rfl
  refine one_ (i := 7) (N := some 56) #[true, true, true, true, true, true, true, true, true, false, false, false, false, false, false, false, false, false, false, false, false, false, false] rfl rfl (by kernel_rfl) (by decide) (fun K hK => ?_)
  refine goes_ Tryd.func39 (by kernel_rfl) rfl #[.slice (some ⟨w4.heap.size, 0, none⟩) 2 2] (by rfl) rfl rfl zm ?_
  with_reducible refine (or_calls _ _ _ _ _ (blk_new _ _)).mono ?_
  rintro e w5 ⟨rfl, hd⟩
  refine ⟨_, rfl, ?_⟩
  have HB4 := Aside0.mk (below_step (below_alloc HB2.out _) hd.below)
  clear hd
  refine hK.out _ _ (HS.out _ HB4.out) (fun hHeld => ?_)
  clear hK K
  refine norm_ (a' := ?_) ?_ ?_
  rotate_left
  ·show Act.put _ (some 56) _ = _
   simp only [Act.put, List.setIfInBounds_toArray, List.set_cons_zero, List.set_cons_succ, i64_w, i32_w]
   rfl
  refine pure_ (i := 9) (N := some 58) (v := ?_) (a' := ?_) #[true, true, true, true, true, true, true, true, true, true, false, false, false, false, false, false, false, false, false, false, false, false, false] rfl rfl (by kernel_rfl) (fun _ _ _ h => h) (Or.inl ⟨by rfl, ?_⟩) ?_ ?_
  rotate_left
  ·intro w'
   go_simp
   with_reducible rfl
  rotate_left
  ·exact zr
  refine pure_ (i := 10) (N := some 59) (v := ?_) (a' := ?_) #[true, true, true, true, true, true, true, true, true, true, true, false, false, false, false, false, false, false, false, false, false, false, false] rfl rfl (by kernel_rfl) (fun _ _ _ h => h) (Or.inl ⟨by rfl, ?_⟩) ?_ ?_
  rotate_left
  ·intro w'
   go_simp
   with_reducible rfl
  rotate_left
  ·exact zr
  refine pure_ (i := 11) (N := some 60) (v := undef) (a' := ?_) #[true, true, true, true, true, true, true, true, true, true, true, true, false, false, false, false, false, false, false, false, false, false, false] rfl rfl (by kernel_rfl) (fun _ _ _ h => h) (Or.inr ⟨by rfl, rfl⟩) ?_ ?_
  rotate_left
  ·exact zr
  refine pure_ (i := 12) (N := some 61) (v := undef) (a' := ?_) #[true, true, true, true, true, true, true, true, true, true, true, true, true, false, false, false, false, false, false, false, false, false, false] rfl rfl (by kernel_rfl) (fun _ _ _ h => h) (Or.inr ⟨by rfl, rfl⟩) ?_ ?_
  rotate_left
  ·exact zr
  refine pure_ (i := 13) (N := some 62) (v := undef) (a' := ?_) #[true, true, true, true, true, true, true, true, true, true, true, true, true, true, false, false, false, false, false, false, false, false, false] rfl rfl (by kernel_rfl) (fun _ _ _ h => h) (Or.inr ⟨by rfl, rfl⟩) ?_ ?_
  rotate_left
  ·exact zr
  refine pure_ (i := 14) (N := some 63) (v := undef) (a' := ?_) #[true, true, true, true, true, true, true, true, true, true, true, true, true, true, true, false, false, false, false, false, false, false, false] rfl rfl (by kernel_rfl) (fun _ _ _ h => h) (Or.inr ⟨by rfl, rfl⟩) ?_ ?_
  rotate_left
  ·exact zr
  refine pure_ (i := 15) (N := some 64) (v := undef) (a' := ?_) #[true, true, true, true, true, true, true, true, true, true, true, true, true, true, true, true, false, false, false, false, false, false, false] rfl rfl (by kernel_rfl) (fun _ _ _ h => h) (Or.inr ⟨by rfl, rfl⟩) ?_ ?_
  rotate_left
  ·exact zr
  refine pure_ (i := 16) (N := some 65) (v := ?_) (a' := ?_) #[true, true, true, true, true, true, true, true, true, true, true, true, true, true, true, true, true, false, false, false, false, false, false] rfl rfl (by kernel_rfl) (fun _ _ _ h => h) (Or.inl ⟨by rfl, ?_⟩) ?_ ?_
  rotate_left
  ·intro w'
   go_simp
   with_reducible rfl
  rotate_left
  ·exact zr
  refine pure_ (i := 17) (N := some 66) (v := ?_) (a' := ?_) #[true, true, true, true, true, true, true, true, true, true, true, true, true, true, true, true, true, true, false, false, false, false, false] rfl rfl (by kernel_rfl) (fun _ _ _ h => h) (Or.inl ⟨by rfl, ?_⟩) ?_ ?_
  rotate_left
  ·intro w'
   go_simp
   with_reducible rfl
  rotate_left
  ·exact zr
  refine pure_ (i := 18) (N := some 67) (v := undef) (a' := ?_) #[true, true, true, true, true, true, true, true, true, true, true, true, true, true, true, true, true, true, true, false, false, false, false] rfl rfl (by kernel_rfl) (fun _ _ _ h => h) (Or.inr ⟨by rfl, rfl⟩) ?_ ?_
  rotate_left
  ·exact zr
  refine pure_ (i := 19) (N := some 68) (v := undef) (a' := ?_) #[true, true, true, true, true, true, true, true, true, true, true, true, true, true, true, true, true, true, true, true, false, false, false] rfl rfl (by kernel_rfl) (fun _ _ _ h => h) (Or.inr ⟨by rfl, rfl⟩) ?_ ?_
  rotate_left
  ·exact zr
  refine pure_ (i := 20) (N := some 69) (v := undef) (a' := ?_) #[true, true, true, true, true, true, true, true, true, true, true, true, true, true, true, true, true, true, true, true, true, false, false] rfl rfl (by kernel_rfl) (fun _ _ _ h => h) (Or.inr ⟨by rfl, rfl⟩) ?_ ?_
  rotate_left
  ·exact zr
  refine pure_ (i := 21) (N := some 70) (v := undef) (a' := ?_) #[true, true, true, true, true, true, true, true, true, true, true, true, true, true, true, true, true, true, true, true, true, true, false] rfl rfl (by kernel_rfl) (fun _ _ _ h => h) (Or.inr ⟨by rfl, rfl⟩) ?_ ?_
  rotate_left
  ·exact zr
  refine pure_ (i := 22) (N := some 71) (v := ?_) (a' := ?_) #[true, true, true, true, true, true, true, true, true, true, true, true, true, true, true, true, true, true, true, true, true, true, true] rfl rfl (by kernel_rfl) (fun _ _ _ h => h) (Or.inl ⟨by rfl, ?_⟩) ?_ ?_
  rotate_left
  ·intro w'
   go_simp
   with_reducible rfl
  rotate_left
  ·exact zr
  refine done_ (by kernel_rfl) ?_
  gi_wp2
  exact ⟨KeepsOthers.of_grownBy (grown_of_below HB4.out none) (fun j o e => by cases e), HB4.out.mono HBW.out.size, fun y hy => (by
   rcases List.mem_append.1 hy with h | h
   ·exact HALL.out y h
   ·rw [List.mem_singleton.1 h]; exact HIT.out), below_step HBW.out HB4.out⟩
set_option maxRecDepth 100000 in
set_option maxHeartbeats 4000000 in
theorem find_Find.calls (k : Nat) (A0 : Option Addr) (c0 : Nat) (l0 : List S38) (a1 : ByteArray) (a2 : Int) (a3 : Int) (a4 : Bool) (r1 r2 r3 : Int) (w : World) (hr0 : Kd.C k38 w A0 l0.length l0) (hc0 : l0.length ≤ c0) (h : find_Find.f k l0 a1 a2 a3 a4 = some (r1, r2, r3)) (hT : Tabs w := by first | exact Aside0.out (by with_reducible assumption) | exact Tabs.keepA (by with_reducible assumption) (by repeat (first | (with_reducible exact Aside0.out (by with_reducible assumption)) | (with_reducible apply below_alloc) | (with_reducible apply pw_below_drewN) | (with_reducible apply below_drew1) | (with_reducible refine below_set ?_ (Aside0.out (by with_reducible assumption)))))) :
  Calls Tryd.prog 10 #[.slice A0 l0.length c0, .string a1, .int .i64 a2, .int .i64 a3, .bool a4] w fun e w' => e = .returned (.tuple #[.int .i64 r1, .int .i64 r2, .int .i64 r3]) ∧ Below w.heap.size w w' := by
 unfold find_Find.f at h
 obtain ⟨m, hm, h⟩ := Option.bind_eq_some_iff.1 h
 have HR := Aside0.mk hr0
 have HC := Aside0.mk hc0
 have HT := Aside0.mk hT
 have HM := Aside0.mk hm
 clear hr0 hT hm
 have cM : ∀ W : World, Below w.heap.size w W → Calls Tryd.prog 36 #[.slice A0 l0.length c0] W fun e w' => e = .returned (.bool m) ∧ Below W.heap.size W w' := fun W hW =>
  find_may.calls k A0 c0 l0 m W (Kd.C_below HR.out hW) HC.out HM.out (HT.out.below hW)
 have CM := Aside0.mk cM
 clear cM
 refine (callsIn_wide (n := 6)).1 ?_
 refine callsIn_of_wp_marks Tryd.func10 rfl trivial ?_ rfl
 simp only [Tryd.ntmps10, List.size_toArray, List.length_cons, List.length_nil, Nat.reduceAdd, Nat.reduceSub, Array.replicate_succ, Array.replicate_zero, List.push_toArray, List.append_toArray, List.nil_append, List.cons_append]
 cases m with
 | false =>
  simp only [Bool.false_eq_true, if_false] at h
  cases h
  gi_wp2_with (refine ⟨trivial, ?_⟩; gi_at_call 36; refine (callsIn_wide.2 (CM.out (findWorld w A0 l0.length c0 a1 a2 a3) (findWorld_below _ _ _ _ _ _ _))).mono ?_; rintro e w1 ⟨rfl, hb1⟩; have HX := Aside0.mk ((FindBoxes.new w A0 l0.length c0 a1 a2 a3).below hb1); have HB := Aside0.mk ((findWorld_below w A0 l0.length c0 a1 a2 a3).trans (hb1.mono (findWorld_below _ _ _ _ _ _ _).size)); clear hb1; have c5 := (blk_cell HX.out.b5 0).trans rfl; have c6 := (blk_cell HX.out.b6 0).trans rfl; have c7 := (blk_cell HX.out.b7 0).trans rfl; have c8 := (blk_cell HX.out.b8 0).trans rfl; have c10 := (blk_cell HX.out.b10 0).trans rfl; have c11 := (blk_cell HX.out.b11 0).trans rfl; have c12 := (blk_cell HX.out.b12 0).trans rfl; have f10 := blk_frozen HX.out.b10 0; have f11 := blk_frozen HX.out.b11 0; have f12 := blk_frozen HX.out.b12 0)
  gi_wp2_with (refine ⟨trivial, ?_⟩)
  obtain ⟨g10, g11, g12⟩ := HX.out.put 0 0 1
  have d10 := (blk_cell g10 0).trans rfl
  have d11 := (blk_cell g11 0).trans rfl
  have d12 := (blk_cell g12 0).trans rfl
  refine ⟨.tuple #[.int .i64 0, .int .i64 0, .int .i64 1], by simp [results, Tryd.results10, go_sem, d10, d11, d12], rfl, ?_⟩
  exact (((HB.out.setCell (p := ⟨w.heap.size + 1 + 1 + 1 + 1, 0, none⟩) (by show w.heap.size ≤ w.heap.size + 1 + 1 + 1 + 1; omega) _).setCell (p := ⟨w.heap.size + 1 + 1 + 1 + 1 + 1, 0, none⟩) (by show w.heap.size ≤ w.heap.size + 1 + 1 + 1 + 1 + 1; omega) _).setCell (p := ⟨w.heap.size + 1 + 1 + 1 + 1 + 1 + 1, 0, none⟩) (by show w.heap.size ≤ w.heap.size + 1 + 1 + 1 + 1 + 1 + 1; omega) _)
 | true =>
  simp only [if_true] at h
  obtain ⟨t, ht, h⟩ := Option.bind_eq_some_iff.1 h
  have CT : Aside0 (∀ W : World, Below w.heap.size w W → Calls Tryd.prog 37 #[.slice A0 l0.length c0, .int .i64 a2, .int .i64 a3] W fun e w' => e = .returned (.bool t) ∧ Drawn0 W w') := ⟨fun W hW =>
   find_there.calls A0 c0 l0 a2 a3 t W (Kd.C_below HR.out hW) HC.out ht⟩
  clear ht
  cases t with
  | false =>
   simp only [Bool.false_eq_true, if_false] at h
   cases h
   gi_wp2_with (refine ⟨trivial, ?_⟩; first | (gi_at_call 36; refine (callsIn_wide.2 (CM.out (findWorld w A0 l0.length c0 a1 a2 a3) (findWorld_below _ _ _ _ _ _ _))).mono ?_; rintro e w1 ⟨rfl, hb1⟩; have HX1 := Aside0.mk ((FindBoxes.new w A0 l0.length c0 a1 a2 a3).below hb1); have HB := Aside0.mk ((findWorld_below w A0 l0.length c0 a1 a2 a3).trans (hb1.mono (findWorld_below _ _ _ _ _ _ _).size)); clear hb1; have c5 := (blk_cell HX1.out.b5 0).trans rfl; have c7 := (blk_cell HX1.out.b7 0).trans rfl; have c8 := (blk_cell HX1.out.b8 0).trans rfl) | (gi_at_call 37; refine (callsIn_wide.2 (CT.out w1 HB.out)).mono ?_; rintro e w2 ⟨rfl, hd2⟩; have HX := Aside0.mk (HX1.out.below hd2.below); have HB2 := Aside0.mk (below_step HB.out hd2.below); clear hd2 HB c5 c7 c8; have HB := HB2; clear HB2; have c5 := (blk_cell HX.out.b5 0).trans rfl; have c6 := (blk_cell HX.out.b6 0).trans rfl; have c7 := (blk_cell HX.out.b7 0).trans rfl; have c8 := (blk_cell HX.out.b8 0).trans rfl; have c10 := (blk_cell HX.out.b10 0).trans rfl; have c11 := (blk_cell HX.out.b11 0).trans rfl; have c12 := (blk_cell HX.out.b12 0).trans rfl; have f10 := blk_frozen HX.out.b10 0; have f11 := blk_frozen HX.out.b11 0; have f12 := blk_frozen HX.out.b12 0))
   gi_wp2_with (refine ⟨trivial, ?_⟩)
   obtain ⟨g10, g11, g12⟩ := HX.out.put 0 0 1
   have d10 := (blk_cell g10 0).trans rfl
   have d11 := (blk_cell g11 0).trans rfl
   have d12 := (blk_cell g12 0).trans rfl
   refine ⟨.tuple #[.int .i64 0, .int .i64 0, .int .i64 1], by simp [results, Tryd.results10, go_sem, d10, d11, d12], rfl, ?_⟩
   exact (((HB.out.setCell (p := ⟨w.heap.size + 1 + 1 + 1 + 1, 0, none⟩) (by show w.heap.size ≤ w.heap.size + 1 + 1 + 1 + 1; omega) _).setCell (p := ⟨w.heap.size + 1 + 1 + 1 + 1 + 1, 0, none⟩) (by show w.heap.size ≤ w.heap.size + 1 + 1 + 1 + 1 + 1; omega) _).setCell (p := ⟨w.heap.size + 1 + 1 + 1 + 1 + 1 + 1, 0, none⟩) (by show w.heap.size ≤ w.heap.size + 1 + 1 + 1 + 1 + 1 + 1; omega) _)
  | true =>
   simp only [if_true] at h
   by_cases hs : a1.toList = ([] : List UInt8)
   ·rw [if_pos hs] at h
    cases h
    have e1 : (a1.toList == ([] : List UInt8)) = true := beq_iff_eq.mpr hs
    clear hs
    gi_wp2_with (refine ⟨trivial, ?_⟩; first | (gi_at_call 36; refine (callsIn_wide.2 (CM.out (findWorld w A0 l0.length c0 a1 a2 a3) (findWorld_below _ _ _ _ _ _ _))).mono ?_; rintro e w1 ⟨rfl, hb1⟩; have HX1 := Aside0.mk ((FindBoxes.new w A0 l0.length c0 a1 a2 a3).below hb1); have HB := Aside0.mk ((findWorld_below w A0 l0.length c0 a1 a2 a3).trans (hb1.mono (findWorld_below _ _ _ _ _ _ _).size)); clear hb1; have c5 := (blk_cell HX1.out.b5 0).trans rfl; have c7 := (blk_cell HX1.out.b7 0).trans rfl; have c8 := (blk_cell HX1.out.b8 0).trans rfl) | (gi_at_call 37; refine (callsIn_wide.2 (CT.out w1 HB.out)).mono ?_; rintro e w2 ⟨rfl, hd2⟩; have HX := Aside0.mk (HX1.out.below hd2.below); have HB2 := Aside0.mk (below_step HB.out hd2.below); clear hd2 HB c5 c7 c8; have HB := HB2; clear HB2; have c5 := (blk_cell HX.out.b5 0).trans rfl; have c6 := (blk_cell HX.out.b6 0).trans rfl; have c7 := (blk_cell HX.out.b7 0).trans rfl; have c8 := (blk_cell HX.out.b8 0).trans rfl; have c10 := (blk_cell HX.out.b10 0).trans rfl; have c11 := (blk_cell HX.out.b11 0).trans rfl; have c12 := (blk_cell HX.out.b12 0).trans rfl; have f10 := blk_frozen HX.out.b10 0; have f11 := blk_frozen HX.out.b11 0; have f12 := blk_frozen HX.out.b12 0))
    gi_wp2_with (refine ⟨trivial, ?_⟩)
    obtain ⟨g10, g11, g12⟩ := HX.out.put 0 0 1
    have d10 := (blk_cell g10 0).trans rfl
    have d11 := (blk_cell g11 0).trans rfl
    have d12 := (blk_cell g12 0).trans rfl
    refine ⟨.tuple #[.int .i64 0, .int .i64 0, .int .i64 1], by simp [results, Tryd.results10, go_sem, d10, d11, d12], rfl, ?_⟩
    exact (((HB.out.setCell (p := ⟨w.heap.size + 1 + 1 + 1 + 1, 0, none⟩) (by show w.heap.size ≤ w.heap.size + 1 + 1 + 1 + 1; omega) _).setCell (p := ⟨w.heap.size + 1 + 1 + 1 + 1 + 1, 0, none⟩) (by show w.heap.size ≤ w.heap.size + 1 + 1 + 1 + 1 + 1; omega) _).setCell (p := ⟨w.heap.size + 1 + 1 + 1 + 1 + 1 + 1, 0, none⟩) (by show w.heap.size ≤ w.heap.size + 1 + 1 + 1 + 1 + 1 + 1; omega) _)
   ·rw [if_neg hs] at h
    have e1 : (a1.toList == ([] : List UInt8)) = false := beq_eq_false_iff_ne.mpr hs
    clear hs
    by_cases hz : (a1.size : Int) ≤ 64
    ·rw [if_pos hz] at h
     by_cases hok : okL l0 = true
     rotate_left
     ·rw [if_neg hok] at h; cases h
     rw [if_pos hok] at h
     have e2 : decide ((64 : Int) < (a1.size : Int)) = false := decide_eq_false (by omega)
     clear hz
     cases a4 with
     | true =>
      gi_wp2_with (refine ⟨trivial, ?_⟩; first | (gi_at_call 36; refine (callsIn_wide.2 (CM.out (findWorld w A0 l0.length c0 a1 a2 a3) (findWorld_below _ _ _ _ _ _ _))).mono ?_; rintro e w1 ⟨rfl, hb1⟩; have HX1 := Aside0.mk ((FindBoxes.new w A0 l0.length c0 a1 a2 a3).below hb1); have HB := Aside0.mk ((findWorld_below w A0 l0.length c0 a1 a2 a3).trans (hb1.mono (findWorld_below _ _ _ _ _ _ _).size)); clear hb1; have c5 := (blk_cell HX1.out.b5 0).trans rfl; have c7 := (blk_cell HX1.out.b7 0).trans rfl; have c8 := (blk_cell HX1.out.b8 0).trans rfl) | (gi_at_call 37; refine (callsIn_wide.2 (CT.out w1 HB.out)).mono ?_; rintro e w2 ⟨rfl, hd2⟩; have HX := Aside0.mk (HX1.out.below hd2.below); have HB2 := Aside0.mk (below_step HB.out hd2.below); clear hd2 HB c5 c7 c8; have HB := HB2; clear HB2; have c5 := (blk_cell HX.out.b5 0).trans rfl; have c6 := (blk_cell HX.out.b6 0).trans rfl; have c7 := (blk_cell HX.out.b7 0).trans rfl; have c8 := (blk_cell HX.out.b8 0).trans rfl; have c10 := (blk_cell HX.out.b10 0).trans rfl; have c11 := (blk_cell HX.out.b11 0).trans rfl; have c12 := (blk_cell HX.out.b12 0).trans rfl; have f10 := blk_frozen HX.out.b10 0; have f11 := blk_frozen HX.out.b11 0; have f12 := blk_frozen HX.out.b12 0; have HXA := Aside0.mk (HX.out.below (below_alloc (Below.refl _ _) (.cells #[.int .i64 (-1)] 3))); have a5 := (blk_cell HXA.out.b5 0).trans rfl) | (gi_at_call 38; refine (callsIn_wide.2 (places_calls _ _ _ _ _)).mono ?_; rintro e w3 ⟨rfl, rfl⟩))
      have FX := Aside0.mk ((HXA.out.below (below_alloc (Below.refl _ _) (.cells #[.slice A0 l0.length c0] 22))).below (below_alloc (Below.refl _ _) (.cells #[.bool true] 4)))
      have hsz3 : (((w2.alloc (.cells #[.int .i64 (-1)] 3)).alloc (.cells #[.slice A0 l0.length c0] 22)).alloc (.cells #[.bool true] 4)).heap.size = w2.heap.size + 3 := by simp only [World.size_alloc]
      have hBs : (((w2.alloc (.cells #[.int .i64 (-1)] 3)).alloc (.cells #[.slice A0 l0.length c0] 22)).alloc (.cells #[.bool true] 4)).cell? ⟨w2.heap.size + 1, 0, none⟩ = some (.slice A0 l0.length c0) := by go_simp
      have hBn : (((w2.alloc (.cells #[.int .i64 (-1)] 3)).alloc (.cells #[.slice A0 l0.length c0] 22)).alloc (.cells #[.bool true] 4)).cell? ⟨w2.heap.size + 1 + 1, 0, none⟩ = some (.bool true) := by go_simp
      have HSD : Aside0 ((((w2.alloc (.cells #[.int .i64 (-1)] 3)).alloc (.cells #[.slice A0 l0.length c0] 22)).alloc (.cells #[.bool true] 4)).heap[w2.heap.size]? = some (.cells #[.int .i64 (sideB true)] 3 (0, 0))) := ⟨by
       rw [Below.heap_alloc _ _ _ (by simp only [World.size_alloc]; omega), Below.heap_alloc _ _ _ (by simp only [World.size_alloc]; omega)]; exact blk_new w2 _⟩
      have HBS := Aside0.mk (below_alloc (below_alloc (below_alloc HB.out (.cells #[.int .i64 (-1)] 3)) (.cells #[.slice A0 l0.length c0] 22)) (.cells #[.bool true] 4))
      generalize (((w2.alloc (.cells #[.int .i64 (-1)] 3)).alloc (.cells #[.slice A0 l0.length c0] 22)).alloc (.cells #[.bool true] 4)) = ws at *
      have hS7 := HX.out.size
      clear HXA a5 c5 c6 c7 c8 c10 c11 c12 f10 f11 f12 HX HB HX1
      generalize w2.heap.size = N2 at *
      have hwn := HBS.out.size
      refine wpIn_rangeFunc_ownF rfl (by decide) (gf := 62) (lb := #[.pointer (some ⟨N2 + 1, 0, none⟩), .pointer (some ⟨N2 + 1 + 1, 0, none⟩)]) rfl trivial (enters_of Tryd.func62 (by kernel_rfl) rfl)
       (places_stops 5 (by decide) (N2 + 1) (N2 + 1 + 1) ws.heap.size c0 A0 l0 true w hc0 HR.out hwn (by omega) (by omega) ws (Nat.le_refl _) HBS.out hBs hBn) belowK_t (belowK_b (Nat.le_refl _)) (Below.refl _ _) (fun _ => rfl)
       (fun pre W => (∀ x ∈ pre, hitO l0 a1 a2 a3 (sideB true) x.1 = some false) ∧ Below ws.heap.size ws W)
       (fun c pre W => (c = .ret ∧ (∃ pre' x, pre = pre' ++ [x] ∧ (∀ y ∈ pre', hitO l0 a1 a2 a3 (sideB true) y.1 = some false) ∧ hitO l0 a1 a2 a3 (sideB true) x.1 = some true ∧ W.heap[w.heap.size + 1 + 1 + 1 + 1]? = some (.cells #[.int .i64 (x.1.1 : Nat)] 3 (0, 0)) ∧ W.heap[w.heap.size + 1 + 1 + 1 + 1 + 1]? = some (.cells #[.int .i64 (x.1.2 : Nat)] 3 (0, 0)) ∧ W.heap[w.heap.size + 1 + 1 + 1 + 1 + 1 + 1]? = some (.cells #[.int .i64 0] 24 (0, 0)))) ∧ Below w.heap.size w W)
       ?hI ?hIx ⟨fun x hx => by (cases hx), Below.refl _ _⟩
       (fun x => { tmps := #[.slice A0 l0.length c0, .string a1, .int .i64 a2, .int .i64 a3, .bool true, .pointer (some ⟨w.heap.size, 0, none⟩), .pointer (some ⟨w.heap.size + 1, 0, none⟩), .pointer (some ⟨w.heap.size + 1 + 1, 0, none⟩), .pointer (some ⟨w.heap.size + 1 + 1 + 1, 0, none⟩), undef, .pointer (some ⟨w.heap.size + 1 + 1 + 1 + 1, 0, none⟩), .pointer (some ⟨w.heap.size + 1 + 1 + 1 + 1 + 1, 0, none⟩), .pointer (some ⟨w.heap.size + 1 + 1 + 1 + 1 + 1 + 1, 0, none⟩), .pointer (some ⟨N2, 0, none⟩), .int .i64 (x.1.1 : Nat), .int .i64 (x.1.2 : Nat), undef, .slice A0 l0.length c0, .bool true, .bool false, .bool false, .slice A0 l0.length c0, .int .i64 a2, .int .i64 a3, .bool true, .bool false, .bool false, .bool false, .string a1, .bool false, .bool false, .bool false, .string a1, .int .i64 a1.size, .bool false, .bool false, .bool true, .slice A0 l0.length c0, .bool true, .func (.func 62) #[] #[.pointer (some ⟨N2 + 1, 0, none⟩), .pointer (some ⟨N2 + 1 + 1, 0, none⟩)], .int .i64 (x.1.1 : Nat), .int .i64 (x.1.2 : Nat), undef, undef, undef, undef, undef, undef, undef, undef, undef, undef, undef, undef, undef, undef, undef, undef, undef, undef, undef, undef, undef, undef, undef, undef, undef, undef, undef, undef, undef, undef, undef, undef], defers := [] }) ?assign ?body ?done ?stop
      case hI => exact OwnFrom.and (fun s W W' row hs hg hr => hs) (ownFrom_below (Nat.le_refl _) (Nat.le_refl _))
      case hIx =>
       intro c
       refine OwnFrom.and (fun s W W' row hs hg hr => ⟨hs.1, ?_⟩) (ownFrom_below (Nat.le_refl _) hwn)
       obtain ⟨hc, pre', x, e, hf, hh, k10, k11, k12⟩ := hs
       have hrr : ∀ r, row = some r → ws.heap.size ≤ r := fun r e => (hr r e).1
       exact ⟨pre', x, e, hf, hh, (hg.block _ (blk_lt k10) (fun e => by have := hrr _ e.symm; omega)).trans k10, (hg.block _ (blk_lt k11) (fun e => by have := hrr _ e.symm; omega)).trans k11, (hg.block _ (blk_lt k12) (fun e => by have := hrr _ e.symm; omega)).trans k12⟩
      case assign =>
       intro l x W K hK
       gi_wp2
       exact hK
      case body =>
       rintro l pre x W ⟨hall, hbW⟩ _
       exact find_body true _ _ _ _ _ _ _ _ _ HR hc0 hok HBS FX HSD hwn l pre x W hall hbW
      case done =>
       rintro D xs W hD hxs ⟨hall, hbW⟩ hK
       have hr := seekO_none h (fun p hp => by
        rw [← hxs] at hp
        obtain ⟨x, hx, rfl⟩ := List.mem_map.1 hp
        exact hall x hx)
       cases hr
       have F7 := Aside0.mk (FX.out.below hbW)
       have c10 := (blk_cell F7.out.b10 0).trans rfl
       have c11 := (blk_cell F7.out.b11 0).trans rfl
       have c12 := (blk_cell F7.out.b12 0).trans rfl
       have f10 := blk_frozen F7.out.b10 0
       have f11 := blk_frozen F7.out.b11 0
       have f12 := blk_frozen F7.out.b12 0
       have HK := Aside0.mk hK
       have HBW := Aside0.mk hbW
       clear hxs hall hK hbW
       gi_wp2
       obtain ⟨g10, g11, g12⟩ := F7.out.put 0 0 5
       have hK2 := (((KeepsOthers.setCell W ⟨w.heap.size + 1 + 1 + 1 + 1, 0, none⟩ (.int .i64 0)).trans (KeepsOthers.setCell _ ⟨w.heap.size + 1 + 1 + 1 + 1 + 1, 0, none⟩ (.int .i64 0))).trans (KeepsOthers.setCell _ ⟨w.heap.size + 1 + 1 + 1 + 1 + 1 + 1, 0, none⟩ (.int .i64 5))).same D _ HK.out rfl
       have d10 := cell_kept ((blk_cell g10 0).trans rfl) (grownBy_putObj' _ D (.deferred none)) (fun r e => by cases e; exact ⟨_, hK2, rfl⟩)
       have d11 := cell_kept ((blk_cell g11 0).trans rfl) (grownBy_putObj' _ D (.deferred none)) (fun r e => by cases e; exact ⟨_, hK2, rfl⟩)
       have d12 := cell_kept ((blk_cell g12 0).trans rfl) (grownBy_putObj' _ D (.deferred none)) (fun r e => by cases e; exact ⟨_, hK2, rfl⟩)
       refine ⟨by simp, .inl ⟨_, _, rfl, run_takeDeferred hK2, ?_⟩⟩
       refine ⟨.tuple #[.int .i64 0, .int .i64 0, .int .i64 5], by simp [results, Tryd.results10, go_sem, d10, d11, d12], rfl, ?_⟩
       exact ((((HBS.out.trans (HBW.out.mono hwn)).setCell (p := ⟨w.heap.size + 1 + 1 + 1 + 1, 0, none⟩) (by show w.heap.size ≤ w.heap.size + 1 + 1 + 1 + 1; omega) _).setCell (p := ⟨w.heap.size + 1 + 1 + 1 + 1 + 1, 0, none⟩) (by show w.heap.size ≤ w.heap.size + 1 + 1 + 1 + 1 + 1; omega) _).setCell (p := ⟨w.heap.size + 1 + 1 + 1 + 1 + 1 + 1, 0, none⟩) (by show w.heap.size ≤ w.heap.size + 1 + 1 + 1 + 1 + 1 + 1; omega) _).trans (belowK_b (w := w) (Nat.le_refl _) _ D _ _ (by omega) hK2 rfl rfl)
      case stop =>
       rintro D c pre W hD hpre ⟨⟨rfl, pre', x, rfl, hf, hh, k10, k11, k12⟩, hB⟩ hK
       have hr : (r1, r2, r3) = ((x.1.1 : Int), (x.1.2 : Int), (0 : Int)) := by
        obtain ⟨rest, hrest⟩ := hpre
        rw [← hrest, List.map_append, List.append_assoc] at h
        obtain ⟨b, hb, hr⟩ := seekO_at h (fun q hq => by
         obtain ⟨y, hy, rfl⟩ := List.mem_map.1 hq
         exact hf y hy)
        rw [hh] at hb
        exact hr (Option.some.inj hb).symm
       cases hr
       have HB7 := Aside0.mk hB
       have HK := Aside0.mk hK
       clear hpre hf hh hB hK
       gi_wp2
       have d10 := cell_kept ((blk_cell k10 0).trans rfl) (grownBy_putObj' _ D (.deferred none)) (fun r e => by cases e; exact ⟨_, HK.out, rfl⟩)
       have d11 := cell_kept ((blk_cell k11 0).trans rfl) (grownBy_putObj' _ D (.deferred none)) (fun r e => by cases e; exact ⟨_, HK.out, rfl⟩)
       have d12 := cell_kept ((blk_cell k12 0).trans rfl) (grownBy_putObj' _ D (.deferred none)) (fun r e => by cases e; exact ⟨_, HK.out, rfl⟩)
       refine ⟨by simp, .inl ⟨_, _, rfl, run_takeDeferred HK.out, ?_⟩⟩
       refine ⟨.tuple #[.int .i64 (x.1.1 : Nat), .int .i64 (x.1.2 : Nat), .int .i64 0], by simp [results, Tryd.results10, go_sem, d10, d11, d12], rfl, ?_⟩
       exact HB7.out.trans (belowK_b (w := w) (Nat.le_refl _) _ D _ _ (by omega) HK.out rfl rfl)
     | false =>
      gi_wp2_with (refine ⟨trivial, ?_⟩; first | (gi_at_call 36; refine (callsIn_wide.2 (CM.out (findWorld w A0 l0.length c0 a1 a2 a3) (findWorld_below _ _ _ _ _ _ _))).mono ?_; rintro e w1 ⟨rfl, hb1⟩; have HX1 := Aside0.mk ((FindBoxes.new w A0 l0.length c0 a1 a2 a3).below hb1); have HB := Aside0.mk ((findWorld_below w A0 l0.length c0 a1 a2 a3).trans (hb1.mono (findWorld_below _ _ _ _ _ _ _).size)); clear hb1; have c5 := (blk_cell HX1.out.b5 0).trans rfl; have c7 := (blk_cell HX1.out.b7 0).trans rfl; have c8 := (blk_cell HX1.out.b8 0).trans rfl) | (gi_at_call 37; refine (callsIn_wide.2 (CT.out w1 HB.out)).mono ?_; rintro e w2 ⟨rfl, hd2⟩; have HX := Aside0.mk (HX1.out.below hd2.below); have HB2 := Aside0.mk (below_step HB.out hd2.below); clear hd2 HB c5 c7 c8; have HB := HB2; clear HB2; have c5 := (blk_cell HX.out.b5 0).trans rfl; have c6 := (blk_cell HX.out.b6 0).trans rfl; have c7 := (blk_cell HX.out.b7 0).trans rfl; have c8 := (blk_cell HX.out.b8 0).trans rfl; have c10 := (blk_cell HX.out.b10 0).trans rfl; have c11 := (blk_cell HX.out.b11 0).trans rfl; have c12 := (blk_cell HX.out.b12 0).trans rfl; have f10 := blk_frozen HX.out.b10 0; have f11 := blk_frozen HX.out.b11 0; have f12 := blk_frozen HX.out.b12 0; have HXA := Aside0.mk (HX.out.below (below_alloc (Below.refl _ _) (.cells #[.int .i64 1] 3))); have a5 := (blk_cell HXA.out.b5 0).trans rfl) | (gi_at_call 38; refine (callsIn_wide.2 (places_calls _ _ _ _ _)).mono ?_; rintro e w3 ⟨rfl, rfl⟩))
      have FX := Aside0.mk ((HXA.out.below (below_alloc (Below.refl _ _) (.cells #[.slice A0 l0.length c0] 22))).below (below_alloc (Below.refl _ _) (.cells #[.bool false] 4)))
      have hsz3 : (((w2.alloc (.cells #[.int .i64 1] 3)).alloc (.cells #[.slice A0 l0.length c0] 22)).alloc (.cells #[.bool false] 4)).heap.size = w2.heap.size + 3 := by simp only [World.size_alloc]
      have hBs : (((w2.alloc (.cells #[.int .i64 1] 3)).alloc (.cells #[.slice A0 l0.length c0] 22)).alloc (.cells #[.bool false] 4)).cell? ⟨w2.heap.size + 1, 0, none⟩ = some (.slice A0 l0.length c0) := by go_simp
      have hBn : (((w2.alloc (.cells #[.int .i64 1] 3)).alloc (.cells #[.slice A0 l0.length c0] 22)).alloc (.cells #[.bool false] 4)).cell? ⟨w2.heap.size + 1 + 1, 0, none⟩ = some (.bool false) := by go_simp
      have HSD : Aside0 ((((w2.alloc (.cells #[.int .i64 1] 3)).alloc (.cells #[.slice A0 l0.length c0] 22)).alloc (.cells #[.bool false] 4)).heap[w2.heap.size]? = some (.cells #[.int .i64 (sideB false)] 3 (0, 0))) := ⟨by
       rw [Below.heap_alloc _ _ _ (by simp only [World.size_alloc]; omega), Below.heap_alloc _ _ _ (by simp only [World.size_alloc]; omega)]; exact blk_new w2 _⟩
      have HBS := Aside0.mk (below_alloc (below_alloc (below_alloc HB.out (.cells #[.int .i64 1] 3)) (.cells #[.slice A0 l0.length c0] 22)) (.cells #[.bool false] 4))
      generalize (((w2.alloc (.cells #[.int .i64 1] 3)).alloc (.cells #[.slice A0 l0.length c0] 22)).alloc (.cells #[.bool false] 4)) = ws at *
      have hS7 := HX.out.size
      clear HXA a5 c5 c6 c7 c8 c10 c11 c12 f10 f11 f12 HX HB HX1
      generalize w2.heap.size = N2 at *
      have hwn := HBS.out.size
      refine wpIn_rangeFunc_ownF rfl (by decide) (gf := 62) (lb := #[.pointer (some ⟨N2 + 1, 0, none⟩), .pointer (some ⟨N2 + 1 + 1, 0, none⟩)]) rfl trivial (enters_of Tryd.func62 (by kernel_rfl) rfl)
       (places_stops 5 (by decide) (N2 + 1) (N2 + 1 + 1) ws.heap.size c0 A0 l0 false w hc0 HR.out hwn (by omega) (by omega) ws (Nat.le_refl _) HBS.out hBs hBn) belowK_t (belowK_b (Nat.le_refl _)) (Below.refl _ _) (fun _ => rfl)
       (fun pre W => (∀ x ∈ pre, hitO l0 a1 a2 a3 (sideB false) x.1 = some false) ∧ Below ws.heap.size ws W)
       (fun c pre W => (c = .ret ∧ (∃ pre' x, pre = pre' ++ [x] ∧ (∀ y ∈ pre', hitO l0 a1 a2 a3 (sideB false) y.1 = some false) ∧ hitO l0 a1 a2 a3 (sideB false) x.1 = some true ∧ W.heap[w.heap.size + 1 + 1 + 1 + 1]? = some (.cells #[.int .i64 (x.1.1 : Nat)] 3 (0, 0)) ∧ W.heap[w.heap.size + 1 + 1 + 1 + 1 + 1]? = some (.cells #[.int .i64 (x.1.2 : Nat)] 3 (0, 0)) ∧ W.heap[w.heap.size + 1 + 1 + 1 + 1 + 1 + 1]? = some (.cells #[.int .i64 0] 24 (0, 0)))) ∧ Below w.heap.size w W)
       ?hI ?hIx ⟨fun x hx => by (cases hx), Below.refl _ _⟩
       (fun x => { tmps := #[.slice A0 l0.length c0, .string a1, .int .i64 a2, .int .i64 a3, .bool false, .pointer (some ⟨w.heap.size, 0, none⟩), .pointer (some ⟨w.heap.size + 1, 0, none⟩), .pointer (some ⟨w.heap.size + 1 + 1, 0, none⟩), .pointer (some ⟨w.heap.size + 1 + 1 + 1, 0, none⟩), undef, .pointer (some ⟨w.heap.size + 1 + 1 + 1 + 1, 0, none⟩), .pointer (some ⟨w.heap.size + 1 + 1 + 1 + 1 + 1, 0, none⟩), .pointer (some ⟨w.heap.size + 1 + 1 + 1 + 1 + 1 + 1, 0, none⟩), .pointer (some ⟨N2, 0, none⟩), .int .i64 (x.1.1 : Nat), .int .i64 (x.1.2 : Nat), undef, .slice A0 l0.length c0, .bool true, .bool false, .bool false, .slice A0 l0.length c0, .int .i64 a2, .int .i64 a3, .bool true, .bool false, .bool false, .bool false, .string a1, .bool false, .bool false, .bool false, .string a1, .int .i64 a1.size, .bool false, .bool false, .bool false, .slice A0 l0.length c0, .bool false, .func (.func 62) #[] #[.pointer (some ⟨N2 + 1, 0, none⟩), .pointer (some ⟨N2 + 1 + 1, 0, none⟩)], .int .i64 (x.1.1 : Nat), .int .i64 (x.1.2 : Nat), undef, undef, undef, undef, undef, undef, undef, undef, undef, undef, undef, undef, undef, undef, undef, undef, undef, undef, undef, undef, undef, undef, undef, undef, undef, undef, undef, undef, undef, undef, undef, undef], defers := [] }) ?assign ?body ?done ?stop
      case hI => exact OwnFrom.and (fun s W W' row hs hg hr => hs) (ownFrom_below (Nat.le_refl _) (Nat.le_refl _))
      case hIx =>
       intro c
       refine OwnFrom.and (fun s W W' row hs hg hr => ⟨hs.1, ?_⟩) (ownFrom_below (Nat.le_refl _) hwn)
       obtain ⟨hc, pre', x, e, hf, hh, k10, k11, k12⟩ := hs
       have hrr : ∀ r, row = some r → ws.heap.size ≤ r := fun r e => (hr r e).1
       exact ⟨pre', x, e, hf, hh, (hg.block _ (blk_lt k10) (fun e => by have := hrr _ e.symm; omega)).trans k10, (hg.block _ (blk_lt k11) (fun e => by have := hrr _ e.symm; omega)).trans k11, (hg.block _ (blk_lt k12) (fun e => by have := hrr _ e.symm; omega)).trans k12⟩
      case assign =>
       intro l x W K hK
       gi_wp2
       exact hK
      case body =>
       rintro l pre x W ⟨hall, hbW⟩ _
       exact find_body false _ _ _ _ _ _ _ _ _ HR hc0 hok HBS FX HSD hwn l pre x W hall hbW
      case done =>
       rintro D xs W hD hxs ⟨hall, hbW⟩ hK
       have hr := seekO_none h (fun p hp => by
        rw [← hxs] at hp
        obtain ⟨x, hx, rfl⟩ := List.mem_map.1 hp
        exact hall x hx)
       cases hr
       have F7 := Aside0.mk (FX.out.below hbW)
       have c10 := (blk_cell F7.out.b10 0).trans rfl
       have c11 := (blk_cell F7.out.b11 0).trans rfl
       have c12 := (blk_cell F7.out.b12 0).trans rfl
       have f10 := blk_frozen F7.out.b10 0
       have f11 := blk_frozen F7.out.b11 0
       have f12 := blk_frozen F7.out.b12 0
       have HK := Aside0.mk hK
       have HBW := Aside0.mk hbW
       clear hxs hall hK hbW
       gi_wp2
       obtain ⟨g10, g11, g12⟩ := F7.out.put 0 0 5
       have hK2 := (((KeepsOthers.setCell W ⟨w.heap.size + 1 + 1 + 1 + 1, 0, none⟩ (.int .i64 0)).trans (KeepsOthers.setCell _ ⟨w.heap.size + 1 + 1 + 1 + 1 + 1, 0, none⟩ (.int .i64 0))).trans (KeepsOthers.setCell _ ⟨w.heap.size + 1 + 1 + 1 + 1 + 1 + 1, 0, none⟩ (.int .i64 5))).same D _ HK.out rfl
       have d10 := cell_kept ((blk_cell g10 0).trans rfl) (grownBy_putObj' _ D (.deferred none)) (fun r e => by cases e; exact ⟨_, hK2, rfl⟩)
       have d11 := cell_kept ((blk_cell g11 0).trans rfl) (grownBy_putObj' _ D (.deferred none)) (fun r e => by cases e; exact ⟨_, hK2, rfl⟩)
       have d12 := cell_kept ((blk_cell g12 0).trans rfl) (grownBy_putObj' _ D (.deferred none)) (fun r e => by cases e; exact ⟨_, hK2, rfl⟩)
       refine ⟨by simp, .inl ⟨_, _, rfl, run_takeDeferred hK2, ?_⟩⟩
       refine ⟨.tuple #[.int .i64 0, .int .i64 0, .int .i64 5], by simp [results, Tryd.results10, go_sem, d10, d11, d12], rfl, ?_⟩
       exact ((((HBS.out.trans (HBW.out.mono hwn)).setCell (p := ⟨w.heap.size + 1 + 1 + 1 + 1, 0, none⟩) (by show w.heap.size ≤ w.heap.size + 1 + 1 + 1 + 1; omega) _).setCell (p := ⟨w.heap.size + 1 + 1 + 1 + 1 + 1, 0, none⟩) (by show w.heap.size ≤ w.heap.size + 1 + 1 + 1 + 1 + 1; omega) _).setCell (p := ⟨w.heap.size + 1 + 1 + 1 + 1 + 1 + 1, 0, none⟩) (by show w.heap.size ≤ w.heap.size + 1 + 1 + 1 + 1 + 1 + 1; omega) _).trans (belowK_b (w := w) (Nat.le_refl _) _ D _ _ (by omega) hK2 rfl rfl)
      case stop =>
       rintro D c pre W hD hpre ⟨⟨rfl, pre', x, rfl, hf, hh, k10, k11, k12⟩, hB⟩ hK
       have hr : (r1, r2, r3) = ((x.1.1 : Int), (x.1.2 : Int), (0 : Int)) := by
        obtain ⟨rest, hrest⟩ := hpre
        rw [← hrest, List.map_append, List.append_assoc] at h
        obtain ⟨b, hb, hr⟩ := seekO_at h (fun q hq => by
         obtain ⟨y, hy, rfl⟩ := List.mem_map.1 hq
         exact hf y hy)
        rw [hh] at hb
        exact hr (Option.some.inj hb).symm
       cases hr
       have HB7 := Aside0.mk hB
       have HK := Aside0.mk hK
       clear hpre hf hh hB hK
       gi_wp2
       have d10 := cell_kept ((blk_cell k10 0).trans rfl) (grownBy_putObj' _ D (.deferred none)) (fun r e => by cases e; exact ⟨_, HK.out, rfl⟩)
       have d11 := cell_kept ((blk_cell k11 0).trans rfl) (grownBy_putObj' _ D (.deferred none)) (fun r e => by cases e; exact ⟨_, HK.out, rfl⟩)
       have d12 := cell_kept ((blk_cell k12 0).trans rfl) (grownBy_putObj' _ D (.deferred none)) (fun r e => by cases e; exact ⟨_, HK.out, rfl⟩)
       refine ⟨by simp, .inl ⟨_, _, rfl, run_takeDeferred HK.out, ?_⟩⟩
       refine ⟨.tuple #[.int .i64 (x.1.1 : Nat), .int .i64 (x.1.2 : Nat), .int .i64 0], by simp [results, Tryd.results10, go_sem, d10, d11, d12], rfl, ?_⟩
       exact HB7.out.trans (belowK_b (w := w) (Nat.le_refl _) _ D _ _ (by omega) HK.out rfl rfl)
    ·rw [if_neg hz] at h
     cases h
     have e2 : decide ((64 : Int) < (a1.size : Int)) = true := decide_eq_true (by omega)
     clear hz
     gi_wp2_with (refine ⟨trivial, ?_⟩; first | (gi_at_call 36; refine (callsIn_wide.2 (CM.out (findWorld w A0 l0.length c0 a1 a2 a3) (findWorld_below _ _ _ _ _ _ _))).mono ?_; rintro e w1 ⟨rfl, hb1⟩; have HX1 := Aside0.mk ((FindBoxes.new w A0 l0.length c0 a1 a2 a3).below hb1); have HB := Aside0.mk ((findWorld_below w A0 l0.length c0 a1 a2 a3).trans (hb1.mono (findWorld_below _ _ _ _ _ _ _).size)); clear hb1; have c5 := (blk_cell HX1.out.b5 0).trans rfl; have c7 := (blk_cell HX1.out.b7 0).trans rfl; have c8 := (blk_cell HX1.out.b8 0).trans rfl) | (gi_at_call 37; refine (callsIn_wide.2 (CT.out w1 HB.out)).mono ?_; rintro e w2 ⟨rfl, hd2⟩; have HX := Aside0.mk (HX1.out.below hd2.below); have HB2 := Aside0.mk (below_step HB.out hd2.below); clear hd2 HB c5 c7 c8; have HB := HB2; clear HB2; have c5 := (blk_cell HX.out.b5 0).trans rfl; have c6 := (blk_cell HX.out.b6 0).trans rfl; have c7 := (blk_cell HX.out.b7 0).trans rfl; have c8 := (blk_cell HX.out.b8 0).trans rfl; have c10 := (blk_cell HX.out.b10 0).trans rfl; have c11 := (blk_cell HX.out.b11 0).trans rfl; have c12 := (blk_cell HX.out.b12 0).trans rfl; have f10 := blk_frozen HX.out.b10 0; have f11 := blk_frozen HX.out.b11 0; have f12 := blk_frozen HX.out.b12 0))
     gi_wp2_with (refine ⟨trivial, ?_⟩)
     obtain ⟨g10, g11, g12⟩ := HX.out.put 0 0 1
     have d10 := (blk_cell g10 0).trans rfl
     have d11 := (blk_cell g11 0).trans rfl
     have d12 := (blk_cell g12 0).trans rfl
     refine ⟨.tuple #[.int .i64 0, .int .i64 0, .int .i64 1], by simp [results, Tryd.results10, go_sem, d10, d11, d12], rfl, ?_⟩
     exact (((HB.out.setCell (p := ⟨w.heap.size + 1 + 1 + 1 + 1, 0, none⟩) (by show w.heap.size ≤ w.heap.size + 1 + 1 + 1 + 1; omega) _).setCell (p := ⟨w.heap.size + 1 + 1 + 1 + 1 + 1, 0, none⟩) (by show w.heap.size ≤ w.heap.size + 1 + 1 + 1 + 1 + 1; omega) _).setCell (p := ⟨w.heap.size + 1 + 1 + 1 + 1 + 1 + 1, 0, none⟩) (by show w.heap.size ≤ w.heap.size + 1 + 1 + 1 + 1 + 1 + 1; omega) _)
end Go.Proofs.YtckkdaehmccjlaaDoor.P
namespace Go.Proofs.YtckkdaehmccjlaaDoor.P
open Go.RowKit Go.Proofs.YtckkdaehmccjlaaDoorW.PrintWords Go.Proofs.YtckkdaehmccjlaaDoorW.PrintLast Go.Proofs.YtckkdaehmccjlaaDoorW.PrintMore
attribute [local go_sem] max2_int min2_int max_two min_two max_three min_three max_four min_four   -- for this text's walks alone
set_option linter.unusedVariables false
set_option linter.unusedSimpArgs false
def backseatlaw10_alive.f (k : Nat)  : Option (Bool) := (find_Find.f k (([(⟨(([(⟨(⟨#[97]⟩ : ByteArray), 1, (⟨0, 0, 0⟩ : S58)⟩ : S60), (⟨(⟨#[98]⟩ : ByteArray), 1, (⟨0, 0, 0⟩ : S58)⟩ : S60)] : List (S60))), false⟩ : S38)] : List (S38))) (⟨#[98]⟩ : ByteArray) 0 0 false).bind fun bt251 => (if bt251.2.2 = 0 then (if bt251.1 = 0 then (some (bt251.2.1 == 1)) else (some false)) else (some false))
set_option maxHeartbeats 8000000 in
set_option maxRecDepth 100000 in
theorem backseatlaw10_alive.calls (k : Nat)  (r : Bool) (w : World) (h : backseatlaw10_alive.f k  = some r) (hT : Tabs w := by first | exact Aside0.out (by with_reducible assumption) | exact Tabs.keepA (by with_reducible assumption) (by repeat (first | (with_reducible exact Aside0.out (by with_reducible assumption)) | (with_reducible apply below_alloc) | (with_reducible apply pw_below_drewN) | (with_reducible apply below_drew1) | (with_reducible refine below_set ?_ (Aside0.out (by with_reducible assumption)))))) :
  Calls Tryd.prog 13 #[] w fun e w' => e = .returned (.bool r) ∧ Below w.heap.size w w' := by
 have HT := Aside0.mk (show Tabs w from hT)
 clear hT
 have hu60 := Tryd.underlying60
 have hu38 := Tryd.underlying38
 have HB := Aside0.mk (Below.refl w.heap.size w)
 have H : ((find_Find.f k (([(⟨(([(⟨(⟨#[97]⟩ : ByteArray), 1, (⟨0, 0, 0⟩ : S58)⟩ : S60), (⟨(⟨#[98]⟩ : ByteArray), 1, (⟨0, 0, 0⟩ : S58)⟩ : S60)] : List (S60))), false⟩ : S38)] : List (S38))) (⟨#[98]⟩ : ByteArray) 0 0 false).bind fun bt251 => (if bt251.2.2 = 0 then (if bt251.1 = 0 then (some (bt251.2.1 == 1)) else (some false)) else (some false))) = some r := h
 clear h
 obtain ⟨y245, hy245⟩ : ∃ y_ : List (S60), y_ = (([(⟨(⟨#[97]⟩ : ByteArray), 1, (⟨0, 0, 0⟩ : S58)⟩ : S60), (⟨(⟨#[98]⟩ : ByteArray), 1, (⟨0, 0, 0⟩ : S58)⟩ : S60)] : List (S60))) := ⟨_, rfl⟩
 replace H : ((find_Find.f k (([(⟨y245, false⟩ : S38)] : List (S38))) (⟨#[98]⟩ : ByteArray) 0 0 false).bind fun bt251 => (if bt251.2.2 = 0 then (if bt251.1 = 0 then (some (bt251.2.1 == 1)) else (some false)) else (some false))) = some r := by first | (rw [hy245]; with_reducible exact H) | (have H2_ := (Option.bind_some _ _).symm.trans H; rw [hy245]; with_reducible exact H2_) | (have H2_ := (Option.bind_some _ _).symm.trans H; with_reducible exact H2_) | with_reducible exact H | (rw [hy245]; exact H) | exact H
 have Ny245 := Aside0.mk hy245
 clear hy245
 obtain ⟨y248, hy248⟩ : ∃ y_ : List (S38), y_ = (([(⟨y245, false⟩ : S38)] : List (S38))) := ⟨_, rfl⟩
 replace H : ((find_Find.f k y248 (⟨#[98]⟩ : ByteArray) 0 0 false).bind fun bt251 => (if bt251.2.2 = 0 then (if bt251.1 = 0 then (some (bt251.2.1 == 1)) else (some false)) else (some false))) = some r := by first | (rw [hy248]; with_reducible exact H) | (have H2_ := (Option.bind_some _ _).symm.trans H; rw [hy248]; with_reducible exact H2_) | (have H2_ := (Option.bind_some _ _).symm.trans H; with_reducible exact H2_) | with_reducible exact H | (rw [hy248]; exact H) | exact H
 have Ny248 := Aside0.mk hy248
 clear hy248
 replace H := Option.bind_eq_some_iff.mp H
 obtain ⟨⟨t251, t252, t253⟩, A10, H⟩ := H
 replace H : (if t253 = 0 then (if t251 = 0 then (some (t252 == 1)) else (some false)) else (some false)) = some r := H
 have A1 := Aside0.mk A10
 clear A10
 by_cases c2 : t253 = 0
 ·rw [if_pos c2] at H
  have c2b0 : (t253 == 0) = true := beq_iff_eq.mpr c2
  have c2b1 : (t253 != 0) = false := bne_eq_false_iff_eq.mpr c2
  clear c2
  by_cases c3 : t251 = 0
  ·rw [if_pos c3] at H
   have c3b0 : (t251 == 0) = true := beq_iff_eq.mpr c3
   have c3b1 : (t251 != 0) = false := bne_eq_false_iff_eq.mpr c3
   clear c3
   obtain rfl := Option.some.inj H
   go_enter Tryd.func13, Tryd.ntmps13
   go_wp2_with (first | ((with_reducible refine gate_dst (N := 7) rfl ?_); refine Kd.R_lit k60 _ 60 ?hg (N := 7) ?hd (xs := ([(⟨(⟨#[97]⟩ : ByteArray), 1, (⟨0, 0, 0⟩ : S58)⟩ : S60), (⟨(⟨#[98]⟩ : ByteArray), 1, (⟨0, 0, 0⟩ : S58)⟩ : S60)] : List (S60))) (inner := [.string (⟨#[97]⟩ : ByteArray), .int .i64 1, .int .i64 0, .int .i64 0, .int .i64 0, .string (⟨#[98]⟩ : ByteArray), .int .i64 1, .int .i64 0, .int .i64 0, .int .i64 0]) (ok := fun _ => True) (okp := fun _ => True) ?hr ?hp (fun _ hk => hk) trivial (Below.refl _ _) (Nat.le_refl _) (by simp) ?_; (case hd => rfl); (case hg => rfl); (case hr => exact zo); (case hp => exact (Reps.c5 (show Kd.M k60 _ _ _ (⟨(⟨#[97]⟩ : ByteArray), 1, (⟨0, 0, 0⟩ : S58)⟩ : S60) [.string (⟨#[97]⟩ : ByteArray), .int .i64 1, .int .i64 0, .int .i64 0, .int .i64 0] from (k60_mkM _ _ _ (⟨(⟨#[97]⟩ : ByteArray), 1, (⟨0, 0, 0⟩ : S58)⟩ : S60) )) (Reps.c5 (show Kd.M k60 _ _ _ (⟨(⟨#[98]⟩ : ByteArray), 1, (⟨0, 0, 0⟩ : S58)⟩ : S60) [.string (⟨#[98]⟩ : ByteArray), .int .i64 1, .int .i64 0, .int .i64 0, .int .i64 0] from (k60_mkM _ _ _ (⟨(⟨#[98]⟩ : ByteArray), 1, (⟨0, 0, 0⟩ : S58)⟩ : S60) )) (Reps.none _ _)))); intro v246 w4 ho5 hb hg_ hnew_; clear hg_ hnew_; (first | rw [← Ny245.out] at ho5 | (simp only [Int.reduceToNat] at ho5; rw [← Ny245.out] at ho5)); have HO247 := Aside0.mk (Kd.R_lower ho5 (below_size zb)); replace HB := (zs HB hb); clear hb ho5; obtain ⟨Ao6, co6, eo6⟩ := Kd.R_slice HO247.out; subst eo6) | ((with_reducible refine gate_dst (N := 9) rfl ?_); refine Kd.N_lit k38 _ 38 ?hg (N' := 9) ?hd (xs := ([(⟨y245, false⟩ : S38)] : List (S38))) (inner := [.slice Ao6 y245.length co6, .bool false]) (ok := (fun _ => True)) (okp := (fun _ => True)) ?hr ?hp (fun _ hk => hk) ((show ∀ k_, w4.heap.size ≤ k_ → (fun _ => True) k_ from fun k_ hk => trivial) _ (Nat.le_refl _)) (Below.refl _ _) (Nat.le_refl _) (by simp) ?_; (case hd => rfl); (case hg => rfl); (case hr => exact zo); (case hp => exact (Reps.c2 (show Kd.FK k38 _ _ (⟨y245, false⟩ : S38) [.slice Ao6 y245.length co6, .bool false] from (k38_mkF _ _ (⟨y245, false⟩ : S38) (Kd.R_reads' (Kd.R_mono (ok' := (fun _ => True)) (HO247.out) (fun k_ hk => trivial))).2.1 (Kd.R_F (Kd.R_mono (ok' := (fun _ => True)) (HO247.out) (fun k_ hk => trivial))))) (Reps.none _ _))); intro v249 w7 ho8 hb hg_ hnew_; clear hg_ hnew_; (first | rw [← Ny248.out] at ho8 | (simp only [Int.reduceToNat] at ho8; rw [← Ny248.out] at ho8)); have n0_ := Aside0.mk (Kd.N_lower ho8 (below_size zb)); have n1_ := (zs HB hb); clear HB; clear HO247; have HO250 := n0_; have HB := n1_; clear n0_ n1_; clear hb ho8; obtain ⟨Ao9, co9, eo9⟩ := Kd.N_slice HO250.out; subst eo9) | ((with_reducible refine gate_callee (f := 10) rfl ?_); refine goesL_ (some 12) rfl rfl Tryd.func10 (by kernel_rfl) rfl #[.slice Ao9 y248.length co9, .string (⟨#[98]⟩ : ByteArray), .int .i64 0, .int .i64 0, .bool false] rfl zl ?_; (with_reducible refine (find_Find.calls k _ _ y248 (⟨#[98]⟩ : ByteArray) 0 0 false t251 t252 t253 _ ?side1 ?side2 A1.out).mono ?_); (case side1 => repeat (first | exact (Kd.N_reads' HO250.out).2.2 | (with_reducible refine Kd.C_alloc ?_ _) | (with_reducible refine Kd.C_drewN ?_ _) | (with_reducible refine Kd.C_drew ?_))); (case side2 => exact (Kd.N_reads' HO250.out).2.1); rintro e w10 ⟨rfl, hb⟩; refine ⟨_, rfl, ?_⟩; replace HO250 := (zN HO250 hb); replace HB := (zs HB hb); (try clear hb); (try clear hk)))
   go_ret
   exact ⟨ze, zb⟩
  ·rw [if_neg c3] at H
   have c3b0 : (t251 == 0) = false := beq_eq_false_iff_ne.mpr c3
   have c3b1 : (t251 != 0) = true := bne_iff_ne.mpr c3
   obtain rfl := Option.some.inj H
   go_enter Tryd.func13, Tryd.ntmps13
   go_wp2_with (first | ((with_reducible refine gate_dst (N := 7) rfl ?_); refine Kd.R_lit k60 _ 60 ?hg (N := 7) ?hd (xs := ([(⟨(⟨#[97]⟩ : ByteArray), 1, (⟨0, 0, 0⟩ : S58)⟩ : S60), (⟨(⟨#[98]⟩ : ByteArray), 1, (⟨0, 0, 0⟩ : S58)⟩ : S60)] : List (S60))) (inner := [.string (⟨#[97]⟩ : ByteArray), .int .i64 1, .int .i64 0, .int .i64 0, .int .i64 0, .string (⟨#[98]⟩ : ByteArray), .int .i64 1, .int .i64 0, .int .i64 0, .int .i64 0]) (ok := fun _ => True) (okp := fun _ => True) ?hr ?hp (fun _ hk => hk) trivial (Below.refl _ _) (Nat.le_refl _) (by simp) ?_; (case hd => rfl); (case hg => rfl); (case hr => exact zo); (case hp => exact (Reps.c5 (show Kd.M k60 _ _ _ (⟨(⟨#[97]⟩ : ByteArray), 1, (⟨0, 0, 0⟩ : S58)⟩ : S60) [.string (⟨#[97]⟩ : ByteArray), .int .i64 1, .int .i64 0, .int .i64 0, .int .i64 0] from (k60_mkM _ _ _ (⟨(⟨#[97]⟩ : ByteArray), 1, (⟨0, 0, 0⟩ : S58)⟩ : S60) )) (Reps.c5 (show Kd.M k60 _ _ _ (⟨(⟨#[98]⟩ : ByteArray), 1, (⟨0, 0, 0⟩ : S58)⟩ : S60) [.string (⟨#[98]⟩ : ByteArray), .int .i64 1, .int .i64 0, .int .i64 0, .int .i64 0] from (k60_mkM _ _ _ (⟨(⟨#[98]⟩ : ByteArray), 1, (⟨0, 0, 0⟩ : S58)⟩ : S60) )) (Reps.none _ _)))); intro v246 w11 ho12 hb hg_ hnew_; clear hg_ hnew_; (first | rw [← Ny245.out] at ho12 | (simp only [Int.reduceToNat] at ho12; rw [← Ny245.out] at ho12)); have HO247 := Aside0.mk (Kd.R_lower ho12 (below_size zb)); replace HB := (zs HB hb); clear hb ho12; obtain ⟨Ao13, co13, eo13⟩ := Kd.R_slice HO247.out; subst eo13) | ((with_reducible refine gate_dst (N := 9) rfl ?_); refine Kd.N_lit k38 _ 38 ?hg (N' := 9) ?hd (xs := ([(⟨y245, false⟩ : S38)] : List (S38))) (inner := [.slice Ao13 y245.length co13, .bool false]) (ok := (fun _ => True)) (okp := (fun _ => True)) ?hr ?hp (fun _ hk => hk) ((show ∀ k_, w11.heap.size ≤ k_ → (fun _ => True) k_ from fun k_ hk => trivial) _ (Nat.le_refl _)) (Below.refl _ _) (Nat.le_refl _) (by simp) ?_; (case hd => rfl); (case hg => rfl); (case hr => exact zo); (case hp => exact (Reps.c2 (show Kd.FK k38 _ _ (⟨y245, false⟩ : S38) [.slice Ao13 y245.length co13, .bool false] from (k38_mkF _ _ (⟨y245, false⟩ : S38) (Kd.R_reads' (Kd.R_mono (ok' := (fun _ => True)) (HO247.out) (fun k_ hk => trivial))).2.1 (Kd.R_F (Kd.R_mono (ok' := (fun _ => True)) (HO247.out) (fun k_ hk => trivial))))) (Reps.none _ _))); intro v249 w14 ho15 hb hg_ hnew_; clear hg_ hnew_; (first | rw [← Ny248.out] at ho15 | (simp only [Int.reduceToNat] at ho15; rw [← Ny248.out] at ho15)); have n0_ := Aside0.mk (Kd.N_lower ho15 (below_size zb)); have n1_ := (zs HB hb); clear HB; clear HO247; have HO250 := n0_; have HB := n1_; clear n0_ n1_; clear hb ho15; obtain ⟨Ao16, co16, eo16⟩ := Kd.N_slice HO250.out; subst eo16) | ((with_reducible refine gate_callee (f := 10) rfl ?_); refine goesL_ (some 12) rfl rfl Tryd.func10 (by kernel_rfl) rfl #[.slice Ao16 y248.length co16, .string (⟨#[98]⟩ : ByteArray), .int .i64 0, .int .i64 0, .bool false] rfl zl ?_; (with_reducible refine (find_Find.calls k _ _ y248 (⟨#[98]⟩ : ByteArray) 0 0 false t251 t252 t253 _ ?side1 ?side2 A1.out).mono ?_); (case side1 => repeat (first | exact (Kd.N_reads' HO250.out).2.2 | (with_reducible refine Kd.C_alloc ?_ _) | (with_reducible refine Kd.C_drewN ?_ _) | (with_reducible refine Kd.C_drew ?_))); (case side2 => exact (Kd.N_reads' HO250.out).2.1); rintro e w17 ⟨rfl, hb⟩; refine ⟨_, rfl, ?_⟩; replace HO250 := (zN HO250 hb); replace HB := (zs HB hb); (try clear hb); (try clear hk)))
   go_ret
   exact ⟨ze, zb⟩
 ·rw [if_neg c2] at H
  have c2b0 : (t253 == 0) = false := beq_eq_false_iff_ne.mpr c2
  have c2b1 : (t253 != 0) = true := bne_iff_ne.mpr c2
  obtain rfl := Option.some.inj H
  go_enter Tryd.func13, Tryd.ntmps13
  go_wp2_with (first | ((with_reducible refine gate_dst (N := 7) rfl ?_); refine Kd.R_lit k60 _ 60 ?hg (N := 7) ?hd (xs := ([(⟨(⟨#[97]⟩ : ByteArray), 1, (⟨0, 0, 0⟩ : S58)⟩ : S60), (⟨(⟨#[98]⟩ : ByteArray), 1, (⟨0, 0, 0⟩ : S58)⟩ : S60)] : List (S60))) (inner := [.string (⟨#[97]⟩ : ByteArray), .int .i64 1, .int .i64 0, .int .i64 0, .int .i64 0, .string (⟨#[98]⟩ : ByteArray), .int .i64 1, .int .i64 0, .int .i64 0, .int .i64 0]) (ok := fun _ => True) (okp := fun _ => True) ?hr ?hp (fun _ hk => hk) trivial (Below.refl _ _) (Nat.le_refl _) (by simp) ?_; (case hd => rfl); (case hg => rfl); (case hr => exact zo); (case hp => exact (Reps.c5 (show Kd.M k60 _ _ _ (⟨(⟨#[97]⟩ : ByteArray), 1, (⟨0, 0, 0⟩ : S58)⟩ : S60) [.string (⟨#[97]⟩ : ByteArray), .int .i64 1, .int .i64 0, .int .i64 0, .int .i64 0] from (k60_mkM _ _ _ (⟨(⟨#[97]⟩ : ByteArray), 1, (⟨0, 0, 0⟩ : S58)⟩ : S60) )) (Reps.c5 (show Kd.M k60 _ _ _ (⟨(⟨#[98]⟩ : ByteArray), 1, (⟨0, 0, 0⟩ : S58)⟩ : S60) [.string (⟨#[98]⟩ : ByteArray), .int .i64 1, .int .i64 0, .int .i64 0, .int .i64 0] from (k60_mkM _ _ _ (⟨(⟨#[98]⟩ : ByteArray), 1, (⟨0, 0, 0⟩ : S58)⟩ : S60) )) (Reps.none _ _)))); intro v246 w18 ho19 hb hg_ hnew_; clear hg_ hnew_; (first | rw [← Ny245.out] at ho19 | (simp only [Int.reduceToNat] at ho19; rw [← Ny245.out] at ho19)); have HO247 := Aside0.mk (Kd.R_lower ho19 (below_size zb)); replace HB := (zs HB hb); clear hb ho19; obtain ⟨Ao20, co20, eo20⟩ := Kd.R_slice HO247.out; subst eo20) | ((with_reducible refine gate_dst (N := 9) rfl ?_); refine Kd.N_lit k38 _ 38 ?hg (N' := 9) ?hd (xs := ([(⟨y245, false⟩ : S38)] : List (S38))) (inner := [.slice Ao20 y245.length co20, .bool false]) (ok := (fun _ => True)) (okp := (fun _ => True)) ?hr ?hp (fun _ hk => hk) ((show ∀ k_, w18.heap.size ≤ k_ → (fun _ => True) k_ from fun k_ hk => trivial) _ (Nat.le_refl _)) (Below.refl _ _) (Nat.le_refl _) (by simp) ?_; (case hd => rfl); (case hg => rfl); (case hr => exact zo); (case hp => exact (Reps.c2 (show Kd.FK k38 _ _ (⟨y245, false⟩ : S38) [.slice Ao20 y245.length co20, .bool false] from (k38_mkF _ _ (⟨y245, false⟩ : S38) (Kd.R_reads' (Kd.R_mono (ok' := (fun _ => True)) (HO247.out) (fun k_ hk => trivial))).2.1 (Kd.R_F (Kd.R_mono (ok' := (fun _ => True)) (HO247.out) (fun k_ hk => trivial))))) (Reps.none _ _))); intro v249 w21 ho22 hb hg_ hnew_; clear hg_ hnew_; (first | rw [← Ny248.out] at ho22 | (simp only [Int.reduceToNat] at ho22; rw [← Ny248.out] at ho22)); have n0_ := Aside0.mk (Kd.N_lower ho22 (below_size zb)); have n1_ := (zs HB hb); clear HB; clear HO247; have HO250 := n0_; have HB := n1_; clear n0_ n1_; clear hb ho22; obtain ⟨Ao23, co23, eo23⟩ := Kd.N_slice HO250.out; subst eo23) | ((with_reducible refine gate_callee (f := 10) rfl ?_); refine goesL_ (some 12) rfl rfl Tryd.func10 (by kernel_rfl) rfl #[.slice Ao23 y248.length co23, .string (⟨#[98]⟩ : ByteArray), .int .i64 0, .int .i64 0, .bool false] rfl zl ?_; (with_reducible refine (find_Find.calls k _ _ y248 (⟨#[98]⟩ : ByteArray) 0 0 false t251 t252 t253 _ ?side1 ?side2 A1.out).mono ?_); (case side1 => repeat (first | exact (Kd.N_reads' HO250.out).2.2 | (with_reducible refine Kd.C_alloc ?_ _) | (with_reducible refine Kd.C_drewN ?_ _) | (with_reducible refine Kd.C_drew ?_))); (case side2 => exact (Kd.N_reads' HO250.out).2.1); rintro e w24 ⟨rfl, hb⟩; refine ⟨_, rfl, ?_⟩; replace HO250 := (zN HO250 hb); replace HB := (zs HB hb); (try clear hb); (try clear hk)))
  go_ret
  exact ⟨ze, zb⟩
def backseatlaw10_FindLooks.j0 : Nat → List (S38) → ByteArray → Int → Int → Bool → Int → Int → Int → Bool → Option (Bool)
 | 0, _, _, _, _, _, _, _, _, _ => none
 | k + 1, x0, x1, x2, x3, x4, x11, x12, x13, x50 => if x50 = true then ((backseatlaw10_alive.f k).bind fun t279 => (if t279 = true then (if x13 = 1 then (if x11 = 0 then (some (x12 == 0)) else (some false)) else (some false)) else (some false))) else ((backseatref10_Find.f k x0 x1 x2 x3 x4).bind fun bt280 => (if bt280.1 < 0 then ((backseatlaw10_alive.f k).bind fun t283 => (if t283 = true then (if x13 = 5 then (if x11 = 0 then (some (x12 == 0)) else (some false)) else (some false)) else (some false))) else ((backseatlaw10_alive.f k).bind fun t284 => (if t284 = true then (if x13 = 0 then (if x11 = bt280.1 then (some (x12 == bt280.2)) else (some false)) else (some false)) else (some false)))))
def backseatlaw10_FindLooks.f (k : Nat) (l0 : List (S38)) (a1 : ByteArray) (a2 : Int) (a3 : Int) (a4 : Bool) : Option (Bool) := (backseatlaw10_few.f k l0).bind fun t271 => (if 0 ≤ (mn (a1.size : Int) 66) then (if (mn (a1.size : Int) 66) ≤ (a1.size : Int) then ((find_Find.f k t271 (a1.extract 0 ((mn (a1.size : Int) 66) : Int).toNat) a2 a3 a4).bind fun bt274 => ((backseatref08_May.f k t271).bind fun t277 => (if t277 = true then ((backseatref10_There.f t271 a2 a3).bind fun t278 => (if t278 = true then (if (a1.extract 0 ((mn (a1.size : Int) 66) : Int).toNat).toList = ([] : List UInt8) then (backseatlaw10_FindLooks.j0 k t271 (a1.extract 0 ((mn (a1.size : Int) 66) : Int).toNat) a2 a3 a4 bt274.1 bt274.2.1 bt274.2.2 true) else (backseatlaw10_FindLooks.j0 k t271 (a1.extract 0 ((mn (a1.size : Int) 66) : Int).toNat) a2 a3 a4 bt274.1 bt274.2.1 bt274.2.2 (decide (((a1.extract 0 ((mn (a1.size : Int) 66) : Int).toNat).size : Int) > 64)))) else (backseatlaw10_FindLooks.j0 k t271 (a1.extract 0 ((mn (a1.size : Int) 66) : Int).toNat) a2 a3 a4 bt274.1 bt274.2.1 bt274.2.2 true))) else (backseatlaw10_FindLooks.j0 k t271 (a1.extract 0 ((mn (a1.size : Int) 66) : Int).toNat) a2 a3 a4 bt274.1 bt274.2.1 bt274.2.2 true)))) else (none)) else (none))
def backseatlaw10_FindLooks.T1 : Bool × List (List Nat × List Nat) := (true, [([], []), ([0], [0]), ([], []), ([], []), ([3], [3]), ([4], [4]), ([2, 5], [2, 5]), ([1, 1, 0, 1], [0, 1]), ([6, 7, 0, 1, 2, 3, 4, 5, 6, 7], [2, 3, 6])])
def backseatlaw10_FindLooks.B1 : List Nat := [0, 1, 0, 0, 8, 24, 60, 3, 255]
theorem backseatlaw10_FindLooks.tab1 : rtab .any (opsOf Tryd.f3 1) = backseatlaw10_FindLooks.T1 := by kernel_rfl
theorem backseatlaw10_FindLooks.bits1 : waitsOk backseatlaw10_FindLooks.T1.2 backseatlaw10_FindLooks.B1 = true := by kernel_rfl
set_option maxHeartbeats 8000000 in
set_option maxRecDepth 100000 in
theorem backseatlaw10_FindLooks.calls (k : Nat) (A0 : Option Addr) (c0 : Nat) (l0 : List (S38)) (a1 : ByteArray) (a2 : Int) (a3 : Int) (a4 : Bool) (r : Bool) (w : World) (hr0 : Kd.C k38 w A0 l0.length l0) (hc0 : l0.length ≤ c0) (h : backseatlaw10_FindLooks.f k l0 a1 a2 a3 a4 = some r) (hT : Tabs w := by first | exact Aside0.out (by with_reducible assumption) | exact Tabs.keepA (by with_reducible assumption) (by repeat (first | (with_reducible exact Aside0.out (by with_reducible assumption)) | (with_reducible apply below_alloc) | (with_reducible apply pw_below_drewN) | (with_reducible apply below_drew1) | (with_reducible refine below_set ?_ (Aside0.out (by with_reducible assumption)))))) :
  Calls Tryd.prog 3 #[.slice A0 l0.length c0, .string a1, .int .i64 a2, .int .i64 a3, .bool a4] w fun e w' => e = .returned (.bool r) ∧ Below w.heap.size w w' := by
 have HT := Aside0.mk (show Tabs w from hT)
 clear hT
 have hu31 := Tryd.underlying31
 have HR0 := Aside0.mk hr0
 have HC0 := Aside0.mk hc0
 clear hr0 hc0
 have HB := Aside0.mk (Below.refl w.heap.size w)
 have H : ((backseatlaw10_few.f k l0).bind fun t271 => (if 0 ≤ (mn (a1.size : Int) 66) then (if (mn (a1.size : Int) 66) ≤ (a1.size : Int) then ((find_Find.f k t271 (a1.extract 0 ((mn (a1.size : Int) 66) : Int).toNat) a2 a3 a4).bind fun bt274 => ((backseatref08_May.f k t271).bind fun t277 => (if t277 = true then ((backseatref10_There.f t271 a2 a3).bind fun t278 => (if t278 = true then (if (a1.extract 0 ((mn (a1.size : Int) 66) : Int).toNat).toList = ([] : List UInt8) then (backseatlaw10_FindLooks.j0 k t271 (a1.extract 0 ((mn (a1.size : Int) 66) : Int).toNat) a2 a3 a4 bt274.1 bt274.2.1 bt274.2.2 true) else (backseatlaw10_FindLooks.j0 k t271 (a1.extract 0 ((mn (a1.size : Int) 66) : Int).toNat) a2 a3 a4 bt274.1 bt274.2.1 bt274.2.2 (decide (((a1.extract 0 ((mn (a1.size : Int) 66) : Int).toNat).size : Int) > 64)))) else (backseatlaw10_FindLooks.j0 k t271 (a1.extract 0 ((mn (a1.size : Int) 66) : Int).toNat) a2 a3 a4 bt274.1 bt274.2.1 bt274.2.2 true))) else (backseatlaw10_FindLooks.j0 k t271 (a1.extract 0 ((mn (a1.size : Int) 66) : Int).toNat) a2 a3 a4 bt274.1 bt274.2.1 bt274.2.2 true)))) else (none)) else (none))) = some r := h
 clear h
 replace H := Option.bind_eq_some_iff.mp H
 obtain ⟨t271, A60, H⟩ := H
 replace H : (if 0 ≤ (mn (a1.size : Int) 66) then (if (mn (a1.size : Int) 66) ≤ (a1.size : Int) then ((find_Find.f k t271 (a1.extract 0 ((mn (a1.size : Int) 66) : Int).toNat) a2 a3 a4).bind fun bt274 => ((backseatref08_May.f k t271).bind fun t277 => (if t277 = true then ((backseatref10_There.f t271 a2 a3).bind fun t278 => (if t278 = true then (if (a1.extract 0 ((mn (a1.size : Int) 66) : Int).toNat).toList = ([] : List UInt8) then (backseatlaw10_FindLooks.j0 k t271 (a1.extract 0 ((mn (a1.size : Int) 66) : Int).toNat) a2 a3 a4 bt274.1 bt274.2.1 bt274.2.2 true) else (backseatlaw10_FindLooks.j0 k t271 (a1.extract 0 ((mn (a1.size : Int) 66) : Int).toNat) a2 a3 a4 bt274.1 bt274.2.1 bt274.2.2 (decide (((a1.extract 0 ((mn (a1.size : Int) 66) : Int).toNat).size : Int) > 64)))) else (backseatlaw10_FindLooks.j0 k t271 (a1.extract 0 ((mn (a1.size : Int) 66) : Int).toNat) a2 a3 a4 bt274.1 bt274.2.1 bt274.2.2 true))) else (backseatlaw10_FindLooks.j0 k t271 (a1.extract 0 ((mn (a1.size : Int) 66) : Int).toNat) a2 a3 a4 bt274.1 bt274.2.1 bt274.2.2 true)))) else (none)) else (none)) = some r := H
 have A6 := Aside0.mk A60
 clear A60
 obtain ⟨ji7, hji7⟩ : ∃ j_ : Int, (mn (a1.size : Int) 66) = j_ := ⟨_, rfl⟩
 replace H : (if 0 ≤ (ji7) then (if (ji7) ≤ (a1.size : Int) then ((find_Find.f k t271 (a1.extract 0 ((ji7) : Int).toNat) a2 a3 a4).bind fun bt274 => ((backseatref08_May.f k t271).bind fun t277 => (if t277 = true then ((backseatref10_There.f t271 a2 a3).bind fun t278 => (if t278 = true then (if (a1.extract 0 ((ji7) : Int).toNat).toList = ([] : List UInt8) then (backseatlaw10_FindLooks.j0 k t271 (a1.extract 0 ((ji7) : Int).toNat) a2 a3 a4 bt274.1 bt274.2.1 bt274.2.2 true) else (backseatlaw10_FindLooks.j0 k t271 (a1.extract 0 ((ji7) : Int).toNat) a2 a3 a4 bt274.1 bt274.2.1 bt274.2.2 (decide (((a1.extract 0 ((ji7) : Int).toNat).size : Int) > 64)))) else (backseatlaw10_FindLooks.j0 k t271 (a1.extract 0 ((ji7) : Int).toNat) a2 a3 a4 bt274.1 bt274.2.1 bt274.2.2 true))) else (backseatlaw10_FindLooks.j0 k t271 (a1.extract 0 ((ji7) : Int).toNat) a2 a3 a4 bt274.1 bt274.2.1 bt274.2.2 true)))) else (none)) else (none)) = some r := by first | (rw [hji7] at H; exact H) | (simp only [hji7] at H ⊢; exact H)
 (try rw [hji7] at A6)
 (try (have hji7h : ji7 ≤ 66 := by (rw [← hji7]; unfold mn; (repeat' split) <;> omega)))
 (try (have hji7g : ji7 ≤ 64 := by omega))
 (try (have hji7l : 0 ≤ ji7 := by (rw [← hji7]; unfold mn; (repeat' split) <;> omega)))
 (try (have hji7m : 0 ≤ ji7 := by omega))
 have hji7_ : (if 66 < (a1.size : Int) then 66 else (a1.size : Int)) = ji7 := hji7
 by_cases c8 : 0 ≤ (ji7)
 ·rw [if_pos c8] at H
  have c8b0 := eq_true c8
  have c8b1 : decide (0 ≤ (ji7)) = true := decide_eq_true c8
  clear c8
  by_cases c9 : (ji7) ≤ (a1.size : Int)
  ·rw [if_pos c9] at H
   have c9b0 := eq_true c9
   have c9b1 : decide ((ji7) ≤ (a1.size : Int)) = true := decide_eq_true c9
   clear c9
   replace H := Option.bind_eq_some_iff.mp H
   obtain ⟨⟨t274, t275, t276⟩, A100, H⟩ := H
   replace H : ((backseatref08_May.f k t271).bind fun t277 => (if t277 = true then ((backseatref10_There.f t271 a2 a3).bind fun t278 => (if t278 = true then (if (a1.extract 0 ((ji7) : Int).toNat).toList = ([] : List UInt8) then (backseatlaw10_FindLooks.j0 k t271 (a1.extract 0 ((ji7) : Int).toNat) a2 a3 a4 t274 t275 t276 true) else (backseatlaw10_FindLooks.j0 k t271 (a1.extract 0 ((ji7) : Int).toNat) a2 a3 a4 t274 t275 t276 (decide (((a1.extract 0 ((ji7) : Int).toNat).size : Int) > 64)))) else (backseatlaw10_FindLooks.j0 k t271 (a1.extract 0 ((ji7) : Int).toNat) a2 a3 a4 t274 t275 t276 true))) else (backseatlaw10_FindLooks.j0 k t271 (a1.extract 0 ((ji7) : Int).toNat) a2 a3 a4 t274 t275 t276 true))) = some r := H
   have A10 := Aside0.mk A100
   clear A100
   have HC11 := Aside0.mk H
   clear H
   go_enter Tryd.func3, Tryd.ntmps3
   try go_wp2
   have n0_ := Aside0.mk (below_drew1 HB.out)
   clear HB
   have HB := n0_
   clear n0_
   refine start_ (n := 9) (S := fun w' => True) (ds := []) #[false, false, false, false, false, false, false, false, false] (by kernel_rfl) rfl rfl trivial (fun hHeld => ?_); refine with_tabW backseatlaw10_FindLooks.tab1 backseatlaw10_FindLooks.bits1 (fun HT_ HW_ => ?_)
   generalize w.drew = w12 at HB hHeld ⊢
   refine pure_ (i := 0) (N := some 15) (v := ?_) (a' := ?_) #[true, false, false, false, false, false, false, false, false] rfl rfl (any_of HT_.out (by kernel_rfl)) (fun _ _ _ h => h) (Or.inl ⟨by rfl, ?_⟩) ?_ ?_
   rotate_left
   ·intro w'
    go_simp
    with_reducible rfl
   rotate_left
   ·exact zr
   refine pure_ (i := 2) (N := some 17) (v := ?_) (a' := ?_) #[true, false, true, false, false, false, false, false, false] rfl rfl (any_of HT_.out (by kernel_rfl)) (fun _ _ _ h => h) (Or.inl ⟨by rfl, ?_⟩) ?_ ?_
   rotate_left
   ·intro w'
    go_simp
    with_reducible rfl
   rotate_left
   ·exact zr
   refine pure_ (i := 3) (N := some 18) (v := ?_) (a' := ?_) #[true, false, true, true, false, false, false, false, false] rfl rfl (any_of HT_.out (by kernel_rfl)) (fun _ _ _ h => h) (Or.inl ⟨by rfl, ?_⟩) ?_ ?_
   rotate_left
   ·intro w'
    go_simp
    with_reducible rfl
   rotate_left
   ·exact zr
   refine pure_ (i := 4) (N := some 19) (v := ?_) (a' := ?_) #[true, false, true, true, true, false, false, false, false] rfl rfl (any_of HT_.out (by kernel_rfl)) (fun _ _ _ h => h) (Or.inl ⟨by rfl, ?_⟩) ?_ ?_
   rotate_left
   ·intro w'
    go_simp
    with_reducible rfl
   rotate_left
   ·exact zr
   refine pure_ (i := 5) (N := some 20) (v := ?_) (a' := ?_) #[true, false, true, true, true, true, false, false, false] rfl rfl (any_of HT_.out (by kernel_rfl)) (fun _ _ _ h => h) (Or.inl ⟨by rfl, ?_⟩) ?_ ?_
   rotate_left
   ·intro w'
    go_simp
    with_reducible rfl
   rotate_left
   ·exact zr
   refine pure_ (i := 6) (N := some 21) (v := ?_) (a' := ?_) #[true, false, true, true, true, true, true, false, false] rfl rfl (any_of HT_.out (by kernel_rfl)) (fun _ _ _ h => h) (Or.inl ⟨by rfl, ?_⟩) ?_ ?_
   rotate_left
   ·intro w'
    go_simp
    with_reducible rfl
   rotate_left
   ·exact zr
   refine one_ (i := 1) (N := some 16) #[true, true, true, true, true, true, true, false, false] rfl rfl (one_of HT_.out (by kernel_rfl)) (by decide) (fun K hK => ?_)
   refine goes_ Tryd.func9 (by kernel_rfl) rfl #[.slice A0 l0.length c0] (by rfl) rfl rfl zl ?_
   with_reducible refine (backseatlaw10_few.calls k _ _ l0 t271 _ ?side1 ?side2 A6.out).mono ?_
   (case side1 => repeat (first | exact (Kd.C_below HR0.out HB.out) | (with_reducible refine Kd.C_alloc ?_ _) | (with_reducible refine Kd.C_drewN ?_ _) | (with_reducible refine Kd.C_drew ?_)))
   (case side2 => exact HC0.out)
   rintro e w13 ⟨v272, rfl, ho0, hb⟩
   refine ⟨_, rfl, ?_⟩
   have n0_ := Aside0.mk (Kd.S_lower ho0 (below_size zb))
   have n1_ := (zs HB hb)
   clear HB
   have HO273 := n0_
   have HB := n1_
   clear n0_ n1_
   (try clear hb)
   (try clear hb2)
   (try clear hk)
   (try clear hi)
   (try clear ho0)
   refine hK.out _ _ trivial (fun hHeld => ?_)
   clear hK K
   refine norm_ (a' := ?_) ?_ ?_
   rotate_left
   ·show Act.put _ (some 16) _ = _
    simp only [Act.put, List.setIfInBounds_toArray, List.set_cons_zero, List.set_cons_succ, i64_w, i32_w]
    rfl
   refine pure_ (i := 7) (N := some 0) (v := ?_) (a' := ?_) #[true, true, true, true, true, true, true, true, false] rfl rfl (any_of HT_.out (by kernel_rfl)) (fun _ _ _ h => h) (Or.inl ⟨by rfl, ?_⟩) ?_ ?_
   rotate_left
   ·intro w'
    go_simp
    with_reducible rfl
   rotate_left
   ·exact zr
   refine pure_ (i := 8) (N := some 1) (v := ?_) (a' := ?_) #[true, true, true, true, true, true, true, true, true] rfl rfl (any_of HT_.out (by kernel_rfl)) (fun _ _ _ h => h) (Or.inl ⟨by rfl, ?_⟩) ?_ ?_
   rotate_left
   ·intro w'
    go_simp
    with_reducible rfl
   rotate_left
   ·exact zr
   refine done_ (done_of HT_.out (by kernel_rfl)) ?_
   obtain ⟨Ao14, co14, eo14⟩ := Kd.S_slice HO273.out
   subst eo14
   go_upto_region 3 with (first | ((with_reducible refine gate_callee (f := 10) rfl ?_); refine goesL_ (some 28) rfl rfl Tryd.func10 (by kernel_rfl) rfl #[.slice Ao14 t271.length co14, .string (a1.extract 0 ((ji7) : Int).toNat), .int .i64 a2, .int .i64 a3, .bool a4] rfl (by (try simp only [List.map_toArray, List.map_cons, List.map_nil]); first | done | (simp only [hji7]; rfl) | rfl | (simp only [List.length_drop, List.length_take]; rfl)) ?_; (with_reducible refine (find_Find.calls k _ _ t271 (a1.extract 0 ((ji7) : Int).toNat) a2 a3 a4 t274 t275 t276 _ ?side1 ?side2 A10.out).mono ?_); (case side1 => repeat (first | exact (Kd.S_reads' HO273.out).2.2 | (with_reducible refine Kd.C_alloc ?_ _) | (with_reducible refine Kd.C_drewN ?_ _) | (with_reducible refine Kd.C_drew ?_))); (case side2 => exact (Kd.S_reads' HO273.out).2.1); rintro e w15 ⟨rfl, hb⟩; refine ⟨_, rfl, ?_⟩; replace HO273 := (zS HO273 hb); replace HB := (zs HB hb); (try clear hb)))
   (try simp only [Act.put, List.setIfInBounds_toArray, List.set_cons_zero, List.set_cons_succ])
   go_cut [50] (fun v50 wc => ∃ (kq : Nat) (x50_10 : Bool), v50 = .bool x50_10 ∧ Aside0 (backseatlaw10_FindLooks.j0 kq t271 (a1.extract 0 ((ji7) : Int).toNat) a2 a3 a4 t274 t275 t276 x50_10 = some r) ∧ Aside0 (kq ≤ k) ∧ Aside0 (Kd.S k38 38 wc w.heap.size (fun _ => True) (.slice Ao14 t271.length co14) t271) ∧ Aside0 (Below w.heap.size w wc))
   case first =>
    have H := HC11.out
    clear HC11
    replace H := Option.bind_eq_some_iff.mp H
    obtain ⟨t277, A160, H⟩ := H
    replace H : (if t277 = true then ((backseatref10_There.f t271 a2 a3).bind fun t278 => (if t278 = true then (if (a1.extract 0 ((ji7) : Int).toNat).toList = ([] : List UInt8) then (backseatlaw10_FindLooks.j0 k t271 (a1.extract 0 ((ji7) : Int).toNat) a2 a3 a4 t274 t275 t276 true) else (backseatlaw10_FindLooks.j0 k t271 (a1.extract 0 ((ji7) : Int).toNat) a2 a3 a4 t274 t275 t276 (decide (((a1.extract 0 ((ji7) : Int).toNat).size : Int) > 64)))) else (backseatlaw10_FindLooks.j0 k t271 (a1.extract 0 ((ji7) : Int).toNat) a2 a3 a4 t274 t275 t276 true))) else (backseatlaw10_FindLooks.j0 k t271 (a1.extract 0 ((ji7) : Int).toNat) a2 a3 a4 t274 t275 t276 true)) = some r := H
    have A16 := Aside0.mk A160
    clear A160
    by_cases c17 : t277 = true
    ·subst c17
     have H1 : ((backseatref10_There.f t271 a2 a3).bind fun t278 => (if t278 = true then (if (a1.extract 0 ((ji7) : Int).toNat).toList = ([] : List UInt8) then (backseatlaw10_FindLooks.j0 k t271 (a1.extract 0 ((ji7) : Int).toNat) a2 a3 a4 t274 t275 t276 true) else (backseatlaw10_FindLooks.j0 k t271 (a1.extract 0 ((ji7) : Int).toNat) a2 a3 a4 t274 t275 t276 (decide (((a1.extract 0 ((ji7) : Int).toNat).size : Int) > 64)))) else (backseatlaw10_FindLooks.j0 k t271 (a1.extract 0 ((ji7) : Int).toNat) a2 a3 a4 t274 t275 t276 true))) = some r := by rw [if_pos rfl] at H; exact H
     clear H
     have H := H1
     clear H1
     replace H := Option.bind_eq_some_iff.mp H
     obtain ⟨t278, A180, H⟩ := H
     replace H : (if t278 = true then (if (a1.extract 0 ((ji7) : Int).toNat).toList = ([] : List UInt8) then (backseatlaw10_FindLooks.j0 k t271 (a1.extract 0 ((ji7) : Int).toNat) a2 a3 a4 t274 t275 t276 true) else (backseatlaw10_FindLooks.j0 k t271 (a1.extract 0 ((ji7) : Int).toNat) a2 a3 a4 t274 t275 t276 (decide (((a1.extract 0 ((ji7) : Int).toNat).size : Int) > 64)))) else (backseatlaw10_FindLooks.j0 k t271 (a1.extract 0 ((ji7) : Int).toNat) a2 a3 a4 t274 t275 t276 true)) = some r := H
     have A18 := Aside0.mk A180
     clear A180
     by_cases c19 : t278 = true
     ·subst c19
      have H1 : (if (a1.extract 0 ((ji7) : Int).toNat).toList = ([] : List UInt8) then (backseatlaw10_FindLooks.j0 k t271 (a1.extract 0 ((ji7) : Int).toNat) a2 a3 a4 t274 t275 t276 true) else (backseatlaw10_FindLooks.j0 k t271 (a1.extract 0 ((ji7) : Int).toNat) a2 a3 a4 t274 t275 t276 (decide (((a1.extract 0 ((ji7) : Int).toNat).size : Int) > 64)))) = some r := by rw [if_pos rfl] at H; exact H
      clear H
      have H := H1
      clear H1
      by_cases c20 : (a1.extract 0 ((ji7) : Int).toNat).toList = ([] : List UInt8)
      ·rw [if_pos c20] at H
       have c20b0 : ((a1.extract 0 ((ji7) : Int).toNat).toList == ([] : List UInt8)) = true := beq_iff_eq.mpr c20
       have c20b1 : ((a1.extract 0 ((ji7) : Int).toNat).toList != ([] : List UInt8)) = false := bne_eq_false_iff_eq.mpr c20
       clear c20
       (first | rw [c20b0] | (simp only [i64_w, i32_w]; rw [c20b0]) | skip)
       have H' := Aside0.mk H
       clear H
       go_wp2_with (first | ((with_reducible refine gate_callee (f := 11) rfl ?_); refine goesL_ (some 33) rfl rfl Tryd.func11 (by kernel_rfl) rfl #[.slice Ao14 t271.length co14] rfl zl ?_; (with_reducible refine (backseatref08_May.calls k _ _ t271 true _ ?side1 ?side2 A16.out).mono ?_); (case side1 => repeat (first | exact (Kd.S_reads' HO273.out).2.2 | (with_reducible refine Kd.C_alloc ?_ _) | (with_reducible refine Kd.C_drewN ?_ _) | (with_reducible refine Kd.C_drew ?_))); (case side2 => exact (Kd.S_reads' HO273.out).2.1); rintro e w21 ⟨rfl, hb⟩; refine ⟨_, rfl, ?_⟩; replace HO273 := (zS HO273 hb); replace HB := (zs HB hb); (try clear hb)) | (go_at_call 12; (with_reducible refine (backseatref10_There.calls _ _ t271 a2 a3 true _ ?side1 ?side2 A18.out).mono ?_); (case side1 => repeat (first | exact (Kd.S_reads' HO273.out).2.2 | (with_reducible refine Kd.C_alloc ?_ _) | (with_reducible refine Kd.C_drewN ?_ _) | (with_reducible refine Kd.C_drew ?_))); (case side2 => exact (Kd.S_reads' HO273.out).2.1); rintro e w' ⟨rfl, ⟨nd, rfl⟩⟩))
       go_meet
       case rel => exact ⟨_, (true), zf, H', ⟨by first | omega | exact Nat.le_refl _⟩, ⟨by (with_reducible repeat (first | apply Kd.S_alloc | apply Kd.S_drewN | apply Kd.S_drew)); exact HO273.out⟩, ⟨zb⟩⟩
      ·rw [if_neg c20] at H
       have c20b0 : ((a1.extract 0 ((ji7) : Int).toNat).toList == ([] : List UInt8)) = false := beq_eq_false_iff_ne.mpr c20
       have c20b1 : ((a1.extract 0 ((ji7) : Int).toNat).toList != ([] : List UInt8)) = true := bne_iff_ne.mpr c20
       (first | rw [c20b0] | (simp only [i64_w, i32_w]; rw [c20b0]) | skip)
       have H' := Aside0.mk H
       clear H
       go_wp2_with (first | ((with_reducible refine gate_callee (f := 11) rfl ?_); refine goesL_ (some 33) rfl rfl Tryd.func11 (by kernel_rfl) rfl #[.slice Ao14 t271.length co14] rfl zl ?_; (with_reducible refine (backseatref08_May.calls k _ _ t271 true _ ?side1 ?side2 A16.out).mono ?_); (case side1 => repeat (first | exact (Kd.S_reads' HO273.out).2.2 | (with_reducible refine Kd.C_alloc ?_ _) | (with_reducible refine Kd.C_drewN ?_ _) | (with_reducible refine Kd.C_drew ?_))); (case side2 => exact (Kd.S_reads' HO273.out).2.1); rintro e w22 ⟨rfl, hb⟩; refine ⟨_, rfl, ?_⟩; replace HO273 := (zS HO273 hb); replace HB := (zs HB hb); (try clear hb)) | (go_at_call 12; (with_reducible refine (backseatref10_There.calls _ _ t271 a2 a3 true _ ?side1 ?side2 A18.out).mono ?_); (case side1 => repeat (first | exact (Kd.S_reads' HO273.out).2.2 | (with_reducible refine Kd.C_alloc ?_ _) | (with_reducible refine Kd.C_drewN ?_ _) | (with_reducible refine Kd.C_drew ?_))); (case side2 => exact (Kd.S_reads' HO273.out).2.1); rintro e w' ⟨rfl, ⟨nd, rfl⟩⟩))
       go_meet
       case rel => exact ⟨_, (decide (((a1.extract 0 ((ji7) : Int).toNat).size : Int) > 64)), (by first | rfl | (simp; done) | (simp only [← hji7] <;> (first | rfl | (simp; done))) | (simp [*]; done) | (simp; simp only [decide_eq_true_eq, eq_iff_iff, iff_true] at *; omega)), H', ⟨by first | omega | exact Nat.le_refl _⟩, ⟨by (with_reducible repeat (first | apply Kd.S_alloc | apply Kd.S_drewN | apply Kd.S_drew)); exact HO273.out⟩, ⟨zb⟩⟩
     ·replace c19 := Bool.eq_false_iff.mpr c19
      subst c19
      have H1 : (backseatlaw10_FindLooks.j0 k t271 (a1.extract 0 ((ji7) : Int).toNat) a2 a3 a4 t274 t275 t276 true) = some r := by rw [if_neg (show ¬ (false = true) by decide)] at H; exact H
      clear H
      have H := H1
      clear H1
      have H' := Aside0.mk H
      clear H
      go_wp2_with (first | ((with_reducible refine gate_callee (f := 11) rfl ?_); refine goesL_ (some 33) rfl rfl Tryd.func11 (by kernel_rfl) rfl #[.slice Ao14 t271.length co14] rfl zl ?_; (with_reducible refine (backseatref08_May.calls k _ _ t271 true _ ?side1 ?side2 A16.out).mono ?_); (case side1 => repeat (first | exact (Kd.S_reads' HO273.out).2.2 | (with_reducible refine Kd.C_alloc ?_ _) | (with_reducible refine Kd.C_drewN ?_ _) | (with_reducible refine Kd.C_drew ?_))); (case side2 => exact (Kd.S_reads' HO273.out).2.1); rintro e w23 ⟨rfl, hb⟩; refine ⟨_, rfl, ?_⟩; replace HO273 := (zS HO273 hb); replace HB := (zs HB hb); (try clear hb)) | (go_at_call 12; (with_reducible refine (backseatref10_There.calls _ _ t271 a2 a3 false _ ?side1 ?side2 A18.out).mono ?_); (case side1 => repeat (first | exact (Kd.S_reads' HO273.out).2.2 | (with_reducible refine Kd.C_alloc ?_ _) | (with_reducible refine Kd.C_drewN ?_ _) | (with_reducible refine Kd.C_drew ?_))); (case side2 => exact (Kd.S_reads' HO273.out).2.1); rintro e w' ⟨rfl, ⟨nd, rfl⟩⟩))
      go_meet
      case rel => exact ⟨_, (true), zf, H', ⟨by first | omega | exact Nat.le_refl _⟩, ⟨by (with_reducible repeat (first | apply Kd.S_alloc | apply Kd.S_drewN | apply Kd.S_drew)); exact HO273.out⟩, ⟨zb⟩⟩
    ·replace c17 := Bool.eq_false_iff.mpr c17
     subst c17
     have H1 : (backseatlaw10_FindLooks.j0 k t271 (a1.extract 0 ((ji7) : Int).toNat) a2 a3 a4 t274 t275 t276 true) = some r := by rw [if_neg (show ¬ (false = true) by decide)] at H; exact H
     clear H
     have H := H1
     clear H1
     have H' := Aside0.mk H
     clear H
     go_wp2_with (first | ((with_reducible refine gate_callee (f := 11) rfl ?_); refine goesL_ (some 33) rfl rfl Tryd.func11 (by kernel_rfl) rfl #[.slice Ao14 t271.length co14] rfl zl ?_; (with_reducible refine (backseatref08_May.calls k _ _ t271 false _ ?side1 ?side2 A16.out).mono ?_); (case side1 => repeat (first | exact (Kd.S_reads' HO273.out).2.2 | (with_reducible refine Kd.C_alloc ?_ _) | (with_reducible refine Kd.C_drewN ?_ _) | (with_reducible refine Kd.C_drew ?_))); (case side2 => exact (Kd.S_reads' HO273.out).2.1); rintro e w24 ⟨rfl, hb⟩; refine ⟨_, rfl, ?_⟩; replace HO273 := (zS HO273 hb); replace HB := (zs HB hb); (try clear hb)))
     go_meet
     case rel => exact ⟨_, (true), zf, H', ⟨by first | omega | exact Nat.le_refl _⟩, ⟨by (with_reducible repeat (first | apply Kd.S_alloc | apply Kd.S_drewN | apply Kd.S_drew)); exact HO273.out⟩, ⟨zb⟩⟩
   case rest =>
    clear HC11
    try clear c8
    try clear c8b0
    try clear c8b1
    try clear c9
    try clear c9b0
    try clear c9b1
    obtain ⟨kq, x50_10, rfl, HA, HJ10, HO_0, HB⟩ := hcut
    cases kq with
    | zero => exact absurd HA.out (by simp [backseatlaw10_FindLooks.j0])
    | succ kj10 =>
     have H := HA.out
     clear HA
     simp only [backseatlaw10_FindLooks.j0] at H
     by_cases c25 : x50_10 = true
     ·subst c25
      have H1 : ((backseatlaw10_alive.f kj10).bind fun t279 => (if t279 = true then (if t276 = 1 then (if t274 = 0 then (some (t275 == 0)) else (some false)) else (some false)) else (some false))) = some r := by rw [if_pos rfl] at H; exact H
      clear H
      have H := H1
      clear H1
      replace H := Option.bind_eq_some_iff.mp H
      obtain ⟨t279, A260, H⟩ := H
      replace H : (if t279 = true then (if t276 = 1 then (if t274 = 0 then (some (t275 == 0)) else (some false)) else (some false)) else (some false)) = some r := H
      have A26 := Aside0.mk A260
      clear A260
      by_cases c27 : t279 = true
      ·subst c27
       have H1 : (if t276 = 1 then (if t274 = 0 then (some (t275 == 0)) else (some false)) else (some false)) = some r := by rw [if_pos rfl] at H; exact H
       clear H
       have H := H1
       clear H1
       by_cases c28 : t276 = 1
       ·rw [if_pos c28] at H
        have c28b0 : (t276 == 1) = true := beq_iff_eq.mpr c28
        have c28b1 : (t276 != 1) = false := bne_eq_false_iff_eq.mpr c28
        clear c28
        by_cases c29 : t274 = 0
        ·rw [if_pos c29] at H
         have c29b0 : (t274 == 0) = true := beq_iff_eq.mpr c29
         have c29b1 : (t274 != 0) = false := bne_eq_false_iff_eq.mpr c29
         clear c29
         obtain rfl := Option.some.inj H
         go_wp2_with (first | ((with_reducible refine gate_callee (f := 13) rfl ?_); refine goesL_ (some 51) rfl rfl Tryd.func13 (by kernel_rfl) rfl #[] rfl zl ?_; (with_reducible refine (backseatlaw10_alive.calls kj10  true _ A26.out).mono ?_); rintro e w30 ⟨rfl, hb⟩; refine ⟨_, rfl, ?_⟩; replace HO_0 := (zS HO_0 hb); replace HB := (zs HB hb); (try clear hb)))
         go_ret
         exact ⟨by first | rfl | (simp [errW_none, errW_some] <;> rfl) | (simp only [← hji7]; first | rfl | (simp [errW_none, errW_some] <;> rfl)) | (simp [*, errW_none, errW_some] <;> rfl), zb⟩
        ·rw [if_neg c29] at H
         have c29b0 : (t274 == 0) = false := beq_eq_false_iff_ne.mpr c29
         have c29b1 : (t274 != 0) = true := bne_iff_ne.mpr c29
         obtain rfl := Option.some.inj H
         go_wp2_with (first | ((with_reducible refine gate_callee (f := 13) rfl ?_); refine goesL_ (some 51) rfl rfl Tryd.func13 (by kernel_rfl) rfl #[] rfl zl ?_; (with_reducible refine (backseatlaw10_alive.calls kj10  true _ A26.out).mono ?_); rintro e w31 ⟨rfl, hb⟩; refine ⟨_, rfl, ?_⟩; replace HO_0 := (zS HO_0 hb); replace HB := (zs HB hb); (try clear hb)))
         go_ret
         exact ⟨by first | rfl | (simp [errW_none, errW_some] <;> rfl) | (simp only [← hji7]; first | rfl | (simp [errW_none, errW_some] <;> rfl)) | (simp [*, errW_none, errW_some] <;> rfl), zb⟩
       ·rw [if_neg c28] at H
        have c28b0 : (t276 == 1) = false := beq_eq_false_iff_ne.mpr c28
        have c28b1 : (t276 != 1) = true := bne_iff_ne.mpr c28
        obtain rfl := Option.some.inj H
        go_wp2_with (first | ((with_reducible refine gate_callee (f := 13) rfl ?_); refine goesL_ (some 51) rfl rfl Tryd.func13 (by kernel_rfl) rfl #[] rfl zl ?_; (with_reducible refine (backseatlaw10_alive.calls kj10  true _ A26.out).mono ?_); rintro e w32 ⟨rfl, hb⟩; refine ⟨_, rfl, ?_⟩; replace HO_0 := (zS HO_0 hb); replace HB := (zs HB hb); (try clear hb)))
        go_ret
        exact ⟨by first | rfl | (simp [errW_none, errW_some] <;> rfl) | (simp only [← hji7]; first | rfl | (simp [errW_none, errW_some] <;> rfl)) | (simp [*, errW_none, errW_some] <;> rfl), zb⟩
      ·replace c27 := Bool.eq_false_iff.mpr c27
       subst c27
       have H1 : (some false) = some r := by rw [if_neg (show ¬ (false = true) by decide)] at H; exact H
       clear H
       have H := H1
       clear H1
       obtain rfl := Option.some.inj H
       go_wp2_with (first | ((with_reducible refine gate_callee (f := 13) rfl ?_); refine goesL_ (some 51) rfl rfl Tryd.func13 (by kernel_rfl) rfl #[] rfl zl ?_; (with_reducible refine (backseatlaw10_alive.calls kj10  false _ A26.out).mono ?_); rintro e w33 ⟨rfl, hb⟩; refine ⟨_, rfl, ?_⟩; replace HO_0 := (zS HO_0 hb); replace HB := (zs HB hb); (try clear hb)))
       go_ret
       exact ⟨by first | rfl | (simp [errW_none, errW_some] <;> rfl) | (simp only [← hji7]; first | rfl | (simp [errW_none, errW_some] <;> rfl)) | (simp [*, errW_none, errW_some] <;> rfl), zb⟩
     ·replace c25 := Bool.eq_false_iff.mpr c25
      subst c25
      have H1 : ((backseatref10_Find.f kj10 t271 (a1.extract 0 ((ji7) : Int).toNat) a2 a3 a4).bind fun bt280 => (if bt280.1 < 0 then ((backseatlaw10_alive.f kj10).bind fun t283 => (if t283 = true then (if t276 = 5 then (if t274 = 0 then (some (t275 == 0)) else (some false)) else (some false)) else (some false))) else ((backseatlaw10_alive.f kj10).bind fun t284 => (if t284 = true then (if t276 = 0 then (if t274 = bt280.1 then (some (t275 == bt280.2)) else (some false)) else (some false)) else (some false))))) = some r := by rw [if_neg (show ¬ (false = true) by decide)] at H; exact H
      clear H
      have H := H1
      clear H1
      replace H := Option.bind_eq_some_iff.mp H
      obtain ⟨⟨t280, t281⟩, A340, H⟩ := H
      replace H : (if t280 < 0 then ((backseatlaw10_alive.f kj10).bind fun t283 => (if t283 = true then (if t276 = 5 then (if t274 = 0 then (some (t275 == 0)) else (some false)) else (some false)) else (some false))) else ((backseatlaw10_alive.f kj10).bind fun t284 => (if t284 = true then (if t276 = 0 then (if t274 = t280 then (some (t275 == t281)) else (some false)) else (some false)) else (some false)))) = some r := H
      have A34 := Aside0.mk A340
      clear A340
      by_cases c35 : t280 < 0
      ·rw [if_pos c35] at H
       have c35b0 : decide (t280 < 0) = true := decide_eq_true c35
       clear c35
       replace H := Option.bind_eq_some_iff.mp H
       obtain ⟨t283, A360, H⟩ := H
       replace H : (if t283 = true then (if t276 = 5 then (if t274 = 0 then (some (t275 == 0)) else (some false)) else (some false)) else (some false)) = some r := H
       have A36 := Aside0.mk A360
       clear A360
       by_cases c37 : t283 = true
       ·subst c37
        have H1 : (if t276 = 5 then (if t274 = 0 then (some (t275 == 0)) else (some false)) else (some false)) = some r := by rw [if_pos rfl] at H; exact H
        clear H
        have H := H1
        clear H1
        by_cases c38 : t276 = 5
        ·rw [if_pos c38] at H
         have c38b0 : (t276 == 5) = true := beq_iff_eq.mpr c38
         have c38b1 : (t276 != 5) = false := bne_eq_false_iff_eq.mpr c38
         clear c38
         by_cases c39 : t274 = 0
         ·rw [if_pos c39] at H
          have c39b0 : (t274 == 0) = true := beq_iff_eq.mpr c39
          have c39b1 : (t274 != 0) = false := bne_eq_false_iff_eq.mpr c39
          clear c39
          obtain rfl := Option.some.inj H
          go_wp2_with (first | ((with_reducible refine gate_callee (f := 14) rfl ?_); refine goesL_ (some 69) rfl rfl Tryd.func14 (by kernel_rfl) rfl #[.slice Ao14 t271.length co14, .string (a1.extract 0 ((ji7) : Int).toNat), .int .i64 a2, .int .i64 a3, .bool a4] rfl (by (try simp only [List.map_toArray, List.map_cons, List.map_nil]); first | done | (simp only [hji7]; rfl) | rfl | (simp only [List.length_drop, List.length_take]; rfl)) ?_; (with_reducible refine (backseatref10_Find.calls kj10 _ _ t271 (a1.extract 0 ((ji7) : Int).toNat) a2 a3 a4 t280 t281 _ ?side1 ?side2 A34.out).mono ?_); (case side1 => repeat (first | exact (Kd.S_reads' HO_0.out).2.2 | (with_reducible refine Kd.C_alloc ?_ _) | (with_reducible refine Kd.C_drewN ?_ _) | (with_reducible refine Kd.C_drew ?_))); (case side2 => exact (Kd.S_reads' HO_0.out).2.1); rintro e w40 ⟨rfl, hb⟩; refine ⟨_, rfl, ?_⟩; replace HO_0 := (zS HO_0 hb); replace HB := (zs HB hb); (try clear hb); (try clear hk)) | ((with_reducible refine gate_dst (N := 14) rfl ?_); (try (refine gate_guard (by rfl) ?_; dsimp only)); refine box_event ?hg (N := 14) ?hd (cs := #[.int .i64 0, .int .i64 0]) (t := 31) ?hr ?_; (case hd => rfl); (case hg => rfl); (case hr => exact zo); intro gb282 hg w41 hbox hb; replace HO_0 := (zS HO_0 hb); have BK282 := Aside0.mk (hbox); have GW282 := Aside0.mk ((zg hg : w.heap.size ≤ gb282)); have GE282 := Aside0.mk ((zg hg : w.heap.size ≤ gb282)); replace HB := (zs HB hb); clear hb hbox hg; obtain ⟨hcz42_0, hcz42_1, hfz42_0, hfz42_1⟩ := zq2 (w := w41) BK282) | ((with_reducible refine gate_callee (f := 13) rfl ?_); refine goesL_ (some 73) rfl rfl Tryd.func13 (by kernel_rfl) rfl #[] rfl zl ?_; (with_reducible refine (backseatlaw10_alive.calls kj10  true _ A36.out).mono ?_); rintro e w43 ⟨rfl, hb⟩; refine ⟨_, rfl, ?_⟩; replace HO_0 := Aside0.mk (Kd.S_below (by (with_reducible repeat (first | apply Kd.S_alloc | apply Kd.S_drewN | apply Kd.S_drew)); exact (Kd.S_mono (Kd.S_far (p := ⟨gb282, 1, none⟩) (Kd.S_far (p := ⟨gb282, 0, none⟩) (Kd.S_types HO_0.out BK282.out (by decide)) (fun _ hk => hk.2) (.int .i64 t280)) (fun _ hk => hk.2) (.int .i64 t281)) (fun _ h_ => h_.1))) hb); replace BK282 := Aside0.mk (blk_below (g := gb282) (o := .cells #[.int .i64 t280, .int .i64 t281] 31 (0, 0)) (by refine blk_put (cs := #[.int .i64 t280, .int .i64 0]) ?_ 1 _ rfl; refine blk_put (cs := #[.int .i64 0, .int .i64 0]) ?_ 0 _ rfl; exact BK282.out) hb); replace HB := (zs HB hb); (try clear hb); (try clear hk)))
          go_ret
          exact ⟨by first | rfl | (simp [errW_none, errW_some] <;> rfl) | (simp only [← hji7]; first | rfl | (simp [errW_none, errW_some] <;> rfl)) | (simp [*, errW_none, errW_some] <;> rfl), zb⟩
         ·rw [if_neg c39] at H
          have c39b0 : (t274 == 0) = false := beq_eq_false_iff_ne.mpr c39
          have c39b1 : (t274 != 0) = true := bne_iff_ne.mpr c39
          obtain rfl := Option.some.inj H
          go_wp2_with (first | ((with_reducible refine gate_callee (f := 14) rfl ?_); refine goesL_ (some 69) rfl rfl Tryd.func14 (by kernel_rfl) rfl #[.slice Ao14 t271.length co14, .string (a1.extract 0 ((ji7) : Int).toNat), .int .i64 a2, .int .i64 a3, .bool a4] rfl (by (try simp only [List.map_toArray, List.map_cons, List.map_nil]); first | done | (simp only [hji7]; rfl) | rfl | (simp only [List.length_drop, List.length_take]; rfl)) ?_; (with_reducible refine (backseatref10_Find.calls kj10 _ _ t271 (a1.extract 0 ((ji7) : Int).toNat) a2 a3 a4 t280 t281 _ ?side1 ?side2 A34.out).mono ?_); (case side1 => repeat (first | exact (Kd.S_reads' HO_0.out).2.2 | (with_reducible refine Kd.C_alloc ?_ _) | (with_reducible refine Kd.C_drewN ?_ _) | (with_reducible refine Kd.C_drew ?_))); (case side2 => exact (Kd.S_reads' HO_0.out).2.1); rintro e w44 ⟨rfl, hb⟩; refine ⟨_, rfl, ?_⟩; replace HO_0 := (zS HO_0 hb); replace HB := (zs HB hb); (try clear hb); (try clear hk)) | ((with_reducible refine gate_dst (N := 14) rfl ?_); (try (refine gate_guard (by rfl) ?_; dsimp only)); refine box_event ?hg (N := 14) ?hd (cs := #[.int .i64 0, .int .i64 0]) (t := 31) ?hr ?_; (case hd => rfl); (case hg => rfl); (case hr => exact zo); intro gb282 hg w45 hbox hb; replace HO_0 := (zS HO_0 hb); have BK282 := Aside0.mk (hbox); have GW282 := Aside0.mk ((zg hg : w.heap.size ≤ gb282)); have GE282 := Aside0.mk ((zg hg : w.heap.size ≤ gb282)); replace HB := (zs HB hb); clear hb hbox hg; obtain ⟨hcz46_0, hcz46_1, hfz46_0, hfz46_1⟩ := zq2 (w := w45) BK282) | ((with_reducible refine gate_callee (f := 13) rfl ?_); refine goesL_ (some 73) rfl rfl Tryd.func13 (by kernel_rfl) rfl #[] rfl zl ?_; (with_reducible refine (backseatlaw10_alive.calls kj10  true _ A36.out).mono ?_); rintro e w47 ⟨rfl, hb⟩; refine ⟨_, rfl, ?_⟩; replace HO_0 := Aside0.mk (Kd.S_below (by (with_reducible repeat (first | apply Kd.S_alloc | apply Kd.S_drewN | apply Kd.S_drew)); exact (Kd.S_mono (Kd.S_far (p := ⟨gb282, 1, none⟩) (Kd.S_far (p := ⟨gb282, 0, none⟩) (Kd.S_types HO_0.out BK282.out (by decide)) (fun _ hk => hk.2) (.int .i64 t280)) (fun _ hk => hk.2) (.int .i64 t281)) (fun _ h_ => h_.1))) hb); replace BK282 := Aside0.mk (blk_below (g := gb282) (o := .cells #[.int .i64 t280, .int .i64 t281] 31 (0, 0)) (by refine blk_put (cs := #[.int .i64 t280, .int .i64 0]) ?_ 1 _ rfl; refine blk_put (cs := #[.int .i64 0, .int .i64 0]) ?_ 0 _ rfl; exact BK282.out) hb); replace HB := (zs HB hb); (try clear hb); (try clear hk)))
          go_ret
          exact ⟨by first | rfl | (simp [errW_none, errW_some] <;> rfl) | (simp only [← hji7]; first | rfl | (simp [errW_none, errW_some] <;> rfl)) | (simp [*, errW_none, errW_some] <;> rfl), zb⟩
        ·rw [if_neg c38] at H
         have c38b0 : (t276 == 5) = false := beq_eq_false_iff_ne.mpr c38
         have c38b1 : (t276 != 5) = true := bne_iff_ne.mpr c38
         obtain rfl := Option.some.inj H
         go_wp2_with (first | ((with_reducible refine gate_callee (f := 14) rfl ?_); refine goesL_ (some 69) rfl rfl Tryd.func14 (by kernel_rfl) rfl #[.slice Ao14 t271.length co14, .string (a1.extract 0 ((ji7) : Int).toNat), .int .i64 a2, .int .i64 a3, .bool a4] rfl (by (try simp only [List.map_toArray, List.map_cons, List.map_nil]); first | done | (simp only [hji7]; rfl) | rfl | (simp only [List.length_drop, List.length_take]; rfl)) ?_; (with_reducible refine (backseatref10_Find.calls kj10 _ _ t271 (a1.extract 0 ((ji7) : Int).toNat) a2 a3 a4 t280 t281 _ ?side1 ?side2 A34.out).mono ?_); (case side1 => repeat (first | exact (Kd.S_reads' HO_0.out).2.2 | (with_reducible refine Kd.C_alloc ?_ _) | (with_reducible refine Kd.C_drewN ?_ _) | (with_reducible refine Kd.C_drew ?_))); (case side2 => exact (Kd.S_reads' HO_0.out).2.1); rintro e w48 ⟨rfl, hb⟩; refine ⟨_, rfl, ?_⟩; replace HO_0 := (zS HO_0 hb); replace HB := (zs HB hb); (try clear hb); (try clear hk)) | ((with_reducible refine gate_dst (N := 14) rfl ?_); (try (refine gate_guard (by rfl) ?_; dsimp only)); refine box_event ?hg (N := 14) ?hd (cs := #[.int .i64 0, .int .i64 0]) (t := 31) ?hr ?_; (case hd => rfl); (case hg => rfl); (case hr => exact zo); intro gb282 hg w49 hbox hb; replace HO_0 := (zS HO_0 hb); have BK282 := Aside0.mk (hbox); have GW282 := Aside0.mk ((zg hg : w.heap.size ≤ gb282)); have GE282 := Aside0.mk ((zg hg : w.heap.size ≤ gb282)); replace HB := (zs HB hb); clear hb hbox hg; obtain ⟨hcz50_0, hcz50_1, hfz50_0, hfz50_1⟩ := zq2 (w := w49) BK282) | ((with_reducible refine gate_callee (f := 13) rfl ?_); refine goesL_ (some 73) rfl rfl Tryd.func13 (by kernel_rfl) rfl #[] rfl zl ?_; (with_reducible refine (backseatlaw10_alive.calls kj10  true _ A36.out).mono ?_); rintro e w51 ⟨rfl, hb⟩; refine ⟨_, rfl, ?_⟩; replace HO_0 := Aside0.mk (Kd.S_below (by (with_reducible repeat (first | apply Kd.S_alloc | apply Kd.S_drewN | apply Kd.S_drew)); exact (Kd.S_mono (Kd.S_far (p := ⟨gb282, 1, none⟩) (Kd.S_far (p := ⟨gb282, 0, none⟩) (Kd.S_types HO_0.out BK282.out (by decide)) (fun _ hk => hk.2) (.int .i64 t280)) (fun _ hk => hk.2) (.int .i64 t281)) (fun _ h_ => h_.1))) hb); replace BK282 := Aside0.mk (blk_below (g := gb282) (o := .cells #[.int .i64 t280, .int .i64 t281] 31 (0, 0)) (by refine blk_put (cs := #[.int .i64 t280, .int .i64 0]) ?_ 1 _ rfl; refine blk_put (cs := #[.int .i64 0, .int .i64 0]) ?_ 0 _ rfl; exact BK282.out) hb); replace HB := (zs HB hb); (try clear hb); (try clear hk)))
         go_ret
         exact ⟨by first | rfl | (simp [errW_none, errW_some] <;> rfl) | (simp only [← hji7]; first | rfl | (simp [errW_none, errW_some] <;> rfl)) | (simp [*, errW_none, errW_some] <;> rfl), zb⟩
       ·replace c37 := Bool.eq_false_iff.mpr c37
        subst c37
        have H1 : (some false) = some r := by rw [if_neg (show ¬ (false = true) by decide)] at H; exact H
        clear H
        have H := H1
        clear H1
        obtain rfl := Option.some.inj H
        go_wp2_with (first | ((with_reducible refine gate_callee (f := 14) rfl ?_); refine goesL_ (some 69) rfl rfl Tryd.func14 (by kernel_rfl) rfl #[.slice Ao14 t271.length co14, .string (a1.extract 0 ((ji7) : Int).toNat), .int .i64 a2, .int .i64 a3, .bool a4] rfl (by (try simp only [List.map_toArray, List.map_cons, List.map_nil]); first | done | (simp only [hji7]; rfl) | rfl | (simp only [List.length_drop, List.length_take]; rfl)) ?_; (with_reducible refine (backseatref10_Find.calls kj10 _ _ t271 (a1.extract 0 ((ji7) : Int).toNat) a2 a3 a4 t280 t281 _ ?side1 ?side2 A34.out).mono ?_); (case side1 => repeat (first | exact (Kd.S_reads' HO_0.out).2.2 | (with_reducible refine Kd.C_alloc ?_ _) | (with_reducible refine Kd.C_drewN ?_ _) | (with_reducible refine Kd.C_drew ?_))); (case side2 => exact (Kd.S_reads' HO_0.out).2.1); rintro e w52 ⟨rfl, hb⟩; refine ⟨_, rfl, ?_⟩; replace HO_0 := (zS HO_0 hb); replace HB := (zs HB hb); (try clear hb); (try clear hk)) | ((with_reducible refine gate_dst (N := 14) rfl ?_); (try (refine gate_guard (by rfl) ?_; dsimp only)); refine box_event ?hg (N := 14) ?hd (cs := #[.int .i64 0, .int .i64 0]) (t := 31) ?hr ?_; (case hd => rfl); (case hg => rfl); (case hr => exact zo); intro gb282 hg w53 hbox hb; replace HO_0 := (zS HO_0 hb); have BK282 := Aside0.mk (hbox); have GW282 := Aside0.mk ((zg hg : w.heap.size ≤ gb282)); have GE282 := Aside0.mk ((zg hg : w.heap.size ≤ gb282)); replace HB := (zs HB hb); clear hb hbox hg; obtain ⟨hcz54_0, hcz54_1, hfz54_0, hfz54_1⟩ := zq2 (w := w53) BK282) | ((with_reducible refine gate_callee (f := 13) rfl ?_); refine goesL_ (some 73) rfl rfl Tryd.func13 (by kernel_rfl) rfl #[] rfl zl ?_; (with_reducible refine (backseatlaw10_alive.calls kj10  false _ A36.out).mono ?_); rintro e w55 ⟨rfl, hb⟩; refine ⟨_, rfl, ?_⟩; replace HO_0 := Aside0.mk (Kd.S_below (by (with_reducible repeat (first | apply Kd.S_alloc | apply Kd.S_drewN | apply Kd.S_drew)); exact (Kd.S_mono (Kd.S_far (p := ⟨gb282, 1, none⟩) (Kd.S_far (p := ⟨gb282, 0, none⟩) (Kd.S_types HO_0.out BK282.out (by decide)) (fun _ hk => hk.2) (.int .i64 t280)) (fun _ hk => hk.2) (.int .i64 t281)) (fun _ h_ => h_.1))) hb); replace BK282 := Aside0.mk (blk_below (g := gb282) (o := .cells #[.int .i64 t280, .int .i64 t281] 31 (0, 0)) (by refine blk_put (cs := #[.int .i64 t280, .int .i64 0]) ?_ 1 _ rfl; refine blk_put (cs := #[.int .i64 0, .int .i64 0]) ?_ 0 _ rfl; exact BK282.out) hb); replace HB := (zs HB hb); (try clear hb); (try clear hk)))
        go_ret
        exact ⟨by first | rfl | (simp [errW_none, errW_some] <;> rfl) | (simp only [← hji7]; first | rfl | (simp [errW_none, errW_some] <;> rfl)) | (simp [*, errW_none, errW_some] <;> rfl), zb⟩
      ·rw [if_neg c35] at H
       have c35b0 : decide (t280 < 0) = false := decide_eq_false c35
       clear c35
       replace H := Option.bind_eq_some_iff.mp H
       obtain ⟨t284, A560, H⟩ := H
       replace H : (if t284 = true then (if t276 = 0 then (if t274 = t280 then (some (t275 == t281)) else (some false)) else (some false)) else (some false)) = some r := H
       have A56 := Aside0.mk A560
       clear A560
       by_cases c57 : t284 = true
       ·subst c57
        have H1 : (if t276 = 0 then (if t274 = t280 then (some (t275 == t281)) else (some false)) else (some false)) = some r := by rw [if_pos rfl] at H; exact H
        clear H
        have H := H1
        clear H1
        by_cases c58 : t276 = 0
        ·rw [if_pos c58] at H
         have c58b0 : (t276 == 0) = true := beq_iff_eq.mpr c58
         have c58b1 : (t276 != 0) = false := bne_eq_false_iff_eq.mpr c58
         clear c58
         by_cases c59 : t274 = t280
         ·rw [if_pos c59] at H
          have c59b0 : (t274 == t280) = true := beq_iff_eq.mpr c59
          have c59b1 : (t274 != t280) = false := bne_eq_false_iff_eq.mpr c59
          clear c59
          obtain rfl := Option.some.inj H
          go_wp2_with (first | ((with_reducible refine gate_callee (f := 14) rfl ?_); refine goesL_ (some 69) rfl rfl Tryd.func14 (by kernel_rfl) rfl #[.slice Ao14 t271.length co14, .string (a1.extract 0 ((ji7) : Int).toNat), .int .i64 a2, .int .i64 a3, .bool a4] rfl (by (try simp only [List.map_toArray, List.map_cons, List.map_nil]); first | done | (simp only [hji7]; rfl) | rfl | (simp only [List.length_drop, List.length_take]; rfl)) ?_; (with_reducible refine (backseatref10_Find.calls kj10 _ _ t271 (a1.extract 0 ((ji7) : Int).toNat) a2 a3 a4 t280 t281 _ ?side1 ?side2 A34.out).mono ?_); (case side1 => repeat (first | exact (Kd.S_reads' HO_0.out).2.2 | (with_reducible refine Kd.C_alloc ?_ _) | (with_reducible refine Kd.C_drewN ?_ _) | (with_reducible refine Kd.C_drew ?_))); (case side2 => exact (Kd.S_reads' HO_0.out).2.1); rintro e w60 ⟨rfl, hb⟩; refine ⟨_, rfl, ?_⟩; replace HO_0 := (zS HO_0 hb); replace HB := (zs HB hb); (try clear hb); (try clear hk)) | ((with_reducible refine gate_dst (N := 14) rfl ?_); (try (refine gate_guard (by rfl) ?_; dsimp only)); refine box_event ?hg (N := 14) ?hd (cs := #[.int .i64 0, .int .i64 0]) (t := 31) ?hr ?_; (case hd => rfl); (case hg => rfl); (case hr => exact zo); intro gb282 hg w61 hbox hb; replace HO_0 := (zS HO_0 hb); have BK282 := Aside0.mk (hbox); have GW282 := Aside0.mk ((zg hg : w.heap.size ≤ gb282)); have GE282 := Aside0.mk ((zg hg : w.heap.size ≤ gb282)); replace HB := (zs HB hb); clear hb hbox hg; obtain ⟨hcz62_0, hcz62_1, hfz62_0, hfz62_1⟩ := zq2 (w := w61) BK282) | ((with_reducible refine gate_callee (f := 13) rfl ?_); refine goesL_ (some 86) rfl rfl Tryd.func13 (by kernel_rfl) rfl #[] rfl zl ?_; (with_reducible refine (backseatlaw10_alive.calls kj10  true _ A56.out).mono ?_); rintro e w63 ⟨rfl, hb⟩; refine ⟨_, rfl, ?_⟩; replace HO_0 := Aside0.mk (Kd.S_below (by (with_reducible repeat (first | apply Kd.S_alloc | apply Kd.S_drewN | apply Kd.S_drew)); exact (Kd.S_mono (Kd.S_far (p := ⟨gb282, 1, none⟩) (Kd.S_far (p := ⟨gb282, 0, none⟩) (Kd.S_types HO_0.out BK282.out (by decide)) (fun _ hk => hk.2) (.int .i64 t280)) (fun _ hk => hk.2) (.int .i64 t281)) (fun _ h_ => h_.1))) hb); replace BK282 := Aside0.mk (blk_below (g := gb282) (o := .cells #[.int .i64 t280, .int .i64 t281] 31 (0, 0)) (by refine blk_put (cs := #[.int .i64 t280, .int .i64 0]) ?_ 1 _ rfl; refine blk_put (cs := #[.int .i64 0, .int .i64 0]) ?_ 0 _ rfl; exact BK282.out) hb); replace HB := (zs HB hb); (try clear hb); (try clear hk); obtain ⟨hcz64_0, hcz64_1, hfz64_0, hfz64_1⟩ := zq2 (w := w63) BK282))
          go_ret
          exact ⟨by first | rfl | (simp [errW_none, errW_some] <;> rfl) | (simp only [← hji7]; first | rfl | (simp [errW_none, errW_some] <;> rfl)) | (simp [*, errW_none, errW_some] <;> rfl), zb⟩
         ·rw [if_neg c59] at H
          have c59b0 : (t274 == t280) = false := beq_eq_false_iff_ne.mpr c59
          have c59b1 : (t274 != t280) = true := bne_iff_ne.mpr c59
          obtain rfl := Option.some.inj H
          go_wp2_with (first | ((with_reducible refine gate_callee (f := 14) rfl ?_); refine goesL_ (some 69) rfl rfl Tryd.func14 (by kernel_rfl) rfl #[.slice Ao14 t271.length co14, .string (a1.extract 0 ((ji7) : Int).toNat), .int .i64 a2, .int .i64 a3, .bool a4] rfl (by (try simp only [List.map_toArray, List.map_cons, List.map_nil]); first | done | (simp only [hji7]; rfl) | rfl | (simp only [List.length_drop, List.length_take]; rfl)) ?_; (with_reducible refine (backseatref10_Find.calls kj10 _ _ t271 (a1.extract 0 ((ji7) : Int).toNat) a2 a3 a4 t280 t281 _ ?side1 ?side2 A34.out).mono ?_); (case side1 => repeat (first | exact (Kd.S_reads' HO_0.out).2.2 | (with_reducible refine Kd.C_alloc ?_ _) | (with_reducible refine Kd.C_drewN ?_ _) | (with_reducible refine Kd.C_drew ?_))); (case side2 => exact (Kd.S_reads' HO_0.out).2.1); rintro e w65 ⟨rfl, hb⟩; refine ⟨_, rfl, ?_⟩; replace HO_0 := (zS HO_0 hb); replace HB := (zs HB hb); (try clear hb); (try clear hk)) | ((with_reducible refine gate_dst (N := 14) rfl ?_); (try (refine gate_guard (by rfl) ?_; dsimp only)); refine box_event ?hg (N := 14) ?hd (cs := #[.int .i64 0, .int .i64 0]) (t := 31) ?hr ?_; (case hd => rfl); (case hg => rfl); (case hr => exact zo); intro gb282 hg w66 hbox hb; replace HO_0 := (zS HO_0 hb); have BK282 := Aside0.mk (hbox); have GW282 := Aside0.mk ((zg hg : w.heap.size ≤ gb282)); have GE282 := Aside0.mk ((zg hg : w.heap.size ≤ gb282)); replace HB := (zs HB hb); clear hb hbox hg; obtain ⟨hcz67_0, hcz67_1, hfz67_0, hfz67_1⟩ := zq2 (w := w66) BK282) | ((with_reducible refine gate_callee (f := 13) rfl ?_); refine goesL_ (some 86) rfl rfl Tryd.func13 (by kernel_rfl) rfl #[] rfl zl ?_; (with_reducible refine (backseatlaw10_alive.calls kj10  true _ A56.out).mono ?_); rintro e w68 ⟨rfl, hb⟩; refine ⟨_, rfl, ?_⟩; replace HO_0 := Aside0.mk (Kd.S_below (by (with_reducible repeat (first | apply Kd.S_alloc | apply Kd.S_drewN | apply Kd.S_drew)); exact (Kd.S_mono (Kd.S_far (p := ⟨gb282, 1, none⟩) (Kd.S_far (p := ⟨gb282, 0, none⟩) (Kd.S_types HO_0.out BK282.out (by decide)) (fun _ hk => hk.2) (.int .i64 t280)) (fun _ hk => hk.2) (.int .i64 t281)) (fun _ h_ => h_.1))) hb); replace BK282 := Aside0.mk (blk_below (g := gb282) (o := .cells #[.int .i64 t280, .int .i64 t281] 31 (0, 0)) (by refine blk_put (cs := #[.int .i64 t280, .int .i64 0]) ?_ 1 _ rfl; refine blk_put (cs := #[.int .i64 0, .int .i64 0]) ?_ 0 _ rfl; exact BK282.out) hb); replace HB := (zs HB hb); (try clear hb); (try clear hk); obtain ⟨hcz69_0, hcz69_1, hfz69_0, hfz69_1⟩ := zq2 (w := w68) BK282))
          go_ret
          exact ⟨by first | rfl | (simp [errW_none, errW_some] <;> rfl) | (simp only [← hji7]; first | rfl | (simp [errW_none, errW_some] <;> rfl)) | (simp [*, errW_none, errW_some] <;> rfl), zb⟩
        ·rw [if_neg c58] at H
         have c58b0 : (t276 == 0) = false := beq_eq_false_iff_ne.mpr c58
         have c58b1 : (t276 != 0) = true := bne_iff_ne.mpr c58
         obtain rfl := Option.some.inj H
         go_wp2_with (first | ((with_reducible refine gate_callee (f := 14) rfl ?_); refine goesL_ (some 69) rfl rfl Tryd.func14 (by kernel_rfl) rfl #[.slice Ao14 t271.length co14, .string (a1.extract 0 ((ji7) : Int).toNat), .int .i64 a2, .int .i64 a3, .bool a4] rfl (by (try simp only [List.map_toArray, List.map_cons, List.map_nil]); first | done | (simp only [hji7]; rfl) | rfl | (simp only [List.length_drop, List.length_take]; rfl)) ?_; (with_reducible refine (backseatref10_Find.calls kj10 _ _ t271 (a1.extract 0 ((ji7) : Int).toNat) a2 a3 a4 t280 t281 _ ?side1 ?side2 A34.out).mono ?_); (case side1 => repeat (first | exact (Kd.S_reads' HO_0.out).2.2 | (with_reducible refine Kd.C_alloc ?_ _) | (with_reducible refine Kd.C_drewN ?_ _) | (with_reducible refine Kd.C_drew ?_))); (case side2 => exact (Kd.S_reads' HO_0.out).2.1); rintro e w70 ⟨rfl, hb⟩; refine ⟨_, rfl, ?_⟩; replace HO_0 := (zS HO_0 hb); replace HB := (zs HB hb); (try clear hb); (try clear hk)) | ((with_reducible refine gate_dst (N := 14) rfl ?_); (try (refine gate_guard (by rfl) ?_; dsimp only)); refine box_event ?hg (N := 14) ?hd (cs := #[.int .i64 0, .int .i64 0]) (t := 31) ?hr ?_; (case hd => rfl); (case hg => rfl); (case hr => exact zo); intro gb282 hg w71 hbox hb; replace HO_0 := (zS HO_0 hb); have BK282 := Aside0.mk (hbox); have GW282 := Aside0.mk ((zg hg : w.heap.size ≤ gb282)); have GE282 := Aside0.mk ((zg hg : w.heap.size ≤ gb282)); replace HB := (zs HB hb); clear hb hbox hg; obtain ⟨hcz72_0, hcz72_1, hfz72_0, hfz72_1⟩ := zq2 (w := w71) BK282) | ((with_reducible refine gate_callee (f := 13) rfl ?_); refine goesL_ (some 86) rfl rfl Tryd.func13 (by kernel_rfl) rfl #[] rfl zl ?_; (with_reducible refine (backseatlaw10_alive.calls kj10  true _ A56.out).mono ?_); rintro e w73 ⟨rfl, hb⟩; refine ⟨_, rfl, ?_⟩; replace HO_0 := Aside0.mk (Kd.S_below (by (with_reducible repeat (first | apply Kd.S_alloc | apply Kd.S_drewN | apply Kd.S_drew)); exact (Kd.S_mono (Kd.S_far (p := ⟨gb282, 1, none⟩) (Kd.S_far (p := ⟨gb282, 0, none⟩) (Kd.S_types HO_0.out BK282.out (by decide)) (fun _ hk => hk.2) (.int .i64 t280)) (fun _ hk => hk.2) (.int .i64 t281)) (fun _ h_ => h_.1))) hb); replace BK282 := Aside0.mk (blk_below (g := gb282) (o := .cells #[.int .i64 t280, .int .i64 t281] 31 (0, 0)) (by refine blk_put (cs := #[.int .i64 t280, .int .i64 0]) ?_ 1 _ rfl; refine blk_put (cs := #[.int .i64 0, .int .i64 0]) ?_ 0 _ rfl; exact BK282.out) hb); replace HB := (zs HB hb); (try clear hb); (try clear hk)))
         go_ret
         exact ⟨by first | rfl | (simp [errW_none, errW_some] <;> rfl) | (simp only [← hji7]; first | rfl | (simp [errW_none, errW_some] <;> rfl)) | (simp [*, errW_none, errW_some] <;> rfl), zb⟩
       ·replace c57 := Bool.eq_false_iff.mpr c57
        subst c57
        have H1 : (some false) = some r := by rw [if_neg (show ¬ (false = true) by decide)] at H; exact H
        clear H
        have H := H1
        clear H1
        obtain rfl := Option.some.inj H
        go_wp2_with (first | ((with_reducible refine gate_callee (f := 14) rfl ?_); refine goesL_ (some 69) rfl rfl Tryd.func14 (by kernel_rfl) rfl #[.slice Ao14 t271.length co14, .string (a1.extract 0 ((ji7) : Int).toNat), .int .i64 a2, .int .i64 a3, .bool a4] rfl (by (try simp only [List.map_toArray, List.map_cons, List.map_nil]); first | done | (simp only [hji7]; rfl) | rfl | (simp only [List.length_drop, List.length_take]; rfl)) ?_; (with_reducible refine (backseatref10_Find.calls kj10 _ _ t271 (a1.extract 0 ((ji7) : Int).toNat) a2 a3 a4 t280 t281 _ ?side1 ?side2 A34.out).mono ?_); (case side1 => repeat (first | exact (Kd.S_reads' HO_0.out).2.2 | (with_reducible refine Kd.C_alloc ?_ _) | (with_reducible refine Kd.C_drewN ?_ _) | (with_reducible refine Kd.C_drew ?_))); (case side2 => exact (Kd.S_reads' HO_0.out).2.1); rintro e w74 ⟨rfl, hb⟩; refine ⟨_, rfl, ?_⟩; replace HO_0 := (zS HO_0 hb); replace HB := (zs HB hb); (try clear hb); (try clear hk)) | ((with_reducible refine gate_dst (N := 14) rfl ?_); (try (refine gate_guard (by rfl) ?_; dsimp only)); refine box_event ?hg (N := 14) ?hd (cs := #[.int .i64 0, .int .i64 0]) (t := 31) ?hr ?_; (case hd => rfl); (case hg => rfl); (case hr => exact zo); intro gb282 hg w75 hbox hb; replace HO_0 := (zS HO_0 hb); have BK282 := Aside0.mk (hbox); have GW282 := Aside0.mk ((zg hg : w.heap.size ≤ gb282)); have GE282 := Aside0.mk ((zg hg : w.heap.size ≤ gb282)); replace HB := (zs HB hb); clear hb hbox hg; obtain ⟨hcz76_0, hcz76_1, hfz76_0, hfz76_1⟩ := zq2 (w := w75) BK282) | ((with_reducible refine gate_callee (f := 13) rfl ?_); refine goesL_ (some 86) rfl rfl Tryd.func13 (by kernel_rfl) rfl #[] rfl zl ?_; (with_reducible refine (backseatlaw10_alive.calls kj10  false _ A56.out).mono ?_); rintro e w77 ⟨rfl, hb⟩; refine ⟨_, rfl, ?_⟩; replace HO_0 := Aside0.mk (Kd.S_below (by (with_reducible repeat (first | apply Kd.S_alloc | apply Kd.S_drewN | apply Kd.S_drew)); exact (Kd.S_mono (Kd.S_far (p := ⟨gb282, 1, none⟩) (Kd.S_far (p := ⟨gb282, 0, none⟩) (Kd.S_types HO_0.out BK282.out (by decide)) (fun _ hk => hk.2) (.int .i64 t280)) (fun _ hk => hk.2) (.int .i64 t281)) (fun _ h_ => h_.1))) hb); replace BK282 := Aside0.mk (blk_below (g := gb282) (o := .cells #[.int .i64 t280, .int .i64 t281] 31 (0, 0)) (by refine blk_put (cs := #[.int .i64 t280, .int .i64 0]) ?_ 1 _ rfl; refine blk_put (cs := #[.int .i64 0, .int .i64 0]) ?_ 0 _ rfl; exact BK282.out) hb); replace HB := (zs HB hb); (try clear hb); (try clear hk)))
        go_ret
        exact ⟨by first | rfl | (simp [errW_none, errW_some] <;> rfl) | (simp only [← hji7]; first | rfl | (simp [errW_none, errW_some] <;> rfl)) | (simp [*, errW_none, errW_some] <;> rfl), zb⟩
  ·rw [if_neg c9] at H
   exact absurd H (by simp)
 ·rw [if_neg c8] at H
  exact absurd H (by simp)
end Go.Proofs.YtckkdaehmccjlaaDoor.P
namespace Go.Proofs.YtckkdaehmccjlaaDoor.P
def Ev {α : Type} (f : Nat → Option α) (v : α) : Prop := ∃ K, ∀ k, K ≤ k → f k = some v
section
variable {α β : Type} {f : Nat → Option α} {v : α}
theorem Ev.of {e : Option α} (h : e = some v) : Ev (fun _ => e) v := ⟨0, fun _ _ => h⟩
theorem Ev.ret (v : α) : Ev (fun _ => some v) v := ⟨0, fun _ _ => rfl⟩
theorem Ev.bind {g : Nat → α → Option β} {b : β} (h : Ev f v) (hg : Ev (fun k => g k v) b) : Ev (fun k => (f k).bind (g k)) b := by
 obtain ⟨K, h⟩ := h
 obtain ⟨L, hg⟩ := hg
 exact ⟨max K L, fun k hk => by show (f k).bind (g k) = _; rw [h k (by omega), Option.bind_some]; exact hg k (by omega)⟩
theorem Ev.succ (h : Ev (fun k => f (k + 1)) v) : Ev f v := by
 obtain ⟨K, h⟩ := h
 refine ⟨K + 1, fun k hk => ?_⟩
 have := h (k - 1) (by omega)
 simpa [show k - 1 + 1 = k by omega] using this
theorem Ev.shift (h : Ev f v) (n : Nat) : Ev (fun k => f (k + n)) v := by
 obtain ⟨K, h⟩ := h
 exact ⟨K, fun k hk => h (k + n) (by omega)⟩
theorem Ev.pos {c : Prop} [Decidable c] {g : Nat → Option α} (h : c) (hf : Ev f v) : Ev (fun k => if c then f k else g k) v := by
 obtain ⟨K, hf⟩ := hf; exact ⟨K, fun k hk => by show (if c then f k else g k) = _; rw [if_pos h]; exact hf k hk⟩
theorem Ev.neg {c : Prop} [Decidable c] {g : Nat → Option α} (h : ¬ c) (hf : Ev g v) : Ev (fun k => if c then f k else g k) v := by
 obtain ⟨K, hf⟩ := hf; exact ⟨K, fun k hk => by show (if c then f k else g k) = _; rw [if_neg h]; exact hf k hk⟩
theorem Ev.same {w : α} (h : Ev f v) (h' : Ev f w) : v = w := by
 obtain ⟨K, h⟩ := h
 obtain ⟨L, h'⟩ := h'
 exact Option.some.inj ((h (max K L) (by omega)).symm.trans (h' (max K L) (by omega)))
theorem Ev.ex (h : Ev f v) : ∃ k, f k = some v := let ⟨K, h⟩ := h; ⟨K, h K (Nat.le_refl _)⟩
end
end Go.Proofs.YtckkdaehmccjlaaDoor.P
namespace Go.Proofs.YtckkdaehmccjlaaDoor.P
open Go.RowKit Go.Proofs.YtckkdaehmccjlaaDoorW.PrintWords Go.Proofs.YtckkdaehmccjlaaDoorW.PrintLast Go.Proofs.YtckkdaehmccjlaaDoorW.PrintMore
set_option linter.unusedVariables false
set_option linter.unusedSimpArgs false
theorem w64 (n : Nat) (h : (n : Int) ≤ 9223372036854775806) : wrap64 ((n : Int) + 1) = ((n + 1 : Nat) : Int) := by
 rw [IntWalk.wrap64_in _ (by omega)]; omega
def okD (s : ByteArray) : Prop := ¬ ((Lib.decodeGo s).1 = 65533 ∧ (Lib.decodeGo s).2 ≤ 1)
theorem pre_bytes (s : ByteArray) (i : Nat) (h : i ≤ s.size) : bytesOf (s.extract 0 i) = (bytesOf s).take i := by
 unfold bytesOf
 rw [← List.map_take]
 congr 1
 rw [show (s.extract 0 i).data = s.data.extract 0 i from ByteArray.data_extract]
 simp
theorem pre_size (s : ByteArray) (i : Nat) (h : i ≤ s.size) : (s.extract 0 i).size = i := by
 simp [ByteArray.size_extract]; omega
theorem ref_loop (s : ByteArray) (nd : Nat) (h1 : 1 ≤ nd) (h4 : nd ≤ 4) (hs : (s.size : Int) ≤ 9223372036854775807) : ∀ m x, x + m = nd → 1 ≤ x → x ≤ s.size →
  ((∀ i, x < i → i ≤ nd → i ≤ s.size ∧ begB (bytesOf (s.extract 0 i)) nd = true) ∧ Ev (fun k => backseatref01_First.l0 k s nd x) (valueZ (bytesOf (s.extract 0 nd)), (nd : Int), 0)) ∨
  ((∃ i, x < i ∧ i ≤ nd ∧ ¬ (i ≤ s.size ∧ begB (bytesOf (s.extract 0 i)) nd = true)) ∧ ∃ a e, e ≠ 0 ∧ Ev (fun k => backseatref01_First.l0 k s nd x) (0, a, e))
 | 0, x, hx, hx1, hxs => by
  obtain rfl : x = nd := by omega
  refine Or.inl ⟨fun i h h' => by omega, Ev.succ ?_⟩
  simp only [backseatref01_First.l0]
  refine Ev.neg (by omega) (Ev.succ ?_)
  simp only [backseatref01_First.j1]
  refine Ev.pos trivial (Ev.pos (by omega) (Ev.pos (by omega) ?_))
  rw [Int.toNat_natCast]
  refine Ev.bind (v := valueZ (bytesOf (s.extract 0 x))) (Ev.of ?_) (Ev.ret _)
  unfold backseatref01_value.f
  rw [if_pos (by rw [pre_size s x hxs]; omega)]
 | m + 1, x, hx, hx1, hxs => by
  by_cases hlt : x < s.size
  ·have hw := w64 x (by omega)
   by_cases hb : begB (bytesOf (s.extract 0 (x + 1))) nd = true
   ·have hstep : ∀ r, Ev (fun k => backseatref01_First.l0 k s nd ((x + 1 : Nat) : Int)) r → Ev (fun k => backseatref01_First.l0 k s nd x) r := fun r hr => by
     refine Ev.succ ?_
     simp only [backseatref01_First.l0]
     refine Ev.pos (by omega) (Ev.pos (by omega) ?_)
     rw [hw]
     refine Ev.pos (by omega) (Ev.pos (by omega) ?_)
     rw [Int.toNat_natCast]
     refine Ev.bind (v := true) (Ev.of ?_) (Ev.pos rfl hr)
     unfold backseatref01_begins.f
     rw [if_pos (by rw [pre_size s (x + 1) (by omega)]; omega), Int.toNat_natCast, hb]
    rcases ref_loop s nd h1 h4 hs m (x + 1) (by omega) (by omega) (by omega) with ⟨ha, he⟩ | ⟨⟨i, hi1, hi2, hi3⟩, a, e, h0, he⟩
    ·refine Or.inl ⟨fun i h h' => ?_, hstep _ he⟩
     by_cases e : i = x + 1
     ·subst e; exact ⟨by omega, hb⟩
     ·exact ha i (by omega) h'
    ·exact Or.inr ⟨⟨i, by omega, hi2, hi3⟩, a, e, h0, hstep _ he⟩
   ·refine Or.inr ⟨⟨x + 1, by omega, by omega, fun h => hb h.2⟩, (x : Int), 4, by decide, Ev.succ ?_⟩
    simp only [backseatref01_First.l0]
    refine Ev.pos (by omega) (Ev.pos (by omega) ?_)
    rw [hw]
    refine Ev.pos (by omega) (Ev.pos (by omega) ?_)
    rw [Int.toNat_natCast]
    refine Ev.bind (v := false) (Ev.of ?_) (Ev.neg (by decide) (Ev.succ ?_))
    ·unfold backseatref01_begins.f
     rw [if_pos (by rw [pre_size s (x + 1) (by omega)]; omega), Int.toNat_natCast]
     cases h : begB (bytesOf (s.extract 0 (x + 1))) nd
     ·rfl
     ·exact absurd h hb
    ·simp only [backseatref01_First.j1]
     exact Ev.neg (by omega) (Ev.neg (by omega) (Ev.ret _))
  ·refine Or.inr ⟨⟨x + 1, by omega, by omega, fun h => by omega⟩, 0, 2, by decide, Ev.succ ?_⟩
   simp only [backseatref01_First.l0]
   refine Ev.pos (by omega) (Ev.neg (by omega) (Ev.succ ?_))
   simp only [backseatref01_First.j1]
   exact Ev.neg (by omega) (Ev.pos (by omega) (Ev.ret _))
def needN (b : Nat) : Nat := if b < 128 then 1 else if b < 194 then 0 else if b < 224 then 2 else if b < 240 then 3 else if b < 245 then 4 else 0
theorem need_ev (b : Nat) : Ev (fun k => backseatref01_need.f k (b : Int)) (needN b : Int) := by
 refine ⟨2, fun k hk => ?_⟩
 obtain ⟨j, rfl⟩ : ∃ j, k = j + 2 := ⟨k - 2, by omega⟩
 have j0t : ∀ k, backseatref01_need.j0 (k + 1) (b : Int) true = some 2 := fun k => by rw [backseatref01_need.j0]; rfl
 have j1t : ∀ k, backseatref01_need.j1 (k + 1) (b : Int) true = some 3 := fun k => by rw [backseatref01_need.j1]; rfl
 show backseatref01_need.f (j + 2) (b : Int) = some (needN b : Int)
 unfold backseatref01_need.f needN
 by_cases c1 : b < 128
 ·rw [if_pos (by omega), if_pos c1]; rfl
 rw [if_neg (by omega), if_neg c1]
 by_cases c2 : b < 194
 ·rw [if_neg (by omega), if_pos c2, backseatref01_need.j0, if_neg (by decide), if_neg (by omega), backseatref01_need.j1, if_neg (by decide), if_neg (by omega)]; rfl
 rw [if_pos (by omega), if_neg c2]
 by_cases c3 : b < 224
 ·rw [decide_eq_true (by omega), j0t, if_pos c3]; rfl
 rw [decide_eq_false (by omega), if_neg c3, backseatref01_need.j0, if_neg (by decide), if_pos (by omega)]
 by_cases c4 : b < 240
 ·rw [decide_eq_true (by omega), j1t, if_pos c4]; rfl
 rw [decide_eq_false (by omega), if_neg c4, backseatref01_need.j1, if_neg (by decide), if_pos (by omega)]
 by_cases c5 : b < 245
 ·rw [if_pos (by omega), if_pos c5]; rfl
 ·rw [if_neg (by omega), if_neg c5]; rfl
end Go.Proofs.YtckkdaehmccjlaaDoor.P
namespace Go.Proofs.YtckkdaehmccjlaaDoor.P
set_option linter.unusedVariables false
set_option linter.unusedSimpArgs false
theorem valGo_ok {c : Int} {t : List Int} {r : Int} (h : 128 ≤ c ∧ c ≤ 191) : valGo (c :: t) r = valGo t (64 * r + c - 128) := by
 show (if c < 128 ∨ c > 191 then -1 else valGo t (64 * r + c - 128)) = _
 rw [if_neg (by omega)]
theorem valGo_nil (r : Int) : valGo [] r = r := rfl
theorem contOK_iff {l : List Int} : contOK l = true ↔ ∀ c ∈ l, 128 ≤ c ∧ c ≤ 191 := by
 unfold contOK; simp [List.all_eq_true]
theorem begZ_iff {lo hi fl : Int} : begZ lo hi fl = true ↔ fl ≤ hi ∧ lo ≤ 1114111 ∧ (lo < 55296 ∨ 57343 < hi) := by
 unfold begZ; simp; omega
theorem beg_iff {b : Int} {t : List Int} {n : Nat} {lo hi : List Int} (hlo : b :: t ++ List.replicate (n - (b :: t).length) 128 = lo) (hhi : b :: t ++ List.replicate (n - (b :: t).length) 191 = hi) :
  begB (b :: t) n = true ↔ (∀ c ∈ t, 128 ≤ c ∧ c ≤ 191) ∧ (floorOf n ≤ valueZ hi ∧ valueZ lo ≤ 1114111 ∧ (valueZ lo < 55296 ∨ 57343 < valueZ hi)) := by
 unfold begB
 rw [Bool.and_eq_true, List.drop_one, List.tail_cons, contOK_iff, begZ_iff, hlo, hhi]
theorem val2 {a b : Int} (hb : 128 ≤ b ∧ b ≤ 191) : valueZ [a, b] = 64 * (a - 192) + b - 128 := by
 simp only [valueZ, valGo_ok hb, valGo_nil]; rfl
theorem val3 {a b c : Int} (hb : 128 ≤ b ∧ b ≤ 191) (hc : 128 ≤ c ∧ c ≤ 191) : valueZ [a, b, c] = 64 * (64 * (a - 224) + b - 128) + c - 128 := by
 simp only [valueZ, valGo_ok hb, valGo_ok hc, valGo_nil]; rfl
theorem val4 {a b c d : Int} (hb : 128 ≤ b ∧ b ≤ 191) (hc : 128 ≤ c ∧ c ≤ 191) (hd : 128 ≤ d ∧ d ≤ 191) : valueZ [a, b, c, d] = 64 * (64 * (64 * (a - 240) + b - 128) + c - 128) + d - 128 := by
 simp only [valueZ, valGo_ok hb, valGo_ok hc, valGo_ok hd, valGo_nil]; rfl
theorem lo8 : (128 : Int) ≤ 128 ∧ (128 : Int) ≤ 191 := by decide
theorem hi8 : (128 : Int) ≤ 191 ∧ (191 : Int) ≤ 191 := by decide
theorem fl2 : floorOf 2 = 128 := rfl
theorem fl3 : floorOf 3 = 2048 := rfl
theorem fl4 : floorOf 4 = 65536 := rfl
theorem all1 {b : Int} : (∀ c ∈ [b], 128 ≤ c ∧ c ≤ 191) ↔ (128 ≤ b ∧ b ≤ 191) := by simp
theorem all2 {b c : Int} : (∀ x ∈ [b, c], 128 ≤ x ∧ x ≤ 191) ↔ (128 ≤ b ∧ b ≤ 191) ∧ (128 ≤ c ∧ c ≤ 191) := by simp
theorem all3 {b c d : Int} : (∀ x ∈ [b, c, d], 128 ≤ x ∧ x ≤ 191) ↔ (128 ≤ b ∧ b ≤ 191) ∧ (128 ≤ c ∧ c ≤ 191) ∧ (128 ≤ d ∧ d ≤ 191) := by simp
theorem beg22 {a b : Int} (h : 194 ≤ a ∧ a < 224) : begB [a, b] 2 = true ↔ 128 ≤ b ∧ b ≤ 191 := by
 rw [beg_iff (lo := [a, b]) (hi := [a, b]) rfl rfl, all1, fl2]
 exact ⟨fun h => h.1, fun hb => ⟨hb, by rw [val2 hb]; omega⟩⟩
theorem beg33 {a b c : Int} (h : 224 ≤ a ∧ a < 240) : begB [a, b, c] 3 = true ↔ (128 ≤ b ∧ b ≤ 191) ∧ (128 ≤ c ∧ c ≤ 191) ∧ 2048 ≤ valueZ [a, b, c] ∧ (valueZ [a, b, c] < 55296 ∨ 57343 < valueZ [a, b, c]) := by
 rw [beg_iff (lo := [a, b, c]) (hi := [a, b, c]) rfl rfl, all2, fl3]
 constructor
 ·rintro ⟨⟨hb, hc⟩, h1, h2, h3⟩; exact ⟨hb, hc, h1, h3⟩
 ·rintro ⟨hb, hc, h1, h3⟩; exact ⟨⟨hb, hc⟩, h1, by rw [val3 hb hc]; omega, h3⟩
theorem beg32 {a b c : Int} (h : 224 ≤ a ∧ a < 240) (hf : begB [a, b, c] 3 = true) : begB [a, b] 3 = true := by
 obtain ⟨hb, hc, h1, h3⟩ := (beg33 h).1 hf
 rw [beg_iff (lo := [a, b, 128]) (hi := [a, b, 191]) rfl rfl, all1, fl3, val3 hb lo8, val3 hb hi8]
 rw [val3 hb hc] at h1 h3
 refine ⟨hb, ?_⟩
 omega
theorem beg44 {a b c d : Int} (h : 240 ≤ a ∧ a < 245) : begB [a, b, c, d] 4 = true ↔ (128 ≤ b ∧ b ≤ 191) ∧ (128 ≤ c ∧ c ≤ 191) ∧ (128 ≤ d ∧ d ≤ 191) ∧ 65536 ≤ valueZ [a, b, c, d] ∧ valueZ [a, b, c, d] ≤ 1114111 := by
 rw [beg_iff (lo := [a, b, c, d]) (hi := [a, b, c, d]) rfl rfl, all3, fl4]
 constructor
 ·rintro ⟨⟨hb, hc, hd⟩, h1, h2, h3⟩; exact ⟨hb, hc, hd, h1, h2⟩
 ·rintro ⟨hb, hc, hd, h1, h2⟩; exact ⟨⟨hb, hc, hd⟩, h1, h2, Or.inr (by omega)⟩
theorem beg43 {a b c d : Int} (h : 240 ≤ a ∧ a < 245) (hf : begB [a, b, c, d] 4 = true) : begB [a, b, c] 4 = true := by
 obtain ⟨hb, hc, hd, h1, h3⟩ := (beg44 h).1 hf
 rw [beg_iff (lo := [a, b, c, 128]) (hi := [a, b, c, 191]) rfl rfl, all2, fl4, val4 hb hc lo8, val4 hb hc hi8]
 rw [val4 hb hc hd] at h1 h3
 refine ⟨⟨hb, hc⟩, ?_⟩
 omega
theorem beg42 {a b c d : Int} (h : 240 ≤ a ∧ a < 245) (hf : begB [a, b, c, d] 4 = true) : begB [a, b] 4 = true := by
 obtain ⟨hb, hc, hd, h1, h3⟩ := (beg44 h).1 hf
 rw [beg_iff (lo := [a, b, 128, 128]) (hi := [a, b, 191, 191]) rfl rfl, all1, fl4, val4 hb lo8 lo8, val4 hb hi8 hi8]
 rw [val4 hb hc hd] at h1 h3
 refine ⟨hb, ?_⟩
 omega
open Go.Lib
theorem need_cases (a : Nat) : (needN a = 0 ∧ 128 ≤ a ∧ (a < 194 ∨ 245 ≤ a)) ∨ (needN a = 1 ∧ a < 128) ∨ (needN a = 2 ∧ 194 ≤ a ∧ a < 224) ∨ (needN a = 3 ∧ 224 ≤ a ∧ a < 240) ∨ (needN a = 4 ∧ 240 ≤ a ∧ a < 245) := by
 unfold needN
 repeat' split
 all_goals omega
theorem dec0 {n a b c d : Nat} (h : 128 ≤ a ∧ (a < 194 ∨ 245 ≤ a)) (ha : a < 256) : decodeN n a b c d = (65533, 1) := by
 unfold decodeN
 repeat' split
 all_goals first | rfl | (exfalso; omega)
theorem dec1 {n a b c d : Nat} (h : a < 128) : decodeN n a b c d = (a, 1) := by
 unfold decodeN; rw [if_pos h]
theorem dec2 {n a b c d : Nat} (h : 194 ≤ a ∧ a < 224) (hb : b < 256) (hk : 2 ≤ n ∧ 128 ≤ b ∧ b ≤ 191) : decodeN n a b c d = (64 * (a - 192) + b - 128, 2) := by
 unfold decodeN
 repeat' split
 all_goals first | (exfalso; omega) | (apply Prod.ext <;> simp only <;> omega)
theorem dec2n {n a b c d : Nat} (h : 194 ≤ a ∧ a < 224) (hb : b < 256) (hk : ¬ (2 ≤ n ∧ 128 ≤ b ∧ b ≤ 191)) : decodeN n a b c d = (65533, 1) := by
 unfold decodeN
 repeat' split
 all_goals first | rfl | (exfalso; omega)
theorem dec3 {n a b c d v : Nat} (h : 224 ≤ a ∧ a < 240) (hb : b < 256) (hc : c < 256) (hv : v = a % 16 * 4096 + b % 64 * 64 + c % 64) (hk : 3 ≤ n ∧ (128 ≤ b ∧ b ≤ 191) ∧ (128 ≤ c ∧ c ≤ 191) ∧ 2048 ≤ v ∧ (v < 55296 ∨ 57343 < v)) : decodeN n a b c d = (v, 3) := by
 subst hv
 unfold decodeN
 rw [if_neg (by omega), if_neg (by omega), if_pos (by omega), if_pos (by omega)]
theorem dec3n {n a b c d v : Nat} (h : 224 ≤ a ∧ a < 240) (hb : b < 256) (hc : c < 256) (hv : v = a % 16 * 4096 + b % 64 * 64 + c % 64) (hk : ¬ (3 ≤ n ∧ (128 ≤ b ∧ b ≤ 191) ∧ (128 ≤ c ∧ c ≤ 191) ∧ 2048 ≤ v ∧ (v < 55296 ∨ 57343 < v))) : decodeN n a b c d = (65533, 1) := by
 subst hv
 unfold decodeN
 rw [if_neg (by omega), if_neg (by omega)]
 by_cases h1 : a / 16 = 14 ∧ (1 < n ∧ b / 64 = 2) ∧ (2 < n ∧ c / 64 = 2)
 ·rw [if_pos h1, if_neg (by omega)]
 ·rw [if_neg h1, if_neg (by omega)]
theorem dec4 {n a b c d v : Nat} (h : 240 ≤ a ∧ a < 245) (hb : b < 256) (hc : c < 256) (hd : d < 256) (hv : v = a % 8 * 262144 + b % 64 * 4096 + c % 64 * 64 + d % 64) (hk : 4 ≤ n ∧ (128 ≤ b ∧ b ≤ 191) ∧ (128 ≤ c ∧ c ≤ 191) ∧ (128 ≤ d ∧ d ≤ 191) ∧ 65536 ≤ v ∧ v ≤ 1114111) : decodeN n a b c d = (v, 4) := by
 subst hv
 unfold decodeN
 rw [if_neg (by omega), if_neg (by omega), if_neg (by omega), if_pos (by omega), if_pos (by omega)]
theorem dec4n {n a b c d v : Nat} (h : 240 ≤ a ∧ a < 245) (hb : b < 256) (hc : c < 256) (hd : d < 256) (hv : v = a % 8 * 262144 + b % 64 * 4096 + c % 64 * 64 + d % 64) (hk : ¬ (4 ≤ n ∧ (128 ≤ b ∧ b ≤ 191) ∧ (128 ≤ c ∧ c ≤ 191) ∧ (128 ≤ d ∧ d ≤ 191) ∧ 65536 ≤ v ∧ v ≤ 1114111)) : decodeN n a b c d = (65533, 1) := by
 subst hv
 unfold decodeN
 rw [if_neg (by omega), if_neg (by omega), if_neg (by omega)]
 by_cases h1 : a / 8 = 30 ∧ (1 < n ∧ b / 64 = 2) ∧ (2 < n ∧ c / 64 = 2) ∧ (3 < n ∧ d / 64 = 2)
 ·rw [if_pos h1, if_neg (by omega)]
 ·rw [if_neg h1]
end Go.Proofs.YtckkdaehmccjlaaDoor.P
namespace Go.Proofs.YtckkdaehmccjlaaDoor.P
open Go.RowKit Go.Proofs.YtckkdaehmccjlaaDoorW.PrintWords Go.Proofs.YtckkdaehmccjlaaDoorW.PrintLast Go.Proofs.YtckkdaehmccjlaaDoorW.PrintMore Go.Lib
set_option linter.unusedVariables false
set_option linter.unusedSimpArgs false
theorem bt_get (s : ByteArray) (i : Nat) (h : i < s.size) : bt s (i : Nat) = ((s.get! i).toNat : Int) := by
  unfold bt
  rw [dif_pos (by simpa using h)]
  congr 2
  simp [ByteArray.get!, getElem!_pos, h]
  rfl
theorem pre1 (s : ByteArray) (h : 1 ≤ s.size) : bytesOf (s.extract 0 1) = [((s.get! 0).toNat : Int)] := by
  rw [pre_bytes s 1 h, bytesOf_cons s (by omega)]; simp [← bt_get s 0 (by omega)]
theorem pre2 (s : ByteArray) (h : 2 ≤ s.size) : bytesOf (s.extract 0 2) = [((s.get! 0).toNat : Int), ((s.get! 1).toNat : Int)] := by
  rw [pre_bytes s 2 h, bytesOf_cons s (by omega), bytesOf_drop s 1 (by omega)]; simp [← bt_get s 0 (by omega), ← bt_get s 1 (by omega)]
theorem pre3 (s : ByteArray) (h : 3 ≤ s.size) : bytesOf (s.extract 0 3) = [((s.get! 0).toNat : Int), ((s.get! 1).toNat : Int), ((s.get! 2).toNat : Int)] := by
  rw [pre_bytes s 3 h, bytesOf_cons s (by omega), bytesOf_drop s 1 (by omega), bytesOf_drop s 2 (by omega)]; simp [← bt_get s 0 (by omega), ← bt_get s 1 (by omega), ← bt_get s 2 (by omega)]
theorem pre4 (s : ByteArray) (h : 4 ≤ s.size) : bytesOf (s.extract 0 4) = [((s.get! 0).toNat : Int), ((s.get! 1).toNat : Int), ((s.get! 2).toNat : Int), ((s.get! 3).toNat : Int)] := by
  rw [pre_bytes s 4 h, bytesOf_cons s (by omega), bytesOf_drop s 1 (by omega), bytesOf_drop s 2 (by omega), bytesOf_drop s 3 (by omega)]; simp [← bt_get s 0 (by omega), ← bt_get s 1 (by omega), ← bt_get s 2 (by omega), ← bt_get s 3 (by omega)]
theorem dec_go (s : ByteArray) (h : s.size ≠ 0) : decodeGo s = decodeN s.size (s.get! 0).toNat (s.get! 1).toNat (s.get! 2).toNat (s.get! 3).toNat := by
  unfold decodeGo; rw [if_neg h, decode_at]; simp
theorem byte_lt (s : ByteArray) (i : Nat) : (s.get! i).toNat < 256 := (s.get! i).toNat_lt
theorem ref_sem (s : ByteArray) (h0 : s.size ≠ 0) : needN (s.get! 0).toNat = 0 ∧ ¬ okD s ∨ 1 ≤ needN (s.get! 0).toNat ∧ needN (s.get! 0).toNat ≤ 4 ∧
    ((∀ i, 1 < i → i ≤ needN (s.get! 0).toNat → i ≤ s.size ∧ begB (bytesOf (s.extract 0 i)) (needN (s.get! 0).toNat) = true) ∧ okD s ∧ (decodeGo s).2 = needN (s.get! 0).toNat ∧ valueZ (bytesOf (s.extract 0 (needN (s.get! 0).toNat))) = (decodeGo s).1 ∨
     (∃ i, 1 < i ∧ i ≤ needN (s.get! 0).toNat ∧ ¬ (i ≤ s.size ∧ begB (bytesOf (s.extract 0 i)) (needN (s.get! 0).toNat) = true)) ∧ ¬ okD s) := by
  unfold okD
  rw [dec_go s h0]
  have ha := byte_lt s 0
  have hb := byte_lt s 1
  have hc := byte_lt s 2
  have hd := byte_lt s 3
  have q1 := pre1 s (by omega)
  have q2 := fun h => pre2 s h
  have q3 := fun h => pre3 s h
  have q4 := fun h => pre4 s h
  generalize (s.get! 0).toNat = a at *
  generalize (s.get! 1).toNat = b at *
  generalize (s.get! 2).toNat = c at *
  generalize (s.get! 3).toNat = d at *
  rcases need_cases a with ⟨e, h⟩ | ⟨e, h⟩ | ⟨e, h⟩ | ⟨e, h⟩ | ⟨e, h⟩
  · left; rw [dec0 h ha]; exact ⟨e, by simp⟩
  · right
    rw [e, dec1 h, q1]
    exact ⟨by omega, by omega, Or.inl ⟨fun i h1 h2 => by omega, by simp; omega, rfl, rfl⟩⟩
  · right
    rw [e]
    refine ⟨by omega, by omega, ?_⟩
    by_cases hk : 2 ≤ s.size ∧ 128 ≤ b ∧ b ≤ 191
    · left
      rw [dec2 h hb hk, q2 hk.1, val2 (by omega)]
      refine ⟨fun i h1 h2 => ?_, by simp, rfl, by simp only; omega⟩
      obtain rfl : i = 2 := by omega
      exact ⟨hk.1, by rw [q2 hk.1]; exact (beg22 (by omega)).2 (by omega)⟩
    · right
      rw [dec2n h hb hk]
      refine ⟨⟨2, by omega, by omega, fun hx => hk ?_⟩, by simp⟩
      rw [q2 hx.1] at hx
      have := (beg22 (by omega)).1 hx.2
      omega
  · right
    rw [e]
    refine ⟨by omega, by omega, ?_⟩
    by_cases hk : 3 ≤ s.size ∧ (128 ≤ b ∧ b ≤ 191) ∧ (128 ≤ c ∧ c ≤ 191) ∧ 2048 ≤ a % 16 * 4096 + b % 64 * 64 + c % 64 ∧ (a % 16 * 4096 + b % 64 * 64 + c % 64 < 55296 ∨ 57343 < a % 16 * 4096 + b % 64 * 64 + c % 64)
    · left
      rw [dec3 h hb hc rfl hk, q3 hk.1, val3 (by omega) (by omega)]
      have hv : (64 * (64 * ((a : Int) - 224) + b - 128) + c - 128 : Int) = ((a % 16 * 4096 + b % 64 * 64 + c % 64 : Nat) : Int) := by omega
      have hf : begB [(a : Int), b, c] 3 = true := (beg33 (by omega)).2 ⟨by omega, by omega, by rw [val3 (by omega) (by omega), hv]; omega, by rw [val3 (by omega) (by omega), hv]; omega⟩
      refine ⟨fun i h1 h2 => ?_, by simp, rfl, hv⟩
      rcases (show i = 2 ∨ i = 3 by omega) with rfl | rfl
      · exact ⟨by omega, by rw [q2 (by omega)]; exact beg32 (by omega) hf⟩
      · exact ⟨by omega, by rw [q3 (by omega)]; exact hf⟩
    · right
      rw [dec3n h hb hc rfl hk]
      refine ⟨⟨3, by omega, by omega, fun hx => hk ?_⟩, by simp⟩
      rw [q3 hx.1] at hx
      obtain ⟨x1, x2, x3, x4⟩ := (beg33 (by omega)).1 hx.2
      rw [val3 x1 x2] at x3 x4
      omega
  · right
    rw [e]
    refine ⟨by omega, by omega, ?_⟩
    by_cases hk : 4 ≤ s.size ∧ (128 ≤ b ∧ b ≤ 191) ∧ (128 ≤ c ∧ c ≤ 191) ∧ (128 ≤ d ∧ d ≤ 191) ∧ 65536 ≤ a % 8 * 262144 + b % 64 * 4096 + c % 64 * 64 + d % 64 ∧ a % 8 * 262144 + b % 64 * 4096 + c % 64 * 64 + d % 64 ≤ 1114111
    · left
      rw [dec4 h hb hc hd rfl hk, q4 hk.1, val4 (by omega) (by omega) (by omega)]
      have hv : (64 * (64 * (64 * ((a : Int) - 240) + b - 128) + c - 128) + d - 128 : Int) = ((a % 8 * 262144 + b % 64 * 4096 + c % 64 * 64 + d % 64 : Nat) : Int) := by omega
      have hf : begB [(a : Int), b, c, d] 4 = true := (beg44 (by omega)).2 ⟨by omega, by omega, by omega, by rw [val4 (by omega) (by omega) (by omega), hv]; omega, by rw [val4 (by omega) (by omega) (by omega), hv]; omega⟩
      refine ⟨fun i h1 h2 => ?_, by simp, rfl, hv⟩
      rcases (show i = 2 ∨ i = 3 ∨ i = 4 by omega) with rfl | rfl | rfl
      · exact ⟨by omega, by rw [q2 (by omega)]; exact beg42 (by omega) hf⟩
      · exact ⟨by omega, by rw [q3 (by omega)]; exact beg43 (by omega) hf⟩
      · exact ⟨by omega, by rw [q4 (by omega)]; exact hf⟩
    · right
      rw [dec4n h hb hc hd rfl hk]
      refine ⟨⟨4, by omega, by omega, fun hx => hk ?_⟩, by simp⟩
      rw [q4 hx.1] at hx
      obtain ⟨x1, x2, x3, x4, x5⟩ := (beg44 (by omega)).1 hx.2
      rw [val4 x1 x2 x3] at x4 x5
      omega
def FirstIs (s : ByteArray) (r : Int × Int × Int) : Prop := (okD s ∧ r = (((decodeGo s).1 : Int), ((decodeGo s).2 : Int), 0)) ∨ (¬ okD s ∧ r.2.2 ≠ 0)
theorem empty_not (s : ByteArray) (h : s.size = 0) : ¬ okD s := by
 unfold okD decodeGo; rw [if_pos h]; simp
theorem ref_first (s : ByteArray) (hs : (s.size : Int) ≤ 9223372036854775807) : ∃ r, Ev (fun k => backseatref01_First.f k s) r ∧ FirstIs s r := by
 by_cases h0 : s.size = 0
 ·exact ⟨(0, 0, 2), by unfold backseatref01_First.f; exact Ev.pos (by omega) (Ev.ret _), Or.inr ⟨empty_not s h0, by simp⟩⟩
 have hb : bt s 0 = ((s.get! 0).toNat : Int) := bt_get s 0 (by omega)
 have hn := need_ev (s.get! 0).toNat
 rw [← hb] at hn
 rcases ref_sem s h0 with ⟨e, hk⟩ | ⟨g1, g4, hx⟩
 ·refine ⟨(0, 1, 4), ?_, Or.inr ⟨hk, by simp⟩⟩
  unfold backseatref01_First.f
  refine Ev.neg (by omega) (Ev.pos (by omega) (Ev.bind hn ?_))
  rw [e]
  exact Ev.pos rfl (Ev.ret _)
 ·have hl := ref_loop s (needN (s.get! 0).toNat) g1 g4 hs (needN (s.get! 0).toNat - 1) 1 (by omega) (Nat.le_refl _) (by omega)
  have hgo : ∀ r, Ev (fun k => backseatref01_First.l0 k s (needN (s.get! 0).toNat) ((1 : Nat) : Int)) r → Ev (fun k => backseatref01_First.f k s) r := fun r hr => by
   unfold backseatref01_First.f
   exact Ev.neg (by omega) (Ev.pos (by omega) (Ev.bind hn (Ev.neg (by omega) hr)))
  rcases hl with ⟨l1, l2⟩ | ⟨⟨i, l1, l2, l3⟩, a, e, le, l4⟩
  ·rcases hx with ⟨x1, x2, x3, x4⟩ | ⟨⟨i, x1, x2, x3⟩, _⟩
   ·exact ⟨_, hgo _ l2, Or.inl ⟨x2, by rw [x3, x4]⟩⟩
   ·exact absurd (l1 i x1 x2) x3
  ·rcases hx with ⟨x1, x2, x3, x4⟩ | ⟨_, x3⟩
   ·exact absurd (x1 i l1 l2) l3
   ·exact ⟨_, hgo _ l4, Or.inr ⟨x3, le⟩⟩
theorem full_of (s : ByteArray) (h : okD s) : fullN s.size (s.get! 0).toNat (s.get! 1).toNat (s.get! 2).toNat = true := by
 have h0 : s.size ≠ 0 := fun e => empty_not s e h
 unfold okD at h
 rw [dec_go s h0] at h
 have ha := byte_lt s 0
 have hb := byte_lt s 1
 have hc := byte_lt s 2
 have hd := byte_lt s 3
 generalize (s.get! 0).toNat = a at *
 generalize (s.get! 1).toNat = b at *
 generalize (s.get! 2).toNat = c at *
 generalize (s.get! 3).toNat = d at *
 have key : ∀ m, Lib.firstT a % 8 = m → m ≤ s.size → fullN s.size a b c = true := fun m h1 h2 => by
  unfold fullN; rw [if_neg h0, if_pos (by omega)]
 rcases need_cases a with ⟨e, g⟩ | ⟨e, g⟩ | ⟨e, g⟩ | ⟨e, g⟩ | ⟨e, g⟩
 ·rw [dec0 g ha] at h; exact absurd ⟨rfl, Nat.le_refl _⟩ h
 ·exact key 0 (by unfold Lib.firstT; rw [if_pos g]) (by omega)
 ·by_cases hk : 2 ≤ s.size ∧ 128 ≤ b ∧ b ≤ 191
  ·exact key 2 (by unfold Lib.firstT; rw [if_neg (by omega), if_neg (by omega), if_pos (by omega)]) hk.1
  ·rw [dec2n g hb hk] at h; exact absurd ⟨rfl, Nat.le_refl _⟩ h
 ·by_cases hk : 3 ≤ s.size ∧ (128 ≤ b ∧ b ≤ 191) ∧ (128 ≤ c ∧ c ≤ 191) ∧ 2048 ≤ a % 16 * 4096 + b % 64 * 64 + c % 64 ∧ (a % 16 * 4096 + b % 64 * 64 + c % 64 < 55296 ∨ 57343 < a % 16 * 4096 + b % 64 * 64 + c % 64)
  ·refine key 3 ?_ hk.1
   unfold Lib.firstT
   rw [if_neg (by omega), if_neg (by omega), if_neg (by omega)]
   repeat' split
   all_goals first | rfl | omega
  ·rw [dec3n g hb hc rfl hk] at h; exact absurd ⟨rfl, Nat.le_refl _⟩ h
 ·by_cases hk : 4 ≤ s.size ∧ (128 ≤ b ∧ b ≤ 191) ∧ (128 ≤ c ∧ c ≤ 191) ∧ (128 ≤ d ∧ d ≤ 191) ∧ 65536 ≤ a % 8 * 262144 + b % 64 * 4096 + c % 64 * 64 + d % 64 ∧ a % 8 * 262144 + b % 64 * 4096 + c % 64 * 64 + d % 64 ≤ 1114111
  ·refine key 4 ?_ hk.1
   have : a < 245 ∧ a ≤ 244 := by omega
   unfold Lib.firstT
   rw [if_neg (by omega), if_neg (by omega), if_neg (by omega), if_neg (by omega), if_neg (by omega), if_neg (by omega), if_neg (by omega)]
   repeat' split
   all_goals first | rfl | omega
  ·rw [dec4n g hb hc hd rfl hk] at h; exact absurd ⟨rfl, Nat.le_refl _⟩ h
theorem utf_loop (s : ByteArray) (hs : (s.size : Int) ≤ 9223372036854775807) : ∀ m x, x + m = s.size → ∃ y : Int, Ev (fun k => utf_First.l0 k s (x : Nat)) (0, y, 4)
 | 0, x, hx => ⟨x, Ev.succ (by simp only [utf_First.l0]; exact Ev.neg (by omega) (Ev.ret _))⟩
 | m + 1, x, hx => by
  have hw := w64 x (by omega)
  by_cases hf : fullN (s.extract 0 (x + 1)).size ((s.extract 0 (x + 1)).get! 0).toNat ((s.extract 0 (x + 1)).get! 1).toNat ((s.extract 0 (x + 1)).get! 2).toNat = true
  ·refine ⟨x, Ev.succ ?_⟩
   simp only [utf_First.l0]
   refine Ev.pos (by omega) ?_
   rw [hw]
   refine Ev.pos (by omega) (Ev.pos (by omega) ?_)
   rw [Int.toNat_natCast]
   exact Ev.bind (v := true) (Ev.of (by unfold utf8_FullRuneInString.f; rw [hf])) (Ev.pos rfl (Ev.ret _))
  ·obtain ⟨y, hy⟩ := utf_loop s hs m (x + 1) (by omega)
   refine ⟨y, Ev.succ ?_⟩
   simp only [utf_First.l0]
   refine Ev.pos (by omega) ?_
   rw [hw]
   refine Ev.pos (by omega) (Ev.pos (by omega) ?_)
   rw [Int.toNat_natCast]
   exact Ev.bind (v := false) (Ev.of (by unfold utf8_FullRuneInString.f; rw [Bool.eq_false_iff.2 hf])) (Ev.neg (by decide) hy)
theorem utf_first (s : ByteArray) (hs : (s.size : Int) ≤ 9223372036854775807) : ∃ r, Ev (fun k => utf_First.f k s) r ∧ FirstIs s r := by
 unfold utf_First.f utf8_FullRuneInString.f utf8_DecodeRuneInString.f
 by_cases hf : fullN s.size (s.get! 0).toNat (s.get! 1).toNat (s.get! 2).toNat = true
 ·have hstep : ∀ r, Ev (fun k => if ((decodeGo s).1 : Int) = 65533 then utf_First.j0 k s (decodeGo s).1 (decodeGo s).2 (decide (((decodeGo s).2 : Int) > 1)) else utf_First.j0 k s (decodeGo s).1 (decodeGo s).2 true) r →
    Ev (fun k => (some (fullN s.size (s.get! 0).toNat (s.get! 1).toNat (s.get! 2).toNat)).bind fun t124 => if t124 = true then (some (((decodeGo s).1 : Int), ((decodeGo s).2 : Int))).bind fun bt125 => if bt125.1 = 65533 then utf_First.j0 k s bt125.1 bt125.2 (decide (bt125.2 > 1)) else utf_First.j0 k s bt125.1 bt125.2 true else some (0, 0, 2)) r := fun r hr =>
   Ev.bind (v := true) (Ev.of (by rw [hf])) (Ev.pos rfl (Ev.bind (v := (((decodeGo s).1 : Int), ((decodeGo s).2 : Int))) (Ev.ret _) hr))
  have ht : Ev (fun k => utf_First.j0 k s (decodeGo s).1 (decodeGo s).2 true) (((decodeGo s).1 : Int), ((decodeGo s).2 : Int), 0) := Ev.succ (by simp only [utf_First.j0]; exact Ev.pos trivial (Ev.ret _))
  by_cases h1 : ((decodeGo s).1 : Int) = 65533
  ·by_cases h2 : ((decodeGo s).2 : Int) > 1
   ·refine ⟨_, hstep _ (Ev.pos h1 ?_), Or.inl ⟨fun h => by omega, rfl⟩⟩
    rw [decide_eq_true h2]; exact ht
   ·obtain ⟨y, hy⟩ := utf_loop s hs (s.size - (decodeGo s).2) (decodeGo s).2 (by
     have : (decodeGo s).2 ≤ 1 := by omega
     have : s.size ≠ 0 := fun e => by rw [e] at hf; simp [fullN] at hf
     omega)
    refine ⟨(0, y, 4), hstep _ (Ev.pos h1 ?_), Or.inr ⟨fun h => h ⟨by omega, by omega⟩, by simp⟩⟩
    rw [decide_eq_false h2]
    exact Ev.succ (by simp only [utf_First.j0]; exact Ev.neg (by decide) hy)
  ·exact ⟨_, hstep _ (Ev.neg h1 ht), Or.inl ⟨fun h => by omega, rfl⟩⟩
 ·refine ⟨(0, 0, 2), Ev.bind (v := false) (Ev.of (by rw [Bool.eq_false_iff.2 hf])) (Ev.neg (by decide) (Ev.ret _)), Or.inr ⟨fun h => hf (full_of s h), by simp⟩⟩
end Go.Proofs.YtckkdaehmccjlaaDoor.P
