/- Texts of this session put together by a program, part 2: Turns, Ev, RowB, Begins, Px18, Px57, PFirst, PBeg, PSame, PFst, Px19, Px20, Px21, PWidth, Px16, Px17, Px58, PCell, Px22. -/
import Derived.Test.YtckkdaehmccjlaaDoorFTm1
import Derived.Lib.SliceRun
import Derived.Laws.Strings
import Derived.Lib.TrimU
import Derived.Shelf.Unicode.DecodeLastEight
namespace Go.Proofs.YtckkdaehmccjlaaDoor.P
open Go.RowKit Go.Proofs.YtckkdaehmccjlaaDoorW.PrintWords Go.Proofs.YtckkdaehmccjlaaDoorW.PrintLast Go.Proofs.YtckkdaehmccjlaaDoorW.PrintMore
attribute [local go_sem] max2_int min2_int max_two min_two max_three min_three max_four min_four   -- for this text's walks alone
set_option linter.unusedVariables false
set_option linter.unusedSimpArgs false
theorem turn_block (a : Addr) (n : Nat) : (a.add n).block = a.block := by unfold Addr.add; split <;> rfl
theorem Cput {w : World} {ad : Addr} {n g : Nat} {xs : List S60} (h : Kd.C k60 w (some ad) n xs) (hne : ad.block = g → False) (o : Nat) (v : Value) : Kd.C k60 (w.setCell ⟨g, o, none⟩ v) (some ad) n xs :=
 ⟨h.1, h.2.1, fun hn => by
  obtain ⟨a, e, H⟩ := h.2.2 hn
  injection e with e
  subst e
  refine ⟨ad, rfl, fun j x hj => ?_⟩
  obtain ⟨cs, h1, h2, h3⟩ := H j x hj
  exact ⟨cs, h1, h2, fun i u hu => (World.cell?_setCell_far w ⟨g, o, none⟩ (ad.add (j * k60.sz + i)) v (fun e => hne ((turn_block ad _).symm.trans e.symm))).trans (h3 i u hu)⟩⟩
mutual
def backseatlaw08_FlowTurns.l0 : Nat → List (S38) → Int → Int → Int → Int → Option (Bool)
 | 0, _, _, _, _, _ => none
 | k + 1, x0, x1, x2, x32, x33 => if x33 < x32 then (if 0 ≤ x33 then (if x33 < (x0.length : Int) then (backseatlaw08_FlowTurns.l1 k x0 x1 x2 x32 x33 ((rd_T38 x0 x33).f0) (((rd_T38 x0 x33).f0).length : Int) 0) else (none)) else (none)) else ((flow_Letters.f k x0).bind fun bt632 => ((flow_Flow.f k x0 x1).bind fun bt636 => (if bt632.2 = 0 then (if bt636.2 = 0 then (backseatlaw08_FlowTurns.j2 k x2 bt632.1 bt632.2 bt636.1 bt636.2 (decide ((bt636.1.length : Int) > 200))) else (backseatlaw08_FlowTurns.j2 k x2 bt632.1 bt632.2 bt636.1 bt636.2 true)) else (backseatlaw08_FlowTurns.j2 k x2 bt632.1 bt632.2 bt636.1 bt636.2 true))))
def backseatlaw08_FlowTurns.l1 : Nat → List (S38) → Int → Int → Int → Int → List (S60) → Int → Int → Option (Bool)
 | 0, _, _, _, _, _, _, _, _ => none
 | k + 1, x0, x1, x2, x32, x33, x40, x41, x42 => if x42 < x41 then (if 0 ≤ x42 then (if x42 < (x40.length : Int) then (if ((rd_T60 x40 x42).f1) = 1 then (backseatlaw08_FlowTurns.l1 k x0 x1 x2 x32 x33 x40 x41 (wrap64 (x42 + 1))) else ((backseatlaw08_alive.f k).bind fun t631 => (some t631))) else (none)) else (none)) else (backseatlaw08_FlowTurns.l0 k x0 x1 x2 x32 (wrap64 (x33 + 1)))
def backseatlaw08_FlowTurns.j2 : Nat → Int → List ByteArray → Int → List (S38) → Int → Bool → Option (Bool)
 | 0, _, _, _, _, _, _ => none
 | k + 1, x2, x10, x11, x12, x13, x73 => if x73 = true then ((backseatlaw08_alive.f k).bind fun t640 => (if t640 = true then (if x11 = 0 then (some true) else (some (x11 == x13))) else (some false))) else ((flow_Flow.f k x12 x2).bind fun bt641 => (if bt641.2 = 0 then (backseatlaw08_FlowTurns.j3 k x10 bt641.1 bt641.2 (decide ((bt641.1.length : Int) > 200))) else (backseatlaw08_FlowTurns.j3 k x10 bt641.1 bt641.2 true)))
def backseatlaw08_FlowTurns.j3 : Nat → List ByteArray → List (S38) → Int → Bool → Option (Bool)
 | 0, _, _, _, _ => none
 | k + 1, x10, x14, x15, x96 => if x96 = true then ((backseatlaw08_alive.f k).bind fun t645 => (if t645 = true then (some (x15 == 0)) else (some false))) else ((flow_Letters.f k x14).bind fun bt646 => (if bt646.2 = 0 then (if (x10.length : Int) = (bt646.1.length : Int) then ((backseatlaw08_alive.f k).bind fun t650 => (backseatlaw08_FlowTurns.j4 k x10 bt646.1 (!t650))) else (backseatlaw08_FlowTurns.j4 k x10 bt646.1 true)) else (backseatlaw08_FlowTurns.j4 k x10 bt646.1 true)))
def backseatlaw08_FlowTurns.j4 : Nat → List ByteArray → List ByteArray → Bool → Option (Bool)
 | 0, _, _, _ => none
 | k + 1, x10, x16, x119 => if x119 = true then (some false) else (backseatlaw08_FlowTurns.l2 k x10 x16 (x10.length : Int) 0)
def backseatlaw08_FlowTurns.l2 : Nat → List ByteArray → List ByteArray → Int → Int → Option (Bool)
 | 0, _, _, _, _ => none
 | k + 1, x10, x16, x121, x122 => if x122 < x121 then (if 0 ≤ x122 then (if x122 < (x10.length : Int) then (if x122 < (x16.length : Int) then (if (rdOf ByteArray.empty x10 x122).toList = (rdOf ByteArray.empty x16 x122).toList then (backseatlaw08_FlowTurns.l2 k x10 x16 x121 (wrap64 (x122 + 1))) else (some false)) else (none)) else (none)) else (none)) else (some true)
end
def backseatlaw08_FlowTurns.f (k : Nat) (l0 : List (S38)) (a1 : Int) (a2 : Int) : Option (Bool) := (backseatlaw08_few.f k l0).bind fun t625 => (backseatlaw08_FlowTurns.l0 k t625 (wrap64 (1 + (Int.tmod (wrap64 ((Int.tmod a1 20) + 20)) 20))) (wrap64 (1 + (Int.tmod (wrap64 ((Int.tmod a2 20) + 20)) 20))) (t625.length : Int) 0)
set_option maxHeartbeats 8000000 in
set_option maxRecDepth 100000 in
theorem backseatlaw08_FlowTurns.calls (k : Nat) (A0 : Option Addr) (c0 : Nat) (l0 : List (S38)) (a1 : Int) (a2 : Int) (r : Bool) (w : World) (hr0 : Kd.C k38 w A0 l0.length l0) (hc0 : l0.length ≤ c0) (h : backseatlaw08_FlowTurns.f k l0 a1 a2 = some r) (hT : Tabs w := by first | exact Aside0.out (by with_reducible assumption) | exact Tabs.keepA (by with_reducible assumption) (by repeat (first | (with_reducible exact Aside0.out (by with_reducible assumption)) | (with_reducible apply below_alloc) | (with_reducible apply pw_below_drewN) | (with_reducible apply below_drew1) | (with_reducible refine below_set ?_ (Aside0.out (by with_reducible assumption)))))) :
  Calls Tryd.prog 7 #[.slice A0 l0.length c0, .int .i64 a1, .int .i64 a2] w fun e w' => e = .returned (.bool r) ∧ Below w.heap.size w w' := by
 have HT := Aside0.mk (show Tabs w from hT)
 clear hT
 have hu60 := Tryd.underlying60
 have HR0 := Aside0.mk hr0
 have HC0 := Aside0.mk hc0
 clear hr0 hc0
 have HB := Aside0.mk (Below.refl w.heap.size w)
 have H : ((backseatlaw08_few.f k l0).bind fun t625 => (backseatlaw08_FlowTurns.l0 k t625 (wrap64 (1 + (Int.tmod (wrap64 ((Int.tmod a1 20) + 20)) 20))) (wrap64 (1 + (Int.tmod (wrap64 ((Int.tmod a2 20) + 20)) 20))) (t625.length : Int) 0)) = some r := h
 clear h
 replace H := Option.bind_eq_some_iff.mp H
 obtain ⟨t625, A40, H⟩ := H
 replace H : (backseatlaw08_FlowTurns.l0 k t625 (wrap64 (1 + (Int.tmod (wrap64 ((Int.tmod a1 20) + 20)) 20))) (wrap64 (1 + (Int.tmod (wrap64 ((Int.tmod a2 20) + 20)) 20))) (t625.length : Int) 0) = some r := H
 have A4 := Aside0.mk A40
 clear A40
 have H' := Aside0.mk H
 clear H
 go_enter Tryd.func7, Tryd.ntmps7
 go_wp2_with (first | (go_at_call 17; (with_reducible refine (backseatlaw08_few.calls k _ _ l0 t625 _ ?side1 ?side2 A4.out).mono ?_); (case side1 => repeat (first | exact HR0.out | (with_reducible refine Kd.C_alloc ?_ _) | (with_reducible refine Kd.C_drewN ?_ _) | (with_reducible refine Kd.C_drew ?_))); (case side2 => exact HC0.out); rintro e w5 ⟨v626, rfl, ho0, hb⟩; have HO627 := Aside0.mk (Kd.N_lower (Kd.N_mono (ok' := fun k_ => True) (Kd.S_N (Kd.S_bound ho0)) (fun k_ hk_ => trivial)) (below_size zb)); replace HB := (zs HB hb); (try clear hb); (try clear ho0); obtain ⟨Ao6, co6, eo6⟩ := Kd.N_slice HO627.out; subst eo6))
 repeat (go_quiet (first | (go_at_call 17; (with_reducible refine (backseatlaw08_few.calls k _ _ l0 t625 _ ?side1 ?side2 A4.out).mono ?_); (case side1 => repeat (first | exact HR0.out | (with_reducible refine Kd.C_alloc ?_ _) | (with_reducible refine Kd.C_drewN ?_ _) | (with_reducible refine Kd.C_drew ?_))); (case side2 => exact HC0.out); rintro e w5 ⟨v626, rfl, ho0, hb⟩; have HO627 := Aside0.mk (Kd.N_lower (Kd.N_mono (ok' := fun k_ => True) (Kd.S_N (Kd.S_bound ho0)) (fun k_ hk_ => trivial)) (below_size zb)); replace HB := (zs HB hb); (try clear hb); (try clear ho0); obtain ⟨Ao6, co6, eo6⟩ := Kd.N_slice HO627.out; subst eo6)); try go_wp2_with (first | (go_at_call 17; (with_reducible refine (backseatlaw08_few.calls k _ _ l0 t625 _ ?side1 ?side2 A4.out).mono ?_); (case side1 => repeat (first | exact HR0.out | (with_reducible refine Kd.C_alloc ?_ _) | (with_reducible refine Kd.C_drewN ?_ _) | (with_reducible refine Kd.C_drew ?_))); (case side2 => exact HC0.out); rintro e w5 ⟨v626, rfl, ho0, hb⟩; have HO627 := Aside0.mk (Kd.N_lower (Kd.N_mono (ok' := fun k_ => True) (Kd.S_N (Kd.S_bound ho0)) (fun k_ hk_ => trivial)) (below_size zb)); replace HB := (zs HB hb); (try clear hb); (try clear ho0); obtain ⟨Ao6, co6, eo6⟩ := Kd.N_slice HO627.out; subst eo6)))
 go_loopg [33] k (fun kq v33 w' => ∃ (x33_1 : Int), v33 = .int .i64 x33_1 ∧ Aside0 (backseatlaw08_FlowTurns.l0 kq t625 (wrap64 (1 + (Int.tmod (wrap64 ((Int.tmod a1 20) + 20)) 20))) (wrap64 (1 + (Int.tmod (wrap64 ((Int.tmod a2 20) + 20)) 20))) (t625.length : Int) x33_1 = some r) ∧ Aside0 (kq ≤ k) ∧ Aside0 (Kd.N k38 38 w' w.heap.size (fun _ => True) (.slice Ao6 t625.length co6) t625) ∧ Aside0 (Below w.heap.size w w'))
 case atStart => exact ⟨(0), zf, H', ⟨Nat.le_refl _⟩, ⟨by (with_reducible repeat (first | apply Kd.N_alloc | apply Kd.N_drewN | apply Kd.N_drew)); exact HO627.out⟩, ⟨zb⟩⟩
 case round =>
  clear H'
  obtain ⟨x33_1, rfl, HA, HK1, HO_0, HB⟩ := hrel
  cases gk with
  | zero => exact absurd HA.out (by simp [backseatlaw08_FlowTurns.l0])
  | succ k1 =>
   have H := HA.out
   clear HA
   simp only [backseatlaw08_FlowTurns.l0] at H
   by_cases c7 : x33_1 < (t625.length : Int)
   ·rw [if_pos c7] at H
    have c7b0 : decide (x33_1 < (t625.length : Int)) = true := decide_eq_true c7
    clear c7
    by_cases c8 : 0 ≤ x33_1
    ·rw [if_pos c8] at H
     have c8b0 : decide (0 ≤ x33_1) = true := decide_eq_true c8
     clear c8
     by_cases c9 : x33_1 < (t625.length : Int)
     ·rw [if_pos c9] at H
      have c9b0 : decide (x33_1 < (t625.length : Int)) = true := decide_eq_true c9
      clear c9
      have H' := Aside0.mk H
      clear H
      have p628 : 0 ≤ (x33_1 : Int) := of_decide_eq_true za
      have q628 : x33_1 < (t625.length : Int) := of_decide_eq_true za
      obtain ⟨ad628, A628_0, c628_0, e628, hx628_0, hx628_1, hl628_0, hi628_0⟩ := at_T38 (Kd.N_reads' HO_0.out).2.2 x33_1 p628 q628
      cases e628
      obtain ⟨ce628, hce628, hMe628, hcc628⟩ := Kd.N_get HO_0.out z38 x33_1 p628 (by first | exact q628 | exact of_decide_eq_true za | (have e_ := (Kd.N_reads' HO_0.out).1; omega))
      obtain ⟨ua628_0, uc628_0, rfl, ul628_0, ge628_0⟩ := k38_openF hMe628
      have hv628_0 := hcc628 0 _ rfl
      rw [Nat.add_zero] at hv628_0
      replace hv628_0 := Option.some.inj (hv628_0.symm.trans hx628_0)
      injection hv628_0 with hva_ hvn_ hvc_
      rw [hva_] at ge628_0
      rw [hvc_] at ul628_0
      have HL628_0 := Aside0.mk (show Kd.V k60 60 _ w.heap.size _ _ ((rd_T38 t625 x33_1).f0) from Kd.V_mk ul628_0 ge628_0)
      clear hva_ hvn_ hvc_ ge628_0 ul628_0
      clear hcc628 hce628
      have HR628_0 := Aside0.mk hi628_0
      have HC628_0 := Aside0.mk hl628_0
      clear hi628_0 hl628_0
      replace p628 := eq_true p628
      replace q628 := eq_true q628
      go_wp2
      repeat (go_quiet (fail); try go_wp2)
      go_loopg [42] k1 (fun kq v42 w' => ∃ (x42_2 : Int), v42 = .int .i64 x42_2 ∧ Aside0 (backseatlaw08_FlowTurns.l1 kq t625 (wrap64 (1 + (Int.tmod (wrap64 ((Int.tmod a1 20) + 20)) 20))) (wrap64 (1 + (Int.tmod (wrap64 ((Int.tmod a2 20) + 20)) 20))) (t625.length : Int) x33_1 ((rd_T38 t625 x33_1).f0) (((rd_T38 t625 x33_1).f0).length : Int) x42_2 = some r) ∧ Aside0 (kq ≤ k1) ∧ Aside0 (Kd.N k38 38 w' w.heap.size (fun _ => True) (.slice (some ad628) t625.length co6) t625) ∧ Aside0 (Kd.C k60 w' A628_0 ((rd_T38 t625 x33_1).f0).length ((rd_T38 t625 x33_1).f0)) ∧ Aside0 (Below w.heap.size w w'))
      case atStart => exact ⟨(0), zf, H', ⟨Nat.le_refl _⟩, ⟨by (with_reducible repeat (first | apply Kd.N_alloc | apply Kd.N_drewN | apply Kd.N_drew)); exact HO_0.out⟩, ⟨by repeat (first | (with_reducible exact HR628_0.out) | (with_reducible refine Kd.C_alloc ?_ _) | (with_reducible refine Kd.C_drewN ?_ _) | (with_reducible refine Kd.C_drew ?_) | exact HR628_0.out)⟩, ⟨zb⟩⟩
      case round =>
       clear H'
       try clear c7
       try clear c7b0
       try clear c8
       try clear c8b0
       try clear c9
       try clear c9b0
       try clear hx628_0
       try clear hx628_1
       try clear p628
       try clear q628
       obtain ⟨x42_2, rfl, HA, HK2, HO_0, HR628_0, HB⟩ := hrel
       cases gk with
       | zero => exact absurd HA.out (by simp [backseatlaw08_FlowTurns.l1])
       | succ k2 =>
        have H := HA.out
        clear HA
        simp only [backseatlaw08_FlowTurns.l1] at H
        by_cases c10 : x42_2 < (((rd_T38 t625 x33_1).f0).length : Int)
        ·rw [if_pos c10] at H
         have c10b0 : decide (x42_2 < (((rd_T38 t625 x33_1).f0).length : Int)) = true := decide_eq_true c10
         clear c10
         by_cases c11 : 0 ≤ x42_2
         ·rw [if_pos c11] at H
          have c11b0 : decide (0 ≤ x42_2) = true := decide_eq_true c11
          clear c11
          by_cases c12 : x42_2 < (((rd_T38 t625 x33_1).f0).length : Int)
          ·rw [if_pos c12] at H
           have c12b0 : decide (x42_2 < (((rd_T38 t625 x33_1).f0).length : Int)) = true := decide_eq_true c12
           clear c12
           by_cases c13 : ((rd_T60 ((rd_T38 t625 x33_1).f0) x42_2).f1) = 1
           ·rw [if_pos c13] at H
            have c13b0 : (((rd_T60 ((rd_T38 t625 x33_1).f0) x42_2).f1) == 1) = true := beq_iff_eq.mpr c13
            have c13b1 : (((rd_T60 ((rd_T38 t625 x33_1).f0) x42_2).f1) != 1) = false := bne_eq_false_iff_eq.mpr c13
            clear c13
            have H' := Aside0.mk H
            clear H
            have p629 : 0 ≤ (x42_2 : Int) := of_decide_eq_true za
            have q629 : x42_2 < (((rd_T38 t625 x33_1).f0).length : Int) := of_decide_eq_true za
            obtain ⟨ad629, e629, hx629_0, hx629_1, hx629_2, hx629_3, hx629_4⟩ := at_T60 HR628_0.out x42_2 p629 q629
            cases e629
            have HW629 := Aside0.mk (World.block_lt_of_cell? _ _ hx629_0)
            replace p629 := eq_true p629
            replace q629 := eq_true q629
            go_wp2_with (first | ((with_reducible refine gate_dst (N := 9) rfl ?_); (try (refine gate_guard (by rfl) ?_; dsimp only)); refine box_event ?hg (N := 9) ?hd (cs := #[.string (⟨#[]⟩ : ByteArray), .int .i64 0, .int .i64 0, .int .i64 0, .int .i64 0]) (t := 60) ?hr ?_; (case hd => rfl); (case hg => rfl); (case hr => exact zo); intro gb630 hg w14 hbox hb; have HN630 := Aside0.mk (show (Addr.block ad629 = gb630 → False) from fun e_ => by have h1_ := HW629.out; rw [turn_block, e_, hg] at h1_; exact Nat.lt_irrefl _ h1_); replace HO_0 := Aside0.mk (Kd.N_below (Kd.N_elderB (zNa HO_0) gb630 (Nat.le_of_eq hg.symm)) hb); replace HR628_0 := Aside0.mk (Kd.C_below (by repeat (first | (with_reducible exact HR628_0.out) | (with_reducible refine Kd.C_alloc ?_ _) | (with_reducible refine Kd.C_drewN ?_ _) | (with_reducible refine Kd.C_drew ?_) | exact HR628_0.out)) hb); have BK630 := Aside0.mk (hbox); have GW630 := Aside0.mk ((zg hg : w.heap.size ≤ gb630)); have GE630 := Aside0.mk ((zg hg : w.heap.size ≤ gb630)); replace HB := (zs HB hb); clear hb hbox hg; obtain ⟨hcz15_0, hcz15_1, hcz15_2, hcz15_3, hcz15_4, hfz15_0, hfz15_1, hfz15_2, hfz15_3, hfz15_4⟩ := zq5 (w := w14) BK630))
            repeat (go_quiet (first | ((with_reducible refine gate_dst (N := 9) rfl ?_); (try (refine gate_guard (by rfl) ?_; dsimp only)); refine box_event ?hg (N := 9) ?hd (cs := #[.string (⟨#[]⟩ : ByteArray), .int .i64 0, .int .i64 0, .int .i64 0, .int .i64 0]) (t := 60) ?hr ?_; (case hd => rfl); (case hg => rfl); (case hr => exact zo); intro gb630 hg w14 hbox hb; have HN630 := Aside0.mk (show (Addr.block ad629 = gb630 → False) from fun e_ => by have h1_ := HW629.out; rw [turn_block, e_, hg] at h1_; exact Nat.lt_irrefl _ h1_); replace HO_0 := Aside0.mk (Kd.N_below (Kd.N_elderB (zNa HO_0) gb630 (Nat.le_of_eq hg.symm)) hb); replace HR628_0 := Aside0.mk (Kd.C_below (by repeat (first | (with_reducible exact HR628_0.out) | (with_reducible refine Kd.C_alloc ?_ _) | (with_reducible refine Kd.C_drewN ?_ _) | (with_reducible refine Kd.C_drew ?_) | exact HR628_0.out)) hb); have BK630 := Aside0.mk (hbox); have GW630 := Aside0.mk ((zg hg : w.heap.size ≤ gb630)); have GE630 := Aside0.mk ((zg hg : w.heap.size ≤ gb630)); replace HB := (zs HB hb); clear hb hbox hg; obtain ⟨hcz15_0, hcz15_1, hcz15_2, hcz15_3, hcz15_4, hfz15_0, hfz15_1, hfz15_2, hfz15_3, hfz15_4⟩ := zq5 (w := w14) BK630)); try go_wp2_with (first | ((with_reducible refine gate_dst (N := 9) rfl ?_); (try (refine gate_guard (by rfl) ?_; dsimp only)); refine box_event ?hg (N := 9) ?hd (cs := #[.string (⟨#[]⟩ : ByteArray), .int .i64 0, .int .i64 0, .int .i64 0, .int .i64 0]) (t := 60) ?hr ?_; (case hd => rfl); (case hg => rfl); (case hr => exact zo); intro gb630 hg w14 hbox hb; have HN630 := Aside0.mk (show (Addr.block ad629 = gb630 → False) from fun e_ => by have h1_ := HW629.out; rw [turn_block, e_, hg] at h1_; exact Nat.lt_irrefl _ h1_); replace HO_0 := Aside0.mk (Kd.N_below (Kd.N_elderB (zNa HO_0) gb630 (Nat.le_of_eq hg.symm)) hb); replace HR628_0 := Aside0.mk (Kd.C_below (by repeat (first | (with_reducible exact HR628_0.out) | (with_reducible refine Kd.C_alloc ?_ _) | (with_reducible refine Kd.C_drewN ?_ _) | (with_reducible refine Kd.C_drew ?_) | exact HR628_0.out)) hb); have BK630 := Aside0.mk (hbox); have GW630 := Aside0.mk ((zg hg : w.heap.size ≤ gb630)); have GE630 := Aside0.mk ((zg hg : w.heap.size ≤ gb630)); replace HB := (zs HB hb); clear hb hbox hg; obtain ⟨hcz15_0, hcz15_1, hcz15_2, hcz15_3, hcz15_4, hfz15_0, hfz15_1, hfz15_2, hfz15_3, hfz15_4⟩ := zq5 (w := w14) BK630)))
            go_roundg k2
            case measure => have := HK1.out; have := HK2.out; omega
            case rel => exact ⟨(wrap64 (x42_2 + 1)), zf, H', ⟨by have := HK1.out; have := HK2.out; omega⟩, ⟨by (with_reducible repeat (first | apply Kd.N_alloc | apply Kd.N_drewN | apply Kd.N_drew)); exact Kd.N_mono (Kd.N_far (p := ⟨gb630, 4, none⟩) (Kd.N_far (p := ⟨gb630, 3, none⟩) (Kd.N_far (p := ⟨gb630, 2, none⟩) (Kd.N_far (p := ⟨gb630, 1, none⟩) (Kd.N_far (p := ⟨gb630, 0, none⟩) (Kd.N_mono HO_0.out (fun k_ hk => (⟨hk, hk.2⟩ : _ ∧ k_ ≠ gb630))) (fun _ hk => hk.2) (.string ((rd_T60 ((rd_T38 t625 x33_1).f0) x42_2).f0))) (fun _ hk => hk.2) (.int .i64 ((rd_T60 ((rd_T38 t625 x33_1).f0) x42_2).f1))) (fun _ hk => hk.2) (.int .i64 ((rd_T60 ((rd_T38 t625 x33_1).f0) x42_2).f2.f0))) (fun _ hk => hk.2) (.int .i64 ((rd_T60 ((rd_T38 t625 x33_1).f0) x42_2).f2.f1))) (fun _ hk => hk.2) (.int .i64 ((rd_T60 ((rd_T38 t625 x33_1).f0) x42_2).f2.f2))) (fun _ hk => trivial)⟩, ⟨(by repeat (first | (with_reducible exact HR628_0.out) | (with_reducible refine Kd.C_alloc ?_ _) | (with_reducible refine Kd.C_drewN ?_ _) | (with_reducible refine Kd.C_drew ?_) | refine Cput ?_ HN630.out _ _ | exact HR628_0.out))⟩, ⟨zb⟩⟩
           ·rw [if_neg c13] at H
            have c13b0 : (((rd_T60 ((rd_T38 t625 x33_1).f0) x42_2).f1) == 1) = false := beq_eq_false_iff_ne.mpr c13
            have c13b1 : (((rd_T60 ((rd_T38 t625 x33_1).f0) x42_2).f1) != 1) = true := bne_iff_ne.mpr c13
            replace H := Option.bind_eq_some_iff.mp H
            obtain ⟨t631, A160, H⟩ := H
            replace H : (some t631) = some r := H
            have A16 := Aside0.mk A160
            clear A160
            obtain rfl := Option.some.inj H
            have p629 : 0 ≤ (x42_2 : Int) := of_decide_eq_true za
            have q629 : x42_2 < (((rd_T38 t625 x33_1).f0).length : Int) := of_decide_eq_true za
            obtain ⟨ad629, e629, hx629_0, hx629_1, hx629_2, hx629_3, hx629_4⟩ := at_T60 HR628_0.out x42_2 p629 q629
            cases e629
            have HW629 := Aside0.mk (World.block_lt_of_cell? _ _ hx629_0)
            replace p629 := eq_true p629
            replace q629 := eq_true q629
            go_wp2_with (first | ((with_reducible refine gate_dst (N := 9) rfl ?_); (try (refine gate_guard (by rfl) ?_; dsimp only)); refine box_event ?hg (N := 9) ?hd (cs := #[.string (⟨#[]⟩ : ByteArray), .int .i64 0, .int .i64 0, .int .i64 0, .int .i64 0]) (t := 60) ?hr ?_; (case hd => rfl); (case hg => rfl); (case hr => exact zo); intro gb630 hg w17 hbox hb; have HN630 := Aside0.mk (show (Addr.block ad629 = gb630 → False) from fun e_ => by have h1_ := HW629.out; rw [turn_block, e_, hg] at h1_; exact Nat.lt_irrefl _ h1_); replace HO_0 := Aside0.mk (Kd.N_below (Kd.N_elderB (zNa HO_0) gb630 (Nat.le_of_eq hg.symm)) hb); replace HR628_0 := Aside0.mk (Kd.C_below (by repeat (first | (with_reducible exact HR628_0.out) | (with_reducible refine Kd.C_alloc ?_ _) | (with_reducible refine Kd.C_drewN ?_ _) | (with_reducible refine Kd.C_drew ?_) | exact HR628_0.out)) hb); have BK630 := Aside0.mk (hbox); have GW630 := Aside0.mk ((zg hg : w.heap.size ≤ gb630)); have GE630 := Aside0.mk ((zg hg : w.heap.size ≤ gb630)); replace HB := (zs HB hb); clear hb hbox hg; obtain ⟨hcz18_0, hcz18_1, hcz18_2, hcz18_3, hcz18_4, hfz18_0, hfz18_1, hfz18_2, hfz18_3, hfz18_4⟩ := zq5 (w := w17) BK630) | (go_at_call 20; (with_reducible refine (backseatlaw08_alive.calls k2  t631 _ A16.out).mono ?_); rintro e w19 ⟨rfl, hb⟩; replace HO_0 := Aside0.mk (Kd.N_below (by (with_reducible repeat (first | apply Kd.N_alloc | apply Kd.N_drewN | apply Kd.N_drew)); exact (Kd.N_mono (Kd.N_far (p := ⟨gb630, 4, none⟩) (Kd.N_far (p := ⟨gb630, 3, none⟩) (Kd.N_far (p := ⟨gb630, 2, none⟩) (Kd.N_far (p := ⟨gb630, 1, none⟩) (Kd.N_far (p := ⟨gb630, 0, none⟩) (Kd.N_mono HO_0.out (fun k_ hk => (⟨hk, hk.2⟩ : _ ∧ k_ ≠ gb630))) (fun _ hk => hk.2) (.string ((rd_T60 ((rd_T38 t625 x33_1).f0) x42_2).f0))) (fun _ hk => hk.2) (.int .i64 ((rd_T60 ((rd_T38 t625 x33_1).f0) x42_2).f1))) (fun _ hk => hk.2) (.int .i64 ((rd_T60 ((rd_T38 t625 x33_1).f0) x42_2).f2.f0))) (fun _ hk => hk.2) (.int .i64 ((rd_T60 ((rd_T38 t625 x33_1).f0) x42_2).f2.f1))) (fun _ hk => hk.2) (.int .i64 ((rd_T60 ((rd_T38 t625 x33_1).f0) x42_2).f2.f2))) (fun _ h_ => h_.1))) hb); replace HR628_0 := Aside0.mk True.intro; replace BK630 := Aside0.mk (blk_below (g := gb630) (o := .cells #[.string ((rd_T60 ((rd_T38 t625 x33_1).f0) x42_2).f0), .int .i64 ((rd_T60 ((rd_T38 t625 x33_1).f0) x42_2).f1), .int .i64 ((rd_T60 ((rd_T38 t625 x33_1).f0) x42_2).f2.f0), .int .i64 ((rd_T60 ((rd_T38 t625 x33_1).f0) x42_2).f2.f1), .int .i64 ((rd_T60 ((rd_T38 t625 x33_1).f0) x42_2).f2.f2)] 60 (0, 0)) (by refine blk_put (cs := #[.string ((rd_T60 ((rd_T38 t625 x33_1).f0) x42_2).f0), .int .i64 ((rd_T60 ((rd_T38 t625 x33_1).f0) x42_2).f1), .int .i64 ((rd_T60 ((rd_T38 t625 x33_1).f0) x42_2).f2.f0), .int .i64 ((rd_T60 ((rd_T38 t625 x33_1).f0) x42_2).f2.f1), .int .i64 0]) ?_ 4 _ rfl; refine blk_put (cs := #[.string ((rd_T60 ((rd_T38 t625 x33_1).f0) x42_2).f0), .int .i64 ((rd_T60 ((rd_T38 t625 x33_1).f0) x42_2).f1), .int .i64 ((rd_T60 ((rd_T38 t625 x33_1).f0) x42_2).f2.f0), .int .i64 0, .int .i64 0]) ?_ 3 _ rfl; refine blk_put (cs := #[.string ((rd_T60 ((rd_T38 t625 x33_1).f0) x42_2).f0), .int .i64 ((rd_T60 ((rd_T38 t625 x33_1).f0) x42_2).f1), .int .i64 0, .int .i64 0, .int .i64 0]) ?_ 2 _ rfl; refine blk_put (cs := #[.string ((rd_T60 ((rd_T38 t625 x33_1).f0) x42_2).f0), .int .i64 0, .int .i64 0, .int .i64 0, .int .i64 0]) ?_ 1 _ rfl; refine blk_put (cs := #[.string (⟨#[]⟩ : ByteArray), .int .i64 0, .int .i64 0, .int .i64 0, .int .i64 0]) ?_ 0 _ rfl; exact BK630.out) hb); replace HB := (zs HB hb); (try clear hb); (try clear hk)))
            repeat (go_quiet (first | ((with_reducible refine gate_dst (N := 9) rfl ?_); (try (refine gate_guard (by rfl) ?_; dsimp only)); refine box_event ?hg (N := 9) ?hd (cs := #[.string (⟨#[]⟩ : ByteArray), .int .i64 0, .int .i64 0, .int .i64 0, .int .i64 0]) (t := 60) ?hr ?_; (case hd => rfl); (case hg => rfl); (case hr => exact zo); intro gb630 hg w17 hbox hb; have HN630 := Aside0.mk (show (Addr.block ad629 = gb630 → False) from fun e_ => by have h1_ := HW629.out; rw [turn_block, e_, hg] at h1_; exact Nat.lt_irrefl _ h1_); replace HO_0 := Aside0.mk (Kd.N_below (Kd.N_elderB (zNa HO_0) gb630 (Nat.le_of_eq hg.symm)) hb); replace HR628_0 := Aside0.mk (Kd.C_below (by repeat (first | (with_reducible exact HR628_0.out) | (with_reducible refine Kd.C_alloc ?_ _) | (with_reducible refine Kd.C_drewN ?_ _) | (with_reducible refine Kd.C_drew ?_) | exact HR628_0.out)) hb); have BK630 := Aside0.mk (hbox); have GW630 := Aside0.mk ((zg hg : w.heap.size ≤ gb630)); have GE630 := Aside0.mk ((zg hg : w.heap.size ≤ gb630)); replace HB := (zs HB hb); clear hb hbox hg; obtain ⟨hcz18_0, hcz18_1, hcz18_2, hcz18_3, hcz18_4, hfz18_0, hfz18_1, hfz18_2, hfz18_3, hfz18_4⟩ := zq5 (w := w17) BK630) | (go_at_call 20; (with_reducible refine (backseatlaw08_alive.calls k2  t631 _ A16.out).mono ?_); rintro e w19 ⟨rfl, hb⟩; replace HO_0 := Aside0.mk (Kd.N_below (by (with_reducible repeat (first | apply Kd.N_alloc | apply Kd.N_drewN | apply Kd.N_drew)); exact (Kd.N_mono (Kd.N_far (p := ⟨gb630, 4, none⟩) (Kd.N_far (p := ⟨gb630, 3, none⟩) (Kd.N_far (p := ⟨gb630, 2, none⟩) (Kd.N_far (p := ⟨gb630, 1, none⟩) (Kd.N_far (p := ⟨gb630, 0, none⟩) (Kd.N_mono HO_0.out (fun k_ hk => (⟨hk, hk.2⟩ : _ ∧ k_ ≠ gb630))) (fun _ hk => hk.2) (.string ((rd_T60 ((rd_T38 t625 x33_1).f0) x42_2).f0))) (fun _ hk => hk.2) (.int .i64 ((rd_T60 ((rd_T38 t625 x33_1).f0) x42_2).f1))) (fun _ hk => hk.2) (.int .i64 ((rd_T60 ((rd_T38 t625 x33_1).f0) x42_2).f2.f0))) (fun _ hk => hk.2) (.int .i64 ((rd_T60 ((rd_T38 t625 x33_1).f0) x42_2).f2.f1))) (fun _ hk => hk.2) (.int .i64 ((rd_T60 ((rd_T38 t625 x33_1).f0) x42_2).f2.f2))) (fun _ h_ => h_.1))) hb); replace HR628_0 := Aside0.mk True.intro; replace BK630 := Aside0.mk (blk_below (g := gb630) (o := .cells #[.string ((rd_T60 ((rd_T38 t625 x33_1).f0) x42_2).f0), .int .i64 ((rd_T60 ((rd_T38 t625 x33_1).f0) x42_2).f1), .int .i64 ((rd_T60 ((rd_T38 t625 x33_1).f0) x42_2).f2.f0), .int .i64 ((rd_T60 ((rd_T38 t625 x33_1).f0) x42_2).f2.f1), .int .i64 ((rd_T60 ((rd_T38 t625 x33_1).f0) x42_2).f2.f2)] 60 (0, 0)) (by refine blk_put (cs := #[.string ((rd_T60 ((rd_T38 t625 x33_1).f0) x42_2).f0), .int .i64 ((rd_T60 ((rd_T38 t625 x33_1).f0) x42_2).f1), .int .i64 ((rd_T60 ((rd_T38 t625 x33_1).f0) x42_2).f2.f0), .int .i64 ((rd_T60 ((rd_T38 t625 x33_1).f0) x42_2).f2.f1), .int .i64 0]) ?_ 4 _ rfl; refine blk_put (cs := #[.string ((rd_T60 ((rd_T38 t625 x33_1).f0) x42_2).f0), .int .i64 ((rd_T60 ((rd_T38 t625 x33_1).f0) x42_2).f1), .int .i64 ((rd_T60 ((rd_T38 t625 x33_1).f0) x42_2).f2.f0), .int .i64 0, .int .i64 0]) ?_ 3 _ rfl; refine blk_put (cs := #[.string ((rd_T60 ((rd_T38 t625 x33_1).f0) x42_2).f0), .int .i64 ((rd_T60 ((rd_T38 t625 x33_1).f0) x42_2).f1), .int .i64 0, .int .i64 0, .int .i64 0]) ?_ 2 _ rfl; refine blk_put (cs := #[.string ((rd_T60 ((rd_T38 t625 x33_1).f0) x42_2).f0), .int .i64 0, .int .i64 0, .int .i64 0, .int .i64 0]) ?_ 1 _ rfl; refine blk_put (cs := #[.string (⟨#[]⟩ : ByteArray), .int .i64 0, .int .i64 0, .int .i64 0, .int .i64 0]) ?_ 0 _ rfl; exact BK630.out) hb); replace HB := (zs HB hb); (try clear hb); (try clear hk))); try go_wp2_with (first | ((with_reducible refine gate_dst (N := 9) rfl ?_); (try (refine gate_guard (by rfl) ?_; dsimp only)); refine box_event ?hg (N := 9) ?hd (cs := #[.string (⟨#[]⟩ : ByteArray), .int .i64 0, .int .i64 0, .int .i64 0, .int .i64 0]) (t := 60) ?hr ?_; (case hd => rfl); (case hg => rfl); (case hr => exact zo); intro gb630 hg w17 hbox hb; have HN630 := Aside0.mk (show (Addr.block ad629 = gb630 → False) from fun e_ => by have h1_ := HW629.out; rw [turn_block, e_, hg] at h1_; exact Nat.lt_irrefl _ h1_); replace HO_0 := Aside0.mk (Kd.N_below (Kd.N_elderB (zNa HO_0) gb630 (Nat.le_of_eq hg.symm)) hb); replace HR628_0 := Aside0.mk (Kd.C_below (by repeat (first | (with_reducible exact HR628_0.out) | (with_reducible refine Kd.C_alloc ?_ _) | (with_reducible refine Kd.C_drewN ?_ _) | (with_reducible refine Kd.C_drew ?_) | exact HR628_0.out)) hb); have BK630 := Aside0.mk (hbox); have GW630 := Aside0.mk ((zg hg : w.heap.size ≤ gb630)); have GE630 := Aside0.mk ((zg hg : w.heap.size ≤ gb630)); replace HB := (zs HB hb); clear hb hbox hg; obtain ⟨hcz18_0, hcz18_1, hcz18_2, hcz18_3, hcz18_4, hfz18_0, hfz18_1, hfz18_2, hfz18_3, hfz18_4⟩ := zq5 (w := w17) BK630) | (go_at_call 20; (with_reducible refine (backseatlaw08_alive.calls k2  t631 _ A16.out).mono ?_); rintro e w19 ⟨rfl, hb⟩; replace HO_0 := Aside0.mk (Kd.N_below (by (with_reducible repeat (first | apply Kd.N_alloc | apply Kd.N_drewN | apply Kd.N_drew)); exact (Kd.N_mono (Kd.N_far (p := ⟨gb630, 4, none⟩) (Kd.N_far (p := ⟨gb630, 3, none⟩) (Kd.N_far (p := ⟨gb630, 2, none⟩) (Kd.N_far (p := ⟨gb630, 1, none⟩) (Kd.N_far (p := ⟨gb630, 0, none⟩) (Kd.N_mono HO_0.out (fun k_ hk => (⟨hk, hk.2⟩ : _ ∧ k_ ≠ gb630))) (fun _ hk => hk.2) (.string ((rd_T60 ((rd_T38 t625 x33_1).f0) x42_2).f0))) (fun _ hk => hk.2) (.int .i64 ((rd_T60 ((rd_T38 t625 x33_1).f0) x42_2).f1))) (fun _ hk => hk.2) (.int .i64 ((rd_T60 ((rd_T38 t625 x33_1).f0) x42_2).f2.f0))) (fun _ hk => hk.2) (.int .i64 ((rd_T60 ((rd_T38 t625 x33_1).f0) x42_2).f2.f1))) (fun _ hk => hk.2) (.int .i64 ((rd_T60 ((rd_T38 t625 x33_1).f0) x42_2).f2.f2))) (fun _ h_ => h_.1))) hb); replace HR628_0 := Aside0.mk True.intro; replace BK630 := Aside0.mk (blk_below (g := gb630) (o := .cells #[.string ((rd_T60 ((rd_T38 t625 x33_1).f0) x42_2).f0), .int .i64 ((rd_T60 ((rd_T38 t625 x33_1).f0) x42_2).f1), .int .i64 ((rd_T60 ((rd_T38 t625 x33_1).f0) x42_2).f2.f0), .int .i64 ((rd_T60 ((rd_T38 t625 x33_1).f0) x42_2).f2.f1), .int .i64 ((rd_T60 ((rd_T38 t625 x33_1).f0) x42_2).f2.f2)] 60 (0, 0)) (by refine blk_put (cs := #[.string ((rd_T60 ((rd_T38 t625 x33_1).f0) x42_2).f0), .int .i64 ((rd_T60 ((rd_T38 t625 x33_1).f0) x42_2).f1), .int .i64 ((rd_T60 ((rd_T38 t625 x33_1).f0) x42_2).f2.f0), .int .i64 ((rd_T60 ((rd_T38 t625 x33_1).f0) x42_2).f2.f1), .int .i64 0]) ?_ 4 _ rfl; refine blk_put (cs := #[.string ((rd_T60 ((rd_T38 t625 x33_1).f0) x42_2).f0), .int .i64 ((rd_T60 ((rd_T38 t625 x33_1).f0) x42_2).f1), .int .i64 ((rd_T60 ((rd_T38 t625 x33_1).f0) x42_2).f2.f0), .int .i64 0, .int .i64 0]) ?_ 3 _ rfl; refine blk_put (cs := #[.string ((rd_T60 ((rd_T38 t625 x33_1).f0) x42_2).f0), .int .i64 ((rd_T60 ((rd_T38 t625 x33_1).f0) x42_2).f1), .int .i64 0, .int .i64 0, .int .i64 0]) ?_ 2 _ rfl; refine blk_put (cs := #[.string ((rd_T60 ((rd_T38 t625 x33_1).f0) x42_2).f0), .int .i64 0, .int .i64 0, .int .i64 0, .int .i64 0]) ?_ 1 _ rfl; refine blk_put (cs := #[.string (⟨#[]⟩ : ByteArray), .int .i64 0, .int .i64 0, .int .i64 0, .int .i64 0]) ?_ 0 _ rfl; exact BK630.out) hb); replace HB := (zs HB hb); (try clear hb); (try clear hk))))
            go_ret
            exact ⟨ze, zb⟩
          ·rw [if_neg c12] at H
           exact absurd H (by simp)
         ·rw [if_neg c11] at H
          exact absurd H (by simp)
        ·rw [if_neg c10] at H
         have c10b0 : decide (x42_2 < (((rd_T38 t625 x33_1).f0).length : Int)) = false := decide_eq_false c10
         clear c10
         have H' := Aside0.mk H
         clear H
         go_wp2
         repeat (go_quiet (fail); try go_wp2)
         go_roundg k2
         case measure => have := HK1.out; have := HK2.out; omega
         case rel => exact ⟨(wrap64 (x33_1 + 1)), zf, H', ⟨by have := HK1.out; have := HK2.out; omega⟩, ⟨by (with_reducible repeat (first | apply Kd.N_alloc | apply Kd.N_drewN | apply Kd.N_drew)); exact HO_0.out⟩, ⟨zb⟩⟩
     ·rw [if_neg c9] at H
      exact absurd H (by simp)
    ·rw [if_neg c8] at H
     exact absurd H (by simp)
   ·rw [if_neg c7] at H
    have c7b0 : decide (x33_1 < (t625.length : Int)) = false := decide_eq_false c7
    clear c7
    replace H := Option.bind_eq_some_iff.mp H
    obtain ⟨⟨t632, t633⟩, A200, H⟩ := H
    replace H : ((flow_Flow.f k1 t625 (wrap64 (1 + (Int.tmod (wrap64 ((Int.tmod a1 20) + 20)) 20)))).bind fun bt636 => (if t633 = 0 then (if bt636.2 = 0 then (backseatlaw08_FlowTurns.j2 k1 (wrap64 (1 + (Int.tmod (wrap64 ((Int.tmod a2 20) + 20)) 20))) t632 t633 bt636.1 bt636.2 (decide ((bt636.1.length : Int) > 200))) else (backseatlaw08_FlowTurns.j2 k1 (wrap64 (1 + (Int.tmod (wrap64 ((Int.tmod a2 20) + 20)) 20))) t632 t633 bt636.1 bt636.2 true)) else (backseatlaw08_FlowTurns.j2 k1 (wrap64 (1 + (Int.tmod (wrap64 ((Int.tmod a2 20) + 20)) 20))) t632 t633 bt636.1 bt636.2 true))) = some r := H
    have A20 := Aside0.mk A200
    clear A200
    replace H := Option.bind_eq_some_iff.mp H
    obtain ⟨⟨t636, t639⟩, A210, H⟩ := H
    replace H : (if t633 = 0 then (if t639 = 0 then (backseatlaw08_FlowTurns.j2 k1 (wrap64 (1 + (Int.tmod (wrap64 ((Int.tmod a2 20) + 20)) 20))) t632 t633 t636 t639 (decide ((t636.length : Int) > 200))) else (backseatlaw08_FlowTurns.j2 k1 (wrap64 (1 + (Int.tmod (wrap64 ((Int.tmod a2 20) + 20)) 20))) t632 t633 t636 t639 true)) else (backseatlaw08_FlowTurns.j2 k1 (wrap64 (1 + (Int.tmod (wrap64 ((Int.tmod a2 20) + 20)) 20))) t632 t633 t636 t639 true)) = some r := H
    have A21 := Aside0.mk A210
    clear A210
    have HC22 := Aside0.mk H
    clear H
    go_upto_region 15 with (first | (go_at_call 19; (with_reducible refine (flow_Letters.calls k1 _ _ t625 t632 t633 _ ?side1 ?side2 A20.out).mono ?_); (case side1 => repeat (first | exact (Kd.N_reads' HO_0.out).2.2 | (with_reducible refine Kd.C_alloc ?_ _) | (with_reducible refine Kd.C_drewN ?_ _) | (with_reducible refine Kd.C_drew ?_))); (case side2 => exact (Kd.N_reads' HO_0.out).2.1); rintro e w23 ⟨v634, rfl, ho0, hb⟩; replace HO_0 := Aside0.mk (Kd.N_elder' (zNa HO_0) (Kd.R_base ho0) hb); have HO635 := Aside0.mk (Kd.R_lower ho0 (below_size zb)); replace HB := (zs HB hb); (try clear hb); (try clear ho0)) | (go_at_call 26; (with_reducible refine (flow_Flow.calls k1 _ _ t625 (wrap64 (1 + (Int.tmod (wrap64 ((Int.tmod a1 20) + 20)) 20))) t636 t639 _ ?side1 ?side2 A21.out).mono ?_); (case side1 => repeat (first | exact (Kd.N_reads' HO_0.out).2.2 | (with_reducible refine Kd.C_alloc ?_ _) | (with_reducible refine Kd.C_drewN ?_ _) | (with_reducible refine Kd.C_drew ?_))); (case side2 => exact (Kd.N_reads' HO_0.out).2.1); rintro e w24 ⟨v637, rfl, ho0, hb⟩; have n0_ := Aside0.mk (Kd.N_elder' (zNa HO_0) (by first | exact Kd.N_base ho0 | exact Kd.S_base ho0) hb); have n1_ := (zR HO635 hb); have n2_ := Aside0.mk (Kd.N_lower (Kd.N_mono (ok' := fun k_ => some k_ ≠ (.slice Ao6 t625.length co6 : Value).ownBlock ∧ some k_ ≠ (v634 : Value).ownBlock) ho0 (fun k_ hk_ => ⟨(Kd.fresh' (Kd.N_lt (zNa HO_0)) k_ hk_), (Kd.fresh' (Kd.R_lt (zRa HO635)) k_ hk_)⟩)) (below_size zb)); have n3_ := (zs HB hb); clear HO_0; clear HO635; clear HB; have HO_0 := n0_; have HO635 := n1_; have HO638 := n2_; have HB := n3_; clear n0_ n1_ n2_ n3_; (try clear hb); (try clear ho0)))
    repeat (go_quiet (first | (go_at_call 19; (with_reducible refine (flow_Letters.calls k1 _ _ t625 t632 t633 _ ?side1 ?side2 A20.out).mono ?_); (case side1 => repeat (first | exact (Kd.N_reads' HO_0.out).2.2 | (with_reducible refine Kd.C_alloc ?_ _) | (with_reducible refine Kd.C_drewN ?_ _) | (with_reducible refine Kd.C_drew ?_))); (case side2 => exact (Kd.N_reads' HO_0.out).2.1); rintro e w23 ⟨v634, rfl, ho0, hb⟩; replace HO_0 := Aside0.mk (Kd.N_elder' (zNa HO_0) (Kd.R_base ho0) hb); have HO635 := Aside0.mk (Kd.R_lower ho0 (below_size zb)); replace HB := (zs HB hb); (try clear hb); (try clear ho0)) | (go_at_call 26; (with_reducible refine (flow_Flow.calls k1 _ _ t625 (wrap64 (1 + (Int.tmod (wrap64 ((Int.tmod a1 20) + 20)) 20))) t636 t639 _ ?side1 ?side2 A21.out).mono ?_); (case side1 => repeat (first | exact (Kd.N_reads' HO_0.out).2.2 | (with_reducible refine Kd.C_alloc ?_ _) | (with_reducible refine Kd.C_drewN ?_ _) | (with_reducible refine Kd.C_drew ?_))); (case side2 => exact (Kd.N_reads' HO_0.out).2.1); rintro e w24 ⟨v637, rfl, ho0, hb⟩; have n0_ := Aside0.mk (Kd.N_elder' (zNa HO_0) (by first | exact Kd.N_base ho0 | exact Kd.S_base ho0) hb); have n1_ := (zR HO635 hb); have n2_ := Aside0.mk (Kd.N_lower (Kd.N_mono (ok' := fun k_ => some k_ ≠ (.slice Ao6 t625.length co6 : Value).ownBlock ∧ some k_ ≠ (v634 : Value).ownBlock) ho0 (fun k_ hk_ => ⟨(Kd.fresh' (Kd.N_lt (zNa HO_0)) k_ hk_), (Kd.fresh' (Kd.R_lt (zRa HO635)) k_ hk_)⟩)) (below_size zb)); have n3_ := (zs HB hb); clear HO_0; clear HO635; clear HB; have HO_0 := n0_; have HO635 := n1_; have HO638 := n2_; have HB := n3_; clear n0_ n1_ n2_ n3_; (try clear hb); (try clear ho0))); go_upto_region 15 with (first | (go_at_call 19; (with_reducible refine (flow_Letters.calls k1 _ _ t625 t632 t633 _ ?side1 ?side2 A20.out).mono ?_); (case side1 => repeat (first | exact (Kd.N_reads' HO_0.out).2.2 | (with_reducible refine Kd.C_alloc ?_ _) | (with_reducible refine Kd.C_drewN ?_ _) | (with_reducible refine Kd.C_drew ?_))); (case side2 => exact (Kd.N_reads' HO_0.out).2.1); rintro e w23 ⟨v634, rfl, ho0, hb⟩; replace HO_0 := Aside0.mk (Kd.N_elder' (zNa HO_0) (Kd.R_base ho0) hb); have HO635 := Aside0.mk (Kd.R_lower ho0 (below_size zb)); replace HB := (zs HB hb); (try clear hb); (try clear ho0)) | (go_at_call 26; (with_reducible refine (flow_Flow.calls k1 _ _ t625 (wrap64 (1 + (Int.tmod (wrap64 ((Int.tmod a1 20) + 20)) 20))) t636 t639 _ ?side1 ?side2 A21.out).mono ?_); (case side1 => repeat (first | exact (Kd.N_reads' HO_0.out).2.2 | (with_reducible refine Kd.C_alloc ?_ _) | (with_reducible refine Kd.C_drewN ?_ _) | (with_reducible refine Kd.C_drew ?_))); (case side2 => exact (Kd.N_reads' HO_0.out).2.1); rintro e w24 ⟨v637, rfl, ho0, hb⟩; have n0_ := Aside0.mk (Kd.N_elder' (zNa HO_0) (by first | exact Kd.N_base ho0 | exact Kd.S_base ho0) hb); have n1_ := (zR HO635 hb); have n2_ := Aside0.mk (Kd.N_lower (Kd.N_mono (ok' := fun k_ => some k_ ≠ (.slice Ao6 t625.length co6 : Value).ownBlock ∧ some k_ ≠ (v634 : Value).ownBlock) ho0 (fun k_ hk_ => ⟨(Kd.fresh' (Kd.N_lt (zNa HO_0)) k_ hk_), (Kd.fresh' (Kd.R_lt (zRa HO635)) k_ hk_)⟩)) (below_size zb)); have n3_ := (zs HB hb); clear HO_0; clear HO635; clear HB; have HO_0 := n0_; have HO635 := n1_; have HO638 := n2_; have HB := n3_; clear n0_ n1_ n2_ n3_; (try clear hb); (try clear ho0))))
    (try simp only [Act.put, List.setIfInBounds_toArray, List.set_cons_zero, List.set_cons_succ])
    go_cut [73] (fun v73 wc => ∃ (kq : Nat) (x73_21 : Bool), v73 = .bool x73_21 ∧ Aside0 (backseatlaw08_FlowTurns.j2 kq (wrap64 (1 + (Int.tmod (wrap64 ((Int.tmod a2 20) + 20)) 20))) t632 t633 t636 t639 x73_21 = some r) ∧ Aside0 (kq ≤ k1) ∧ Aside0 (Kd.R Kd.string 9 wc w.heap.size (fun _ => True) v634 t632) ∧ Aside0 (Kd.N k38 38 wc w.heap.size (fun k_ => some k_ ≠ (v634 : Value).ownBlock) v637 t636) ∧ Aside0 (Below w.heap.size w wc))
    case first =>
     have H := HC22.out
     clear HC22
     by_cases c25 : t633 = 0
     ·rw [if_pos c25] at H
      have c25b0 : (t633 == 0) = true := beq_iff_eq.mpr c25
      have c25b1 : (t633 != 0) = false := bne_eq_false_iff_eq.mpr c25
      clear c25
      (first | rw [c25b0] | (simp only [i64_w, i32_w]; rw [c25b0]) | skip)
      by_cases c26 : t639 = 0
      ·rw [if_pos c26] at H
       have c26b0 : (t639 == 0) = true := beq_iff_eq.mpr c26
       have c26b1 : (t639 != 0) = false := bne_eq_false_iff_eq.mpr c26
       clear c26
       have H' := Aside0.mk H
       clear H
       obtain ⟨Ao27, co27, eo27⟩ := Kd.N_slice HO638.out
       subst eo27
       go_wp2
       repeat (go_quiet (fail); try go_wp2)
       go_meet
       case rel => exact ⟨_, (decide ((t636.length : Int) > 200)), zf, H', ⟨by have := HK1.out; first | omega | exact Nat.le_refl _⟩, ⟨by (with_reducible repeat (first | apply Kd.R_alloc | apply Kd.R_drewN | apply Kd.R_drew)); exact HO635.out⟩, ⟨by (with_reducible repeat (first | apply Kd.N_alloc | apply Kd.N_drewN | apply Kd.N_drew)); exact Kd.N_mono HO638.out (fun _ hk => hk.2)⟩, ⟨zb⟩⟩
      ·rw [if_neg c26] at H
       have c26b0 : (t639 == 0) = false := beq_eq_false_iff_ne.mpr c26
       have c26b1 : (t639 != 0) = true := bne_iff_ne.mpr c26
       have H' := Aside0.mk H
       clear H
       go_wp2
       repeat (go_quiet (fail); try go_wp2)
       go_meet
       case rel => exact ⟨_, (true), zf, H', ⟨by have := HK1.out; first | omega | exact Nat.le_refl _⟩, ⟨by (with_reducible repeat (first | apply Kd.R_alloc | apply Kd.R_drewN | apply Kd.R_drew)); exact HO635.out⟩, ⟨by (with_reducible repeat (first | apply Kd.N_alloc | apply Kd.N_drewN | apply Kd.N_drew)); exact Kd.N_mono HO638.out (fun _ hk => hk.2)⟩, ⟨zb⟩⟩
     ·rw [if_neg c25] at H
      have c25b0 : (t633 == 0) = false := beq_eq_false_iff_ne.mpr c25
      have c25b1 : (t633 != 0) = true := bne_iff_ne.mpr c25
      (first | rw [c25b0] | (simp only [i64_w, i32_w]; rw [c25b0]) | skip)
      have H' := Aside0.mk H
      clear H
      go_wp2
      repeat (go_quiet (fail); try go_wp2)
      go_meet
      case rel => exact ⟨_, (true), zf, H', ⟨by have := HK1.out; first | omega | exact Nat.le_refl _⟩, ⟨by (with_reducible repeat (first | apply Kd.R_alloc | apply Kd.R_drewN | apply Kd.R_drew)); exact HO635.out⟩, ⟨by (with_reducible repeat (first | apply Kd.N_alloc | apply Kd.N_drewN | apply Kd.N_drew)); exact Kd.N_mono HO638.out (fun _ hk => hk.2)⟩, ⟨zb⟩⟩
    case rest =>
     clear HC22
     try clear c7
     try clear c7b0
     obtain ⟨kq, x73_21, rfl, HA, HJ21, HO_10, HO_12, HB⟩ := hcut
     cases kq with
     | zero => exact absurd HA.out (by simp [backseatlaw08_FlowTurns.j2])
     | succ kj21 =>
      have H := HA.out
      clear HA
      simp only [backseatlaw08_FlowTurns.j2] at H
      by_cases c28 : x73_21 = true
      ·subst c28
       have H1 : ((backseatlaw08_alive.f kj21).bind fun t640 => (if t640 = true then (if t633 = 0 then (some true) else (some (t633 == t639))) else (some false))) = some r := by rw [if_pos rfl] at H; exact H
       clear H
       have H := H1
       clear H1
       replace H := Option.bind_eq_some_iff.mp H
       obtain ⟨t640, A290, H⟩ := H
       replace H : (if t640 = true then (if t633 = 0 then (some true) else (some (t633 == t639))) else (some false)) = some r := H
       have A29 := Aside0.mk A290
       clear A290
       by_cases c30 : t640 = true
       ·subst c30
        have H1 : (if t633 = 0 then (some true) else (some (t633 == t639))) = some r := by rw [if_pos rfl] at H; exact H
        clear H
        have H := H1
        clear H1
        by_cases c31 : t633 = 0
        ·rw [if_pos c31] at H
         have c31b0 : (t633 == 0) = true := beq_iff_eq.mpr c31
         have c31b1 : (t633 != 0) = false := bne_eq_false_iff_eq.mpr c31
         clear c31
         obtain rfl := Option.some.inj H
         go_wp2_with (first | (go_at_call 20; (with_reducible refine (backseatlaw08_alive.calls kj21  true _ A29.out).mono ?_); rintro e w32 ⟨rfl, hb⟩; replace HO_10 := (zR HO_10 hb); replace HO_12 := (zN HO_12 hb); replace HB := (zs HB hb); (try clear hb)))
         repeat (go_quiet (first | (go_at_call 20; (with_reducible refine (backseatlaw08_alive.calls kj21  true _ A29.out).mono ?_); rintro e w32 ⟨rfl, hb⟩; replace HO_10 := (zR HO_10 hb); replace HO_12 := (zN HO_12 hb); replace HB := (zs HB hb); (try clear hb))); try go_wp2_with (first | (go_at_call 20; (with_reducible refine (backseatlaw08_alive.calls kj21  true _ A29.out).mono ?_); rintro e w32 ⟨rfl, hb⟩; replace HO_10 := (zR HO_10 hb); replace HO_12 := (zN HO_12 hb); replace HB := (zs HB hb); (try clear hb))))
         go_ret
         exact ⟨ze, zb⟩
        ·rw [if_neg c31] at H
         have c31b0 : (t633 == 0) = false := beq_eq_false_iff_ne.mpr c31
         have c31b1 : (t633 != 0) = true := bne_iff_ne.mpr c31
         obtain rfl := Option.some.inj H
         go_wp2_with (first | (go_at_call 20; (with_reducible refine (backseatlaw08_alive.calls kj21  true _ A29.out).mono ?_); rintro e w33 ⟨rfl, hb⟩; replace HO_10 := (zR HO_10 hb); replace HO_12 := (zN HO_12 hb); replace HB := (zs HB hb); (try clear hb)))
         repeat (go_quiet (first | (go_at_call 20; (with_reducible refine (backseatlaw08_alive.calls kj21  true _ A29.out).mono ?_); rintro e w33 ⟨rfl, hb⟩; replace HO_10 := (zR HO_10 hb); replace HO_12 := (zN HO_12 hb); replace HB := (zs HB hb); (try clear hb))); try go_wp2_with (first | (go_at_call 20; (with_reducible refine (backseatlaw08_alive.calls kj21  true _ A29.out).mono ?_); rintro e w33 ⟨rfl, hb⟩; replace HO_10 := (zR HO_10 hb); replace HO_12 := (zN HO_12 hb); replace HB := (zs HB hb); (try clear hb))))
         go_ret
         exact ⟨ze, zb⟩
       ·replace c30 := Bool.eq_false_iff.mpr c30
        subst c30
        have H1 : (some false) = some r := by rw [if_neg (show ¬ (false = true) by decide)] at H; exact H
        clear H
        have H := H1
        clear H1
        obtain rfl := Option.some.inj H
        go_wp2_with (first | (go_at_call 20; (with_reducible refine (backseatlaw08_alive.calls kj21  false _ A29.out).mono ?_); rintro e w34 ⟨rfl, hb⟩; replace HO_10 := (zR HO_10 hb); replace HO_12 := (zN HO_12 hb); replace HB := (zs HB hb); (try clear hb)))
        repeat (go_quiet (first | (go_at_call 20; (with_reducible refine (backseatlaw08_alive.calls kj21  false _ A29.out).mono ?_); rintro e w34 ⟨rfl, hb⟩; replace HO_10 := (zR HO_10 hb); replace HO_12 := (zN HO_12 hb); replace HB := (zs HB hb); (try clear hb))); try go_wp2_with (first | (go_at_call 20; (with_reducible refine (backseatlaw08_alive.calls kj21  false _ A29.out).mono ?_); rintro e w34 ⟨rfl, hb⟩; replace HO_10 := (zR HO_10 hb); replace HO_12 := (zN HO_12 hb); replace HB := (zs HB hb); (try clear hb))))
        go_ret
        exact ⟨ze, zb⟩
      ·replace c28 := Bool.eq_false_iff.mpr c28
       subst c28
       have H1 : ((flow_Flow.f kj21 t636 (wrap64 (1 + (Int.tmod (wrap64 ((Int.tmod a2 20) + 20)) 20)))).bind fun bt641 => (if bt641.2 = 0 then (backseatlaw08_FlowTurns.j3 kj21 t632 bt641.1 bt641.2 (decide ((bt641.1.length : Int) > 200))) else (backseatlaw08_FlowTurns.j3 kj21 t632 bt641.1 bt641.2 true))) = some r := by rw [if_neg (show ¬ (false = true) by decide)] at H; exact H
       clear H
       have H := H1
       clear H1
       replace H := Option.bind_eq_some_iff.mp H
       obtain ⟨⟨t641, t644⟩, A350, H⟩ := H
       replace H : (if t644 = 0 then (backseatlaw08_FlowTurns.j3 kj21 t632 t641 t644 (decide ((t641.length : Int) > 200))) else (backseatlaw08_FlowTurns.j3 kj21 t632 t641 t644 true)) = some r := H
       have A35 := Aside0.mk A350
       clear A350
       have HC36 := Aside0.mk H
       clear H
       obtain ⟨Ao37, co37, eo37⟩ := Kd.N_slice HO_12.out
       subst eo37
       go_upto_region 18 with (first | (go_at_call 26; (with_reducible refine (flow_Flow.calls kj21 _ _ t636 (wrap64 (1 + (Int.tmod (wrap64 ((Int.tmod a2 20) + 20)) 20))) t641 t644 _ ?side1 ?side2 A35.out).mono ?_); (case side1 => repeat (first | exact (Kd.N_reads' HO_12.out).2.2 | (with_reducible refine Kd.C_alloc ?_ _) | (with_reducible refine Kd.C_drewN ?_ _) | (with_reducible refine Kd.C_drew ?_))); (case side2 => exact (Kd.N_reads' HO_12.out).2.1); rintro e w38 ⟨v642, rfl, ho0, hb⟩; have n0_ := (zR HO_10 hb); have n1_ := Aside0.mk (Kd.N_elder' (zNa HO_12) (by first | exact Kd.N_base ho0 | exact Kd.S_base ho0) hb); have n2_ := Aside0.mk (Kd.N_lower (Kd.N_mono (ok' := fun k_ => some k_ ≠ (v634 : Value).ownBlock ∧ some k_ ≠ (.slice Ao37 t636.length co37 : Value).ownBlock) ho0 (fun k_ hk_ => ⟨(Kd.fresh' (Kd.R_lt (zRa HO_10)) k_ hk_), (Kd.fresh' (Kd.N_lt (zNa HO_12)) k_ hk_)⟩)) (below_size zb)); have n3_ := (zs HB hb); clear HO_10; clear HO_12; clear HB; have HO_10 := n0_; have HO_12 := n1_; have HO643 := n2_; have HB := n3_; clear n0_ n1_ n2_ n3_; (try clear hb); (try clear ho0)))
       repeat (go_quiet (first | (go_at_call 26; (with_reducible refine (flow_Flow.calls kj21 _ _ t636 (wrap64 (1 + (Int.tmod (wrap64 ((Int.tmod a2 20) + 20)) 20))) t641 t644 _ ?side1 ?side2 A35.out).mono ?_); (case side1 => repeat (first | exact (Kd.N_reads' HO_12.out).2.2 | (with_reducible refine Kd.C_alloc ?_ _) | (with_reducible refine Kd.C_drewN ?_ _) | (with_reducible refine Kd.C_drew ?_))); (case side2 => exact (Kd.N_reads' HO_12.out).2.1); rintro e w38 ⟨v642, rfl, ho0, hb⟩; have n0_ := (zR HO_10 hb); have n1_ := Aside0.mk (Kd.N_elder' (zNa HO_12) (by first | exact Kd.N_base ho0 | exact Kd.S_base ho0) hb); have n2_ := Aside0.mk (Kd.N_lower (Kd.N_mono (ok' := fun k_ => some k_ ≠ (v634 : Value).ownBlock ∧ some k_ ≠ (.slice Ao37 t636.length co37 : Value).ownBlock) ho0 (fun k_ hk_ => ⟨(Kd.fresh' (Kd.R_lt (zRa HO_10)) k_ hk_), (Kd.fresh' (Kd.N_lt (zNa HO_12)) k_ hk_)⟩)) (below_size zb)); have n3_ := (zs HB hb); clear HO_10; clear HO_12; clear HB; have HO_10 := n0_; have HO_12 := n1_; have HO643 := n2_; have HB := n3_; clear n0_ n1_ n2_ n3_; (try clear hb); (try clear ho0))); go_upto_region 18 with (first | (go_at_call 26; (with_reducible refine (flow_Flow.calls kj21 _ _ t636 (wrap64 (1 + (Int.tmod (wrap64 ((Int.tmod a2 20) + 20)) 20))) t641 t644 _ ?side1 ?side2 A35.out).mono ?_); (case side1 => repeat (first | exact (Kd.N_reads' HO_12.out).2.2 | (with_reducible refine Kd.C_alloc ?_ _) | (with_reducible refine Kd.C_drewN ?_ _) | (with_reducible refine Kd.C_drew ?_))); (case side2 => exact (Kd.N_reads' HO_12.out).2.1); rintro e w38 ⟨v642, rfl, ho0, hb⟩; have n0_ := (zR HO_10 hb); have n1_ := Aside0.mk (Kd.N_elder' (zNa HO_12) (by first | exact Kd.N_base ho0 | exact Kd.S_base ho0) hb); have n2_ := Aside0.mk (Kd.N_lower (Kd.N_mono (ok' := fun k_ => some k_ ≠ (v634 : Value).ownBlock ∧ some k_ ≠ (.slice Ao37 t636.length co37 : Value).ownBlock) ho0 (fun k_ hk_ => ⟨(Kd.fresh' (Kd.R_lt (zRa HO_10)) k_ hk_), (Kd.fresh' (Kd.N_lt (zNa HO_12)) k_ hk_)⟩)) (below_size zb)); have n3_ := (zs HB hb); clear HO_10; clear HO_12; clear HB; have HO_10 := n0_; have HO_12 := n1_; have HO643 := n2_; have HB := n3_; clear n0_ n1_ n2_ n3_; (try clear hb); (try clear ho0))))
       (try simp only [Act.put, List.setIfInBounds_toArray, List.set_cons_zero, List.set_cons_succ])
       go_cut [96] (fun v96 wc => ∃ (kq : Nat) (x96_35 : Bool), v96 = .bool x96_35 ∧ Aside0 (backseatlaw08_FlowTurns.j3 kq t632 t641 t644 x96_35 = some r) ∧ Aside0 (kq ≤ kj21) ∧ Aside0 (Kd.R Kd.string 9 wc w.heap.size (fun _ => True) v634 t632) ∧ Aside0 (Kd.N k38 38 wc w.heap.size (fun k_ => some k_ ≠ (v634 : Value).ownBlock) v642 t641) ∧ Aside0 (Below w.heap.size w wc))
       case first =>
        have H := HC36.out
        clear HC36
        by_cases c39 : t644 = 0
        ·rw [if_pos c39] at H
         have c39b0 : (t644 == 0) = true := beq_iff_eq.mpr c39
         have c39b1 : (t644 != 0) = false := bne_eq_false_iff_eq.mpr c39
         clear c39
         (first | rw [c39b0] | (simp only [i64_w, i32_w]; rw [c39b0]) | skip)
         have H' := Aside0.mk H
         clear H
         obtain ⟨Ao40, co40, eo40⟩ := Kd.N_slice HO643.out
         subst eo40
         go_wp2
         repeat (go_quiet (fail); try go_wp2)
         go_meet
         case rel => exact ⟨_, (decide ((t641.length : Int) > 200)), zf, H', ⟨by have := HK1.out; have := HJ21.out; first | omega | exact Nat.le_refl _⟩, ⟨by (with_reducible repeat (first | apply Kd.R_alloc | apply Kd.R_drewN | apply Kd.R_drew)); exact HO_10.out⟩, ⟨by (with_reducible repeat (first | apply Kd.N_alloc | apply Kd.N_drewN | apply Kd.N_drew)); exact Kd.N_mono HO643.out (fun _ hk => hk.1)⟩, ⟨zb⟩⟩
        ·rw [if_neg c39] at H
         have c39b0 : (t644 == 0) = false := beq_eq_false_iff_ne.mpr c39
         have c39b1 : (t644 != 0) = true := bne_iff_ne.mpr c39
         (first | rw [c39b0] | (simp only [i64_w, i32_w]; rw [c39b0]) | skip)
         have H' := Aside0.mk H
         clear H
         go_wp2
         repeat (go_quiet (fail); try go_wp2)
         go_meet
         case rel => exact ⟨_, (true), zf, H', ⟨by have := HK1.out; have := HJ21.out; first | omega | exact Nat.le_refl _⟩, ⟨by (with_reducible repeat (first | apply Kd.R_alloc | apply Kd.R_drewN | apply Kd.R_drew)); exact HO_10.out⟩, ⟨by (with_reducible repeat (first | apply Kd.N_alloc | apply Kd.N_drewN | apply Kd.N_drew)); exact Kd.N_mono HO643.out (fun _ hk => hk.1)⟩, ⟨zb⟩⟩
       case rest =>
        clear HC36
        try clear c7
        try clear c7b0
        try clear c28
        obtain ⟨kq, x96_35, rfl, HA, HJ35, HO_10, HO_14, HB⟩ := hcut
        cases kq with
        | zero => exact absurd HA.out (by simp [backseatlaw08_FlowTurns.j3])
        | succ kj35 =>
         have H := HA.out
         clear HA
         simp only [backseatlaw08_FlowTurns.j3] at H
         by_cases c41 : x96_35 = true
         ·subst c41
          have H1 : ((backseatlaw08_alive.f kj35).bind fun t645 => (if t645 = true then (some (t644 == 0)) else (some false))) = some r := by rw [if_pos rfl] at H; exact H
          clear H
          have H := H1
          clear H1
          replace H := Option.bind_eq_some_iff.mp H
          obtain ⟨t645, A420, H⟩ := H
          replace H : (if t645 = true then (some (t644 == 0)) else (some false)) = some r := H
          have A42 := Aside0.mk A420
          clear A420
          by_cases c43 : t645 = true
          ·subst c43
           have H1 : (some (t644 == 0)) = some r := by rw [if_pos rfl] at H; exact H
           clear H
           have H := H1
           clear H1
           obtain rfl := Option.some.inj H
           go_wp2_with (first | (go_at_call 20; (with_reducible refine (backseatlaw08_alive.calls kj35  true _ A42.out).mono ?_); rintro e w44 ⟨rfl, hb⟩; replace HO_10 := (zR HO_10 hb); replace HO_14 := (zN HO_14 hb); replace HB := (zs HB hb); (try clear hb)))
           repeat (go_quiet (first | (go_at_call 20; (with_reducible refine (backseatlaw08_alive.calls kj35  true _ A42.out).mono ?_); rintro e w44 ⟨rfl, hb⟩; replace HO_10 := (zR HO_10 hb); replace HO_14 := (zN HO_14 hb); replace HB := (zs HB hb); (try clear hb))); try go_wp2_with (first | (go_at_call 20; (with_reducible refine (backseatlaw08_alive.calls kj35  true _ A42.out).mono ?_); rintro e w44 ⟨rfl, hb⟩; replace HO_10 := (zR HO_10 hb); replace HO_14 := (zN HO_14 hb); replace HB := (zs HB hb); (try clear hb))))
           go_ret
           exact ⟨ze, zb⟩
          ·replace c43 := Bool.eq_false_iff.mpr c43
           subst c43
           have H1 : (some false) = some r := by rw [if_neg (show ¬ (false = true) by decide)] at H; exact H
           clear H
           have H := H1
           clear H1
           obtain rfl := Option.some.inj H
           go_wp2_with (first | (go_at_call 20; (with_reducible refine (backseatlaw08_alive.calls kj35  false _ A42.out).mono ?_); rintro e w45 ⟨rfl, hb⟩; replace HO_10 := (zR HO_10 hb); replace HO_14 := (zN HO_14 hb); replace HB := (zs HB hb); (try clear hb)))
           repeat (go_quiet (first | (go_at_call 20; (with_reducible refine (backseatlaw08_alive.calls kj35  false _ A42.out).mono ?_); rintro e w45 ⟨rfl, hb⟩; replace HO_10 := (zR HO_10 hb); replace HO_14 := (zN HO_14 hb); replace HB := (zs HB hb); (try clear hb))); try go_wp2_with (first | (go_at_call 20; (with_reducible refine (backseatlaw08_alive.calls kj35  false _ A42.out).mono ?_); rintro e w45 ⟨rfl, hb⟩; replace HO_10 := (zR HO_10 hb); replace HO_14 := (zN HO_14 hb); replace HB := (zs HB hb); (try clear hb))))
           go_ret
           exact ⟨ze, zb⟩
         ·replace c41 := Bool.eq_false_iff.mpr c41
          subst c41
          have H1 : ((flow_Letters.f kj35 t641).bind fun bt646 => (if bt646.2 = 0 then (if (t632.length : Int) = (bt646.1.length : Int) then ((backseatlaw08_alive.f kj35).bind fun t650 => (backseatlaw08_FlowTurns.j4 kj35 t632 bt646.1 (!t650))) else (backseatlaw08_FlowTurns.j4 kj35 t632 bt646.1 true)) else (backseatlaw08_FlowTurns.j4 kj35 t632 bt646.1 true))) = some r := by rw [if_neg (show ¬ (false = true) by decide)] at H; exact H
          clear H
          have H := H1
          clear H1
          replace H := Option.bind_eq_some_iff.mp H
          obtain ⟨⟨t646, t647⟩, A460, H⟩ := H
          replace H : (if t647 = 0 then (if (t632.length : Int) = (t646.length : Int) then ((backseatlaw08_alive.f kj35).bind fun t650 => (backseatlaw08_FlowTurns.j4 kj35 t632 t646 (!t650))) else (backseatlaw08_FlowTurns.j4 kj35 t632 t646 true)) else (backseatlaw08_FlowTurns.j4 kj35 t632 t646 true)) = some r := H
          have A46 := Aside0.mk A460
          clear A460
          have HC47 := Aside0.mk H
          clear H
          obtain ⟨Ao48, co48, eo48⟩ := Kd.N_slice HO_14.out
          subst eo48
          go_upto_region 21 with (first | (go_at_call 19; (with_reducible refine (flow_Letters.calls kj35 _ _ t641 t646 t647 _ ?side1 ?side2 A46.out).mono ?_); (case side1 => repeat (first | exact (Kd.N_reads' HO_14.out).2.2 | (with_reducible refine Kd.C_alloc ?_ _) | (with_reducible refine Kd.C_drewN ?_ _) | (with_reducible refine Kd.C_drew ?_))); (case side2 => exact (Kd.N_reads' HO_14.out).2.1); rintro e w49 ⟨v648, rfl, ho0, hb⟩; have n0_ := Aside0.mk (Kd.R_elder' (zRa HO_10) (Kd.R_base ho0) hb); have n1_ := Aside0.mk (Kd.N_elder' (zNa HO_14) (Kd.R_base ho0) hb); have n2_ := Aside0.mk (Kd.R_lower (Kd.R_new' ho0 (Kd.R_lt (zRa HO_10))) (below_size zb)); have n3_ := (zs HB hb); clear HO_10; clear HO_14; clear HB; have HO_10 := n0_; have HO_14 := n1_; have HO649 := n2_; have HB := n3_; clear n0_ n1_ n2_ n3_; (try clear hb); (try clear ho0)))
          repeat (go_quiet (first | (go_at_call 19; (with_reducible refine (flow_Letters.calls kj35 _ _ t641 t646 t647 _ ?side1 ?side2 A46.out).mono ?_); (case side1 => repeat (first | exact (Kd.N_reads' HO_14.out).2.2 | (with_reducible refine Kd.C_alloc ?_ _) | (with_reducible refine Kd.C_drewN ?_ _) | (with_reducible refine Kd.C_drew ?_))); (case side2 => exact (Kd.N_reads' HO_14.out).2.1); rintro e w49 ⟨v648, rfl, ho0, hb⟩; have n0_ := Aside0.mk (Kd.R_elder' (zRa HO_10) (Kd.R_base ho0) hb); have n1_ := Aside0.mk (Kd.N_elder' (zNa HO_14) (Kd.R_base ho0) hb); have n2_ := Aside0.mk (Kd.R_lower (Kd.R_new' ho0 (Kd.R_lt (zRa HO_10))) (below_size zb)); have n3_ := (zs HB hb); clear HO_10; clear HO_14; clear HB; have HO_10 := n0_; have HO_14 := n1_; have HO649 := n2_; have HB := n3_; clear n0_ n1_ n2_ n3_; (try clear hb); (try clear ho0))); go_upto_region 21 with (first | (go_at_call 19; (with_reducible refine (flow_Letters.calls kj35 _ _ t641 t646 t647 _ ?side1 ?side2 A46.out).mono ?_); (case side1 => repeat (first | exact (Kd.N_reads' HO_14.out).2.2 | (with_reducible refine Kd.C_alloc ?_ _) | (with_reducible refine Kd.C_drewN ?_ _) | (with_reducible refine Kd.C_drew ?_))); (case side2 => exact (Kd.N_reads' HO_14.out).2.1); rintro e w49 ⟨v648, rfl, ho0, hb⟩; have n0_ := Aside0.mk (Kd.R_elder' (zRa HO_10) (Kd.R_base ho0) hb); have n1_ := Aside0.mk (Kd.N_elder' (zNa HO_14) (Kd.R_base ho0) hb); have n2_ := Aside0.mk (Kd.R_lower (Kd.R_new' ho0 (Kd.R_lt (zRa HO_10))) (below_size zb)); have n3_ := (zs HB hb); clear HO_10; clear HO_14; clear HB; have HO_10 := n0_; have HO_14 := n1_; have HO649 := n2_; have HB := n3_; clear n0_ n1_ n2_ n3_; (try clear hb); (try clear ho0))))
          (try simp only [Act.put, List.setIfInBounds_toArray, List.set_cons_zero, List.set_cons_succ])
          go_cut [119] (fun v119 wc => ∃ (kq : Nat) (x119_46 : Bool), v119 = .bool x119_46 ∧ Aside0 (backseatlaw08_FlowTurns.j4 kq t632 t646 x119_46 = some r) ∧ Aside0 (kq ≤ kj35) ∧ Aside0 (Kd.R Kd.string 9 wc w.heap.size (fun k_ => some k_ ≠ (v648 : Value).ownBlock) v634 t632) ∧ Aside0 (Kd.R Kd.string 9 wc w.heap.size (fun k_ => some k_ ≠ (v634 : Value).ownBlock) v648 t646) ∧ Aside0 (Below w.heap.size w wc))
          case first =>
           have H := HC47.out
           clear HC47
           by_cases c50 : t647 = 0
           ·rw [if_pos c50] at H
            have c50b0 : (t647 == 0) = true := beq_iff_eq.mpr c50
            have c50b1 : (t647 != 0) = false := bne_eq_false_iff_eq.mpr c50
            clear c50
            (first | rw [c50b0] | (simp only [i64_w, i32_w]; rw [c50b0]) | skip)
            by_cases c51 : (t632.length : Int) = (t646.length : Int)
            ·rw [if_pos c51] at H
             have c51b0 : ((t632.length : Int) == (t646.length : Int)) = true := beq_iff_eq.mpr c51
             have c51b1 : ((t632.length : Int) != (t646.length : Int)) = false := bne_eq_false_iff_eq.mpr c51
             have c51b2 : (t632.length == t646.length) = true := by first | simpa using c51 | (simp at c51 ⊢; omega)
             clear c51
             replace H := Option.bind_eq_some_iff.mp H
             obtain ⟨t650, A520, H⟩ := H
             replace H : (backseatlaw08_FlowTurns.j4 kj35 t632 t646 (!t650)) = some r := H
             have A52 := Aside0.mk A520
             clear A520
             have H' := Aside0.mk H
             clear H
             obtain ⟨Ao53, co53, eo53⟩ := Kd.R_slice HO_10.out
             subst eo53
             obtain ⟨Ao54, co54, eo54⟩ := Kd.R_slice HO649.out
             subst eo54
             go_wp2_with (first | (go_at_call 20; (with_reducible refine (backseatlaw08_alive.calls kj35  t650 _ A52.out).mono ?_); rintro e w55 ⟨rfl, hb⟩; replace HO_10 := (zR HO_10 hb); replace HO_14 := (zN HO_14 hb); replace HO649 := (zR HO649 hb); replace HB := (zs HB hb); (try clear hb)))
             repeat (go_quiet (first | (go_at_call 20; (with_reducible refine (backseatlaw08_alive.calls kj35  t650 _ A52.out).mono ?_); rintro e w55 ⟨rfl, hb⟩; replace HO_10 := (zR HO_10 hb); replace HO_14 := (zN HO_14 hb); replace HO649 := (zR HO649 hb); replace HB := (zs HB hb); (try clear hb))); try go_wp2_with (first | (go_at_call 20; (with_reducible refine (backseatlaw08_alive.calls kj35  t650 _ A52.out).mono ?_); rintro e w55 ⟨rfl, hb⟩; replace HO_10 := (zR HO_10 hb); replace HO_14 := (zN HO_14 hb); replace HO649 := (zR HO649 hb); replace HB := (zs HB hb); (try clear hb))))
             go_meet
             case rel => exact ⟨_, (!t650), zf, H', ⟨by have := HK1.out; have := HJ21.out; have := HJ35.out; first | omega | exact Nat.le_refl _⟩, ⟨by (with_reducible repeat (first | apply Kd.R_alloc | apply Kd.R_drewN | apply Kd.R_drew)); exact Kd.R_mono HO_10.out (fun _ hk => hk.2)⟩, ⟨by (with_reducible repeat (first | apply Kd.R_alloc | apply Kd.R_drewN | apply Kd.R_drew)); exact Kd.R_mono HO649.out (fun _ hk => hk.2)⟩, ⟨zb⟩⟩
            ·rw [if_neg c51] at H
             have c51b0 : ((t632.length : Int) == (t646.length : Int)) = false := beq_eq_false_iff_ne.mpr c51
             have c51b1 : ((t632.length : Int) != (t646.length : Int)) = true := bne_iff_ne.mpr c51
             have c51b2 : (t632.length == t646.length) = false := by first | simpa using c51 | (simp at c51 ⊢; omega)
             have H' := Aside0.mk H
             clear H
             obtain ⟨Ao56, co56, eo56⟩ := Kd.R_slice HO_10.out
             subst eo56
             obtain ⟨Ao57, co57, eo57⟩ := Kd.R_slice HO649.out
             subst eo57
             go_wp2
             repeat (go_quiet (fail); try go_wp2)
             go_meet
             case rel => exact ⟨_, (true), zf, H', ⟨by have := HK1.out; have := HJ21.out; have := HJ35.out; first | omega | exact Nat.le_refl _⟩, ⟨by (with_reducible repeat (first | apply Kd.R_alloc | apply Kd.R_drewN | apply Kd.R_drew)); exact Kd.R_mono HO_10.out (fun _ hk => hk.2)⟩, ⟨by (with_reducible repeat (first | apply Kd.R_alloc | apply Kd.R_drewN | apply Kd.R_drew)); exact Kd.R_mono HO649.out (fun _ hk => hk.2)⟩, ⟨zb⟩⟩
           ·rw [if_neg c50] at H
            have c50b0 : (t647 == 0) = false := beq_eq_false_iff_ne.mpr c50
            have c50b1 : (t647 != 0) = true := bne_iff_ne.mpr c50
            (first | rw [c50b0] | (simp only [i64_w, i32_w]; rw [c50b0]) | skip)
            have H' := Aside0.mk H
            clear H
            go_wp2
            repeat (go_quiet (fail); try go_wp2)
            go_meet
            case rel => exact ⟨_, (true), zf, H', ⟨by have := HK1.out; have := HJ21.out; have := HJ35.out; first | omega | exact Nat.le_refl _⟩, ⟨by (with_reducible repeat (first | apply Kd.R_alloc | apply Kd.R_drewN | apply Kd.R_drew)); exact Kd.R_mono HO_10.out (fun _ hk => hk.2)⟩, ⟨by (with_reducible repeat (first | apply Kd.R_alloc | apply Kd.R_drewN | apply Kd.R_drew)); exact Kd.R_mono HO649.out (fun _ hk => hk.2)⟩, ⟨zb⟩⟩
          case rest =>
           clear HC47
           try clear c7
           try clear c7b0
           try clear c28
           try clear c41
           obtain ⟨kq, x119_46, rfl, HA, HJ46, HO_10, HO_16, HB⟩ := hcut
           cases kq with
           | zero => exact absurd HA.out (by simp [backseatlaw08_FlowTurns.j4])
           | succ kj46 =>
            have H := HA.out
            clear HA
            simp only [backseatlaw08_FlowTurns.j4] at H
            by_cases c58 : x119_46 = true
            ·subst c58
             have H1 : (some false) = some r := by rw [if_pos rfl] at H; exact H
             clear H
             have H := H1
             clear H1
             obtain rfl := Option.some.inj H
             go_wp2
             repeat (go_quiet (fail); try go_wp2)
             go_ret
             exact ⟨ze, zb⟩
            ·replace c58 := Bool.eq_false_iff.mpr c58
             subst c58
             have H1 : (backseatlaw08_FlowTurns.l2 kj46 t632 t646 (t632.length : Int) 0) = some r := by rw [if_neg (show ¬ (false = true) by decide)] at H; exact H
             clear H
             have H := H1
             clear H1
             have H' := Aside0.mk H
             clear H
             obtain ⟨Ao59, co59, eo59⟩ := Kd.R_slice HO_10.out
             subst eo59
             go_wp2
             repeat (go_quiet (fail); try go_wp2)
             go_loopg [122] kj46 (fun kq v122 w' => ∃ (x122_5 : Int), v122 = .int .i64 x122_5 ∧ Aside0 (backseatlaw08_FlowTurns.l2 kq t632 t646 (t632.length : Int) x122_5 = some r) ∧ Aside0 (kq ≤ kj46) ∧ Aside0 (Kd.R Kd.string 9 w' w.heap.size (fun k_ => some k_ ≠ (v648 : Value).ownBlock) (.slice Ao59 t632.length co59) t632) ∧ Aside0 (Kd.R Kd.string 9 w' w.heap.size (fun k_ => some k_ ≠ ((.slice Ao59 t632.length co59) : Value).ownBlock) v648 t646) ∧ Aside0 (Below w.heap.size w w'))
             case atStart => exact ⟨(0), zf, H', ⟨Nat.le_refl _⟩, ⟨by (with_reducible repeat (first | apply Kd.R_alloc | apply Kd.R_drewN | apply Kd.R_drew)); exact HO_10.out⟩, ⟨by (with_reducible repeat (first | apply Kd.R_alloc | apply Kd.R_drewN | apply Kd.R_drew)); exact HO_16.out⟩, ⟨zb⟩⟩
             case round =>
              clear H'
              try clear c7
              try clear c7b0
              try clear c28
              try clear c41
              try clear c58
              obtain ⟨x122_5, rfl, HA, HK5, HO_10, HO_16, HB⟩ := hrel
              cases gk with
              | zero => exact absurd HA.out (by simp [backseatlaw08_FlowTurns.l2])
              | succ k5 =>
               have H := HA.out
               clear HA
               simp only [backseatlaw08_FlowTurns.l2] at H
               by_cases c60 : x122_5 < (t632.length : Int)
               ·rw [if_pos c60] at H
                have c60b0 : decide (x122_5 < (t632.length : Int)) = true := decide_eq_true c60
                clear c60
                by_cases c61 : 0 ≤ x122_5
                ·rw [if_pos c61] at H
                 have c61b0 : decide (0 ≤ x122_5) = true := decide_eq_true c61
                 clear c61
                 by_cases c62 : x122_5 < (t632.length : Int)
                 ·rw [if_pos c62] at H
                  have c62b0 : decide (x122_5 < (t632.length : Int)) = true := decide_eq_true c62
                  clear c62
                  by_cases c63 : x122_5 < (t646.length : Int)
                  ·rw [if_pos c63] at H
                   have c63b0 : decide (x122_5 < (t646.length : Int)) = true := decide_eq_true c63
                   clear c63
                   by_cases c64 : (rdOf ByteArray.empty t632 x122_5).toList = (rdOf ByteArray.empty t646 x122_5).toList
                   ·rw [if_pos c64] at H
                    have c64b0 : ((rdOf ByteArray.empty t632 x122_5).toList == (rdOf ByteArray.empty t646 x122_5).toList) = true := beq_iff_eq.mpr c64
                    have c64b1 : ((rdOf ByteArray.empty t632 x122_5).toList != (rdOf ByteArray.empty t646 x122_5).toList) = false := bne_eq_false_iff_eq.mpr c64
                    clear c64
                    have H' := Aside0.mk H
                    clear H
                    have p651 : 0 ≤ (x122_5 : Int) := of_decide_eq_true za
                    have q651 : x122_5 < (t632.length : Int) := of_decide_eq_true za
                    obtain ⟨ad651, e651, hx651_0⟩ := Kd.at_string (Kd.R_reads' HO_10.out).2.2 x122_5 p651 q651
                    cases e651
                    replace p651 := eq_true p651
                    replace q651 := eq_true q651
                    obtain ⟨Ao65, co65, eo65⟩ := Kd.R_slice HO_16.out
                    subst eo65
                    have p652 : 0 ≤ (x122_5 : Int) := of_decide_eq_true za
                    have q652 : x122_5 < (t646.length : Int) := of_decide_eq_true za
                    obtain ⟨ad652, e652, hx652_0⟩ := Kd.at_string (Kd.R_reads' HO_16.out).2.2 x122_5 p652 q652
                    cases e652
                    replace p652 := eq_true p652
                    replace q652 := eq_true q652
                    go_wp2
                    repeat (go_quiet (fail); try go_wp2)
                    go_roundg k5
                    case measure => have := HK1.out; have := HJ21.out; have := HJ35.out; have := HJ46.out; have := HK5.out; omega
                    case rel => exact ⟨(wrap64 (x122_5 + 1)), zf, H', ⟨by have := HK1.out; have := HJ21.out; have := HJ35.out; have := HJ46.out; have := HK5.out; omega⟩, ⟨by (with_reducible repeat (first | apply Kd.R_alloc | apply Kd.R_drewN | apply Kd.R_drew)); exact HO_10.out⟩, ⟨by (with_reducible repeat (first | apply Kd.R_alloc | apply Kd.R_drewN | apply Kd.R_drew)); exact HO_16.out⟩, ⟨zb⟩⟩
                   ·rw [if_neg c64] at H
                    have c64b0 : ((rdOf ByteArray.empty t632 x122_5).toList == (rdOf ByteArray.empty t646 x122_5).toList) = false := beq_eq_false_iff_ne.mpr c64
                    have c64b1 : ((rdOf ByteArray.empty t632 x122_5).toList != (rdOf ByteArray.empty t646 x122_5).toList) = true := bne_iff_ne.mpr c64
                    obtain rfl := Option.some.inj H
                    have p651 : 0 ≤ (x122_5 : Int) := of_decide_eq_true za
                    have q651 : x122_5 < (t632.length : Int) := of_decide_eq_true za
                    obtain ⟨ad651, e651, hx651_0⟩ := Kd.at_string (Kd.R_reads' HO_10.out).2.2 x122_5 p651 q651
                    cases e651
                    replace p651 := eq_true p651
                    replace q651 := eq_true q651
                    obtain ⟨Ao66, co66, eo66⟩ := Kd.R_slice HO_16.out
                    subst eo66
                    have p652 : 0 ≤ (x122_5 : Int) := of_decide_eq_true za
                    have q652 : x122_5 < (t646.length : Int) := of_decide_eq_true za
                    obtain ⟨ad652, e652, hx652_0⟩ := Kd.at_string (Kd.R_reads' HO_16.out).2.2 x122_5 p652 q652
                    cases e652
                    replace p652 := eq_true p652
                    replace q652 := eq_true q652
                    go_wp2
                    repeat (go_quiet (fail); try go_wp2)
                    go_ret
                    exact ⟨ze, zb⟩
                  ·rw [if_neg c63] at H
                   exact absurd H (by simp)
                 ·rw [if_neg c62] at H
                  exact absurd H (by simp)
                ·rw [if_neg c61] at H
                 exact absurd H (by simp)
               ·rw [if_neg c60] at H
                have c60b0 : decide (x122_5 < (t632.length : Int)) = false := decide_eq_false c60
                clear c60
                obtain rfl := Option.some.inj H
                go_wp2
                repeat (go_quiet (fail); try go_wp2)
                go_ret
                exact ⟨ze, zb⟩
end Go.Proofs.YtckkdaehmccjlaaDoor.P
namespace Go.Proofs.YtckkdaehmccjlaaDoor.P
def Ev {α : Type} (f : Nat → Option α) (v : α) : Prop := ∃ K, ∀ k, K ≤ k → f k = some v
section
variable {α β : Type} {f : Nat → Option α} {v : α}
theorem Ev.of {e : Option α} (h : e = some v) : Ev (fun _ => e) v := ⟨0, fun _ _ => h⟩
theorem Ev.ret (v : α) : Ev (fun _ => some v) v := ⟨0, fun _ _ => rfl⟩
theorem Ev.bind {g : Nat → α → Option β} {b : β} (h : Ev f v) (hg : Ev (fun k => g k v) b) : Ev (fun k => (f k).bind (g k)) b := by
 obtain ⟨K, h⟩ := h
 obtain ⟨L, hg⟩ := hg
 exact ⟨max K L, fun k hk => by show (f k).bind (g k) = _; rw [h k (by omega), Option.bind_some]; exact hg k (by omega)⟩
theorem Ev.succ (h : Ev (fun k => f (k + 1)) v) : Ev f v := by
 obtain ⟨K, h⟩ := h
 refine ⟨K + 1, fun k hk => ?_⟩
 have := h (k - 1) (by omega)
 simpa [show k - 1 + 1 = k by omega] using this
theorem Ev.pos {c : Prop} [Decidable c] {g : Nat → Option α} (h : c) (hf : Ev f v) : Ev (fun k => if c then f k else g k) v := by
 obtain ⟨K, hf⟩ := hf; exact ⟨K, fun k hk => by show (if c then f k else g k) = _; rw [if_pos h]; exact hf k hk⟩
theorem Ev.neg {c : Prop} [Decidable c] {g : Nat → Option α} (h : ¬ c) (hf : Ev g v) : Ev (fun k => if c then f k else g k) v := by
 obtain ⟨K, hf⟩ := hf; exact ⟨K, fun k hk => by show (if c then f k else g k) = _; rw [if_neg h]; exact hf k hk⟩
theorem Ev.same {w : α} (h : Ev f v) (h' : Ev f w) : v = w := by
 obtain ⟨K, h⟩ := h
 obtain ⟨L, h'⟩ := h'
 exact Option.some.inj ((h (max K L) (by omega)).symm.trans (h' (max K L) (by omega)))
theorem Ev.ex (h : Ev f v) : ∃ k, f k = some v := let ⟨K, h⟩ := h; ⟨K, h K (Nat.le_refl _)⟩
end
end Go.Proofs.YtckkdaehmccjlaaDoor.P
namespace Go.Proofs.YtckkdaehmccjlaaDoor.P
open Go.RowKit Go.Proofs.YtckkdaehmccjlaaDoorW.PrintWords Go.Proofs.YtckkdaehmccjlaaDoorW.PrintLast Go.Proofs.YtckkdaehmccjlaaDoorW.PrintMore
set_option linter.unusedVariables false
set_option linter.unusedSimpArgs false
def RowB (W : World) (base : Nat) (v : Value) (xs : List Int) : Prop :=
 ∃ g cap, v = .slice (some ⟨g, 0, none⟩) xs.length cap ∧ base ≤ g ∧ g < W.heap.size ∧ xs.length ≤ cap ∧ cap ≤ 9223372036854775807 ∧
  (∀ j u, (nums .u8 xs)[j]? = some u → W.cell? ⟨g, j, none⟩ = some u) ∧ (∀ j, xs.length ≤ j → j < cap → (W.cell? ⟨g, j, none⟩).isSome = true ∧ W.frozen? ⟨g, j, none⟩ = false)
theorem RowB.kept {W W' : World} {base : Nat} {v : Value} {xs : List Int} {row : Option Nat} (h : RowB W base v xs) (hg : W.grownBy W' row) (hne : v.ownBlock ≠ row) : RowB W' base v xs := by
 obtain ⟨g, cap, rfl, hb, hlt, hl, hm, hc, hs⟩ := h
 have e : W'.heap[g]? = W.heap[g]? := hg.block g hlt hne
 refine ⟨g, cap, rfl, hb, Nat.lt_of_lt_of_le hlt hg.size, hl, hm, fun j u hj => ?_, fun j h1 h2 => ?_⟩
 ·have := hc j u hj; unfold World.cell? at this ⊢; rw [e]; exact this
 ·have := hs j h1 h2; unfold World.cell? World.frozen? at this ⊢; rw [e]; exact this
theorem RowB.below {W W' : World} {base : Nat} {v : Value} {xs : List Int} (h : RowB W base v xs) (hb : Below W.heap.size W W') : RowB W' base v xs :=
 h.kept (grown_of_below hb none) (by obtain ⟨g, cap, rfl, _⟩ := h; simp [Value.ownBlock])
theorem RowB.lt {W : World} {base : Nat} {v : Value} {xs : List Int} (h : RowB W base v xs) : ∀ k, v.ownBlock = some k → base ≤ k ∧ k < W.heap.size := by
 obtain ⟨g, cap, rfl, hb, hlt, _⟩ := h
 intro k hk
 have : g = k := by simpa [Value.ownBlock] using hk
 subst this
 exact ⟨hb, hlt⟩
theorem RowB.form {W : World} {base : Nat} {v : Value} {xs : List Int} (h : RowB W base v xs) : ∃ g cap, v = .slice (some ⟨g, 0, none⟩) xs.length cap := by
 obtain ⟨g, cap, e, _⟩ := h
 exact ⟨g, cap, e⟩
theorem RowB.made (W : World) (e : TypeId) (s : ByteArray) (base : Nat) (hb : base ≤ W.heap.size) (hs : s.size ≤ 9223372036854775807) : RowB (Lib.bytesWorld W e s) base (.slice (some ⟨W.heap.size, 0, none⟩) s.size (grownCap W s.size 0 e)) (bytesOf s) := by
 have hn := Lib.bytesWorld_at_new W e s
 have hcs : (Lib.bytesCells W e s).size = grownCap W s.size 0 e := by
  have := grownCap_ge W s.size 0 e
  simp [Lib.bytesCells]
  have e1 : s.data.size = s.size := rfl
  omega
 have hlt : W.heap.size < (Lib.bytesWorld W e s).heap.size := by rw [Lib.bytesWorld_size]; omega
 refine ⟨W.heap.size, _, by rw [bytesOf_length], hb, hlt, by rw [bytesOf_length]; exact grownCap_ge _ _ _ _, grownCap_le_maxLen _ _ _ _ hs, fun j u hj => ?_, fun j h1 h2 => ?_⟩
 ·have hl : j < (bytesOf s).length := by
   have := (List.getElem?_eq_some_iff.1 hj).1
   simpa [nums] using this
  have hr := bytes_reads W e s hs
  obtain ⟨ad, ha, hc⟩ := hr.at_ j (by omega) (by rw [bytesOf_length] at hl; omega)
  cases ha
  rw [add_plain, Int.toNat_natCast] at hc
  rw [hc]
  simp only [nums, List.getElem?_map, Option.map_eq_some_iff] at hj
  obtain ⟨x, hx, rfl⟩ := hj
  unfold rd
  rw [List.getD_eq_getElem?_getD, Int.toNat_natCast, hx]; rfl
 ·constructor
  ·simp only [World.cell?, hn]
   rw [Array.getElem?_eq_getElem (by rw [hcs]; exact h2)]; rfl
  ·simp only [World.frozen?, hn]
   simp; omega
section
variable {P : Program} {ops : Array Oper} {rest : List Oper} {o : Oper} {a : Act} {Q : Exit → Act → World → Prop}
theorem RowB.append {w : World} (hgd : o.guard = none) (s x : Operand) (t e : TypeId)
  (ho : o.op = .call { callee := .builtin .append, args := #[s, x], argTypes := #[t, t] })
  (ht : P.underlying t = some (.slice e)) (hinfo : (P.info? e).map (fun i => (i.zero, i.size, i.bytes)) = some (some (.int .u8 0), 1, 1))
  (base : Nat) (v : Value) (xs : List Int) (hs : a.eval s = v) (hown : RowB w base v xs) (c : Int) (g2 : Nat) (hne : v.ownBlock ≠ some g2) (hx : a.eval x = .slice (some ⟨g2, 0, none⟩) 1 1) (hc : w.cell? ⟨g2, 0, none⟩ = some (.int .u8 c))
  (hl : xs.length < 1000) (hbase : base ≤ w.heap.size)
  (h : ∀ v' w', RowB w' base v' (xs ++ [c]) → w.grownBy w' v.ownBlock → (v'.ownBlock = v.ownBlock ∨ ∃ b, v'.ownBlock = some b ∧ w.heap.size ≤ b) → wpList P ops Q rest (a.put o.dst v') w') : wpList P ops Q (o :: rest) a w := by
 obtain ⟨i0, hi, hz0, hz1, hz2⟩ := info_parts hinfo
 obtain ⟨g, cap, rfl, hb, hlt, hlc, hm, hcells, hroom⟩ := hown
 refine wpList_append_arg w hgd s x t ho e i0 (.int .u8 0) 1 1 ht hi hz0 hz1 hz2 rfl (by decide) g 0 xs.length cap (nums .u8 xs) hs (by simp [nums]) (fun j u hj => by rw [Nat.zero_add]; exact hcells j u hj)
  ⟨g2, 0, none⟩ 1 1 [.int .u8 c] hx rfl (fun j u hj => ?_) (fun u hu => ?_) (fun hr j hj => ?_) (by unfold maxLen; omega) (by omega) (fun hr => ?_) (fun hr v' w' hown' hgrow => ?_)
 ·match j, hj with
  | 0, hj => simp at hj; subst hj; rw [add_plain]; exact hc
 ·simp at hu; subst hu; rfl
 ·simp at hj; subst hj
  simp only [Nat.zero_add, Nat.mul_one, Nat.add_zero]
  exact hroom xs.length (Nat.le_refl _) (by omega)
 ·simp only [Nat.zero_add, Nat.mul_one]
  have hsc : w.setCells g xs.length [.int .u8 c] = w.setCell ⟨g, xs.length, none⟩ (.int .u8 c) := rfl
  rw [hsc]
  obtain ⟨hi1, hf1⟩ := hroom xs.length (Nat.le_refl _) (by omega)
  refine h _ _ ⟨g, cap, by rw [List.length_append]; rfl, hb, by show g < (w.heap.modify _ _).size; rw [Array.size_modify]; exact hlt, by simp; omega, hm, fun j u hj => ?_, fun j h1 h2 => ?_⟩ ⟨rfl, rfl, rfl, by show w.heap.size ≤ (w.heap.modify _ _).size; rw [Array.size_modify]; exact Nat.le_refl _, fun k _ hk => Below.heap_setCell _ _ _ _ (fun e => hk (by simp [Value.ownBlock, e]))⟩ (.inl rfl)
  ·rw [nums_append] at hj
   by_cases hjx : j < xs.length
   ·rw [List.getElem?_append_left (by simpa [nums] using hjx)] at hj
    rw [World.cell?_setCell_other _ _ _ _ (by intro e; injection e with _ e2 _; omega)]
    exact hcells j u hj
   ·have hj0 : j = xs.length := by
     have := (List.getElem?_eq_some_iff.1 hj).1
     simp [nums] at this; omega
    subst hj0
    rw [List.getElem?_append_right (by simp [nums])] at hj
    simp [nums] at hj
    subst hj
    exact World.cell?_setCell_same' _ _ _ hi1
  ·simp at h1
   rw [World.cell?_setCell_other _ _ _ _ (by intro e; injection e with _ e2 _; omega), World.frozen?_setCell]
   exact hroom j (by omega) h2
 ·rcases hown'.2 with ⟨_, h0⟩ | ⟨g', cap', cur, rfl, hb', hg', hn', hc', hsz', htk⟩
  ·omega
  ·refine h _ _ ⟨g', cap', by rw [List.length_append]; rfl, by omega, blk_lt hg', by simp; omega, hc', fun j u hj => ?_, fun j h1 h2 => ?_⟩ ⟨hgrow.os, hgrow.tape, hgrow.output, hgrow.size, fun k hk _ => hgrow.block k hk (by simp)⟩ (.inr ⟨g', rfl, hb'⟩)
   ·rw [nums_append] at hj
    have := hown'.cells (g := g') rfl j u (by simpa [nums] using hj)
    rwa [add_plain] at this
   ·simp at h1
    constructor
    ·simp only [World.cell?, hg']
     rw [Array.getElem?_eq_getElem (by omega)]; rfl
    ·simp [World.frozen?, hg']
end
theorem RowB.string {P : Program} {w : World} {base : Nat} {src dst e : TypeId} {v : Value} {xs : List Int} (hs : P.underlying src = some (.slice e)) (he : P.underlying e = some (.int .u8)) (hd : P.underlying dst = some .string)
  (h : RowB w base v xs) : (convert src dst v).run P w = .ok (.string (strOfNums xs)) w := by
 obtain ⟨g, cap, rfl, hb, hlt, hlc, hm, hcells, hroom⟩ := h
 refine run_convert_bytes_arg w src e hs he g 0 xs.length cap xs rfl (fun i hi => ?_) dst hd
 rw [Nat.zero_add]
 exact hcells i _ (by simp [nums, List.getElem?_eq_getElem hi, List.getD_eq_getElem?_getD])
def valGo : List Int → Int → Int
  | [], r => r
  | c :: t, r => if c < 128 ∨ c > 191 then -1 else valGo t (64 * r + c - 128)
def headOf (n : Nat) : Int := if n = 2 then 192 else if n = 3 then 224 else if n = 4 then 240 else 0
def valueZ : List Int → Int
  | [] => 0
  | [c] => c
  | c :: t => valGo t (c - headOf (t.length + 1))
def backseatref01_value.f (a0 : ByteArray) : Option Int := if 1 ≤ a0.size ∧ a0.size ≤ 4 then some (valueZ (bytesOf a0)) else none
theorem bytesOf_drop (s : ByteArray) (k : Nat) (h : k < s.size) : (bytesOf s).drop k = bt s k :: (bytesOf s).drop (k + 1) := by
  rw [List.drop_eq_getElem_cons (by rw [bytesOf_length]; exact h)]
  congr 1
  have := rd_bytesOf s k
  rw [← this]; unfold rd
  rw [List.getD_eq_getElem?_getD, Int.toNat_natCast, List.getElem?_eq_getElem (by rw [bytesOf_length]; exact h)]
  rfl
theorem valueZ_cons (c : Int) (t : List Int) (h : 0 < t.length) : valueZ (c :: t) = valGo t (c - headOf (t.length + 1)) := by
  cases t with
  | nil => simp at h
  | cons d t => rfl
theorem bytesOf_cons (s : ByteArray) (h : 0 < s.size) : bytesOf s = bt s 0 :: (bytesOf s).drop 1 := by
  have := bytesOf_drop s 0 h
  rwa [List.drop_zero] at this
theorem valueZ_one (s : ByteArray) (h : s.size = 1) : valueZ (bytesOf s) = bt s 0 := by
  rw [bytesOf_cons s (by omega), List.drop_eq_nil_of_le (by rw [bytesOf_length]; omega)]; rfl
theorem valueZ_more (s : ByteArray) (h : 1 < s.size) : valueZ (bytesOf s) = valGo ((bytesOf s).drop 1) (bt s 0 - headOf s.size) := by
  conv => lhs; rw [bytesOf_cons s (by omega)]
  rw [valueZ_cons _ _ (by rw [List.length_drop, bytesOf_length]; omega), List.length_drop, bytesOf_length, show s.size - 1 + 1 = s.size by omega]
set_option maxHeartbeats 4000000 in
set_option maxRecDepth 100000 in
theorem value_any (s : ByteArray) (w : World) (h1 : 1 ≤ s.size) (h4 : s.size ≤ 4) :
    Calls Tryd.prog 93 #[.string s] w fun e w' => e = .returned (.int .i32 (valueZ (bytesOf s))) ∧ Below w.heap.size w w' := by
  have hm : s.size ≤ 9223372036854775807 := by omega
  go_enter Tryd.func93, Tryd.ntmps93
  go_wp2
  go_loopg [3, 4] 4 (fun kq r i wr => ∃ (k : Nat) (x : Int), k ≤ s.size ∧ i = .int .i64 k ∧ r = .int .i32 x ∧ Aside0 (kq + k = 4) ∧ Aside0 ((k = 0 ∧ x = 0) ∨ (1 ≤ k ∧ 1 < s.size ∧ valueZ (bytesOf s) = valGo ((bytesOf s).drop k) x ∧ 100 - 400 * 64 ^ (k - 1) ≤ x ∧ x ≤ 400 * 64 ^ (k - 1) - 100)) ∧ Aside0 (Below w.heap.size w wr))
  case atStart => exact ⟨0, 0, Nat.zero_le _, rfl, rfl, ⟨rfl⟩, ⟨.inl ⟨rfl, rfl⟩⟩, ⟨Below.refl _ _⟩⟩
  case round =>
    obtain ⟨k, x, hk, rfl, rfl, HG, HV, HB⟩ := hrel
    by_cases hlt : k < s.size
    · obtain ⟨c, hc⟩ : ∃ c : UInt8, s[k] = c := ⟨_, rfl⟩
      have hcl := c.toNat_lt
      have hbt : bt s k = c.toNat := by rw [← hc]; exact (bt_at s k (by simpa using hlt)).symm
      have HD := Aside0.mk (bytesOf_drop s k hlt)
      have HBT := Aside0.mk hbt
      clear hbt
      by_cases h0 : k = 0
      · subst h0
        obtain rfl : x = 0 := by rcases HV.out with h | h; exact h.2; omega
        have hs : s.size = 1 ∨ s.size = 2 ∨ s.size = 3 ∨ s.size = 4 := by omega
        clear HV h1 h4 hm
        rcases hs with hs | hs | hs | hs
        · have HQ := Aside0.mk (valueZ_one s hs)
          go_wp2
          go_ret
          exact ⟨by rw [HQ.out, show bt s 0 = c.toNat from HBT.out]; rfl, HB.out.alloc HB.out.size _⟩
        all_goals
          have HQ := Aside0.mk (valueZ_more s (by omega))
          go_wp2
          go_roundg (gk - 1)
          case measure => have := HG.out; omega
          case rel =>
            refine ⟨1, _, by omega, by go_num, rfl, ⟨by have := HG.out; omega⟩, ⟨.inr ⟨by omega, by omega, ?_, by omega, by omega⟩⟩, ⟨HB.out.alloc HB.out.size _⟩⟩
            rw [HQ.out, show bt s 0 = c.toNat from HBT.out, hs]; rfl
      · obtain ⟨hk1, hs1, hval, hb1, hb2⟩ : 1 ≤ k ∧ 1 < s.size ∧ valueZ (bytesOf s) = valGo ((bytesOf s).drop k) x ∧ 100 - 400 * 64 ^ (k - 1) ≤ x ∧ x ≤ 400 * 64 ^ (k - 1) - 100 := by rcases HV.out with h | h; exact absurd h.1 h0; exact h
        have HVal : Aside0 (valueZ (bytesOf s) = if (c.toNat : Int) < 128 ∨ (c.toNat : Int) > 191 then -1 else valGo ((bytesOf s).drop (k + 1)) (64 * x + c.toNat - 128)) := ⟨by
          rw [hval, HD.out, HBT.out]; rfl⟩
        have hk : k = 1 ∨ k = 2 ∨ k = 3 := by omega
        have hb : ∃ M : Int, M = 400 * 64 ^ (k - 1) ∧ M ≤ 1638400 := by rcases hk with rfl | rfl | rfl <;> exact ⟨_, rfl, by decide⟩
        have HP : Aside0 (100 - 400 * 64 ^ (k + 1 - 1) ≤ 64 * x + (c.toNat : Int) - 128 ∧ 64 * x + (c.toNat : Int) - 128 ≤ 400 * 64 ^ (k + 1 - 1) - 100 ∨ (c.toNat : Int) < 128 ∨ (c.toNat : Int) > 191) := ⟨by
          by_cases hc : (c.toNat : Int) < 128 ∨ (c.toNat : Int) > 191
          · exact .inr hc
          · left; rcases hk with rfl | rfl | rfl <;> simp at hb1 hb2 ⊢ <;> omega⟩
        obtain ⟨M, hM, hM2⟩ := hb
        rw [← hM] at hb1 hb2
        have hx1 : -1638400 ≤ x := by omega
        have hx2 : x ≤ 1638400 := by omega
        have h01 : ((k : Int) == 0) = false := by simpa using h0
        have HK := Aside0.mk hk
        clear HV h1 hM hM2 hb1 hb2 hval hk
        go_wp2
        all_goals
          first
          | (have hy : (c.toNat : Int) < 128 := by assumption
             go_ret
             exact ⟨by rw [HVal.out, if_pos (.inl hy)]; rfl, HB.out⟩)
          | (have hy : (191 : Int) < (c.toNat : Int) := by omega
             go_ret
             exact ⟨by rw [HVal.out, if_pos (.inr hy)]; rfl, HB.out⟩)
          | (have hy : ¬ ((c.toNat : Int) < 128 ∨ (c.toNat : Int) > 191) := by omega
             go_roundg (gk - 1)
             case measure => have := HG.out; omega
             case rel =>
               refine ⟨k + 1, _, by omega, by go_num, rfl, ⟨by have := HG.out; omega⟩, ⟨.inr ⟨by omega, by omega, ?_, ?_, ?_⟩⟩, HB⟩
               · rw [HVal.out, if_neg hy]
               · rcases HP.out with h | h
                 · exact h.1
                 · exact absurd h hy
               · rcases HP.out with h | h
                 · exact h.2
                 · exact absurd h hy)
    · have HQ : Aside0 (valueZ (bytesOf s) = x) := ⟨by
        rcases HV.out with h | h
        · omega
        · rw [h.2.2.1, List.drop_eq_nil_of_le (by rw [bytesOf_length]; omega)]; rfl⟩
      clear HV
      go_wp2
      go_ret
      exact ⟨by rw [HQ.out]; rfl, HB.out⟩
theorem backseatref01_value.calls (a0 : ByteArray) (r : Int) (w : World) (h : backseatref01_value.f a0 = some r) :
    Calls Tryd.prog 93 #[.string a0] w fun e w' => e = .returned (.int .i32 r) ∧ Below w.heap.size w w' := by
  unfold backseatref01_value.f at h
  split at h
  · rename_i hs
    have e := Option.some.inj h
    subst e
    exact value_any a0 w hs.1 hs.2
  · cases h
def contOK (l : List Int) : Bool := l.all fun c => decide (128 ≤ c) && decide (c ≤ 191)
def floorOf (n : Nat) : Int := if n = 2 then 128 else if n = 3 then 2048 else if n = 4 then 65536 else 0
def begZ (lo hi fl : Int) : Bool := !(decide (hi < fl) || decide (lo > 1114111)) && (decide (lo < 55296) || decide (hi > 57343))
def begB (l : List Int) (n : Nat) : Bool :=
  contOK (l.drop 1) && begZ (valueZ (l ++ List.replicate (n - l.length) 128)) (valueZ (l ++ List.replicate (n - l.length) 191)) (floorOf n)
def backseatref01_begins.f (a0 : ByteArray) (a1 : Int) : Option Bool :=
  if 1 ≤ a0.size ∧ (a0.size : Int) ≤ a1 ∧ a1 ≤ 4 then some (begB (bytesOf a0) a1.toNat) else none
theorem contOK_snoc (l : List Int) (k : Nat) (h : k < l.length) : contOK (l.take (k + 1)) = (contOK (l.take k) && (decide (128 ≤ l[k]) && decide (l[k] ≤ 191))) := by
  unfold contOK
  rw [List.take_succ_eq_append_getElem h, List.all_append]
  simp
theorem bytesOf_get (s : ByteArray) (k : Nat) (h : k < s.size) : (bytesOf s)[k]'(by rw [bytesOf_length]; exact h) = bt s k := by
  have := rd_bytesOf s k
  rw [← this]; unfold rd
  rw [List.getD_eq_getElem?_getD, Int.toNat_natCast, List.getElem?_eq_getElem (by rw [bytesOf_length]; exact h)]
  rfl
theorem bytesOf_str (xs : List Int) (h : ∀ x ∈ xs, 0 ≤ x ∧ x ≤ 255) : bytesOf (strOfNums xs) = xs := by
  unfold bytesOf
  rw [strOfNums_data, List.map_map]
  conv => rhs; rw [← List.map_id xs]
  apply List.map_congr_left
  intro x hx
  have := h x hx
  simp only [Function.comp, id]
  rw [UInt8.toNat_ofNat']
  omega
theorem bytesOf_range (s : ByteArray) : ∀ x ∈ bytesOf s, 0 ≤ x ∧ x ≤ 255 := by
  intro x hx
  unfold bytesOf at hx
  obtain ⟨b, _, rfl⟩ := List.mem_map.1 hx
  have := b.toNat_lt
  omega
theorem pad_range (s : ByteArray) (j : Nat) (c : Int) (h0 : 0 ≤ c) (h1 : c ≤ 255) : ∀ x ∈ bytesOf s ++ List.replicate j c, 0 ≤ x ∧ x ≤ 255 := by
  intro x hx
  rcases List.mem_append.1 hx with h | h
  · exact bytesOf_range s x h
  · obtain rfl := (List.mem_replicate.1 h).2
    exact ⟨h0, h1⟩
set_option maxHeartbeats 4000000 in
set_option maxRecDepth 100000 in
theorem begins_any (s : ByteArray) (n : Nat) (w : World) (h1 : 1 ≤ s.size) (hn : s.size ≤ n) (h4 : n ≤ 4) :
    Calls Tryd.prog 92 #[.string s, .int .i64 n] w fun e w' => e = .returned (.bool (begB (bytesOf s) n)) ∧ Below w.heap.size w w' := by
  have hm : s.size ≤ 9223372036854775807 := by omega
  have hgt : ¬ ((s.size : Int) > n) := by omega
  go_enter Tryd.func92, Tryd.ntmps92
  go_wp2
  clear hgt
  go_loop [5] (fun i => ∃ k : Nat, k + 1 ≤ s.size ∧ i = .int .i64 ((k : Int) + 1) ∧ Aside0 (contOK (((bytesOf s).drop 1).take k) = true)) (fun i => s.size - (intOf i).toNat)
  case atStart => exact ⟨0, by omega, rfl, ⟨rfl⟩⟩
  case round =>
    obtain ⟨k, hk, rfl, HC⟩ := hrel
    by_cases hlt : k + 1 < s.size
    · obtain ⟨c, hc⟩ : ∃ c : UInt8, s[k + 1] = c := ⟨_, rfl⟩
      have hcl := c.toNat_lt
      have HS : Aside0 (contOK (((bytesOf s).drop 1).take (k + 1)) = (decide (128 ≤ (c.toNat : Int)) && decide ((c.toNat : Int) ≤ 191))) := ⟨by
        rw [contOK_snoc _ _ (by rw [List.length_drop, bytesOf_length]; omega), HC.out, Bool.true_and, List.getElem_drop]
        have hb : (bytesOf s)[1 + k]'(by rw [bytesOf_length]; omega) = c.toNat := by
          rw [bytesOf_get s (1 + k) (by omega), ← hc]
          have := bt_at s ((1 + k : Nat) : Int) (by simp; omega)
          rw [← this]
          simp [Nat.add_comm]
        rw [hb]⟩
      have HT : Aside0 (contOK (((bytesOf s).drop 1).take (k + 1)) = false → begB (bytesOf s) n = false) := ⟨fun h => by
        unfold begB
        have : contOK ((bytesOf s).drop 1) = false := by
          unfold contOK at h ⊢
          rw [← List.take_append_drop (k + 1) ((bytesOf s).drop 1), List.all_append, h]; rfl
        rw [this]; rfl⟩
      go_wp2
      all_goals
        first
        | (have hy : 128 ≤ (c.toNat : Int) ∧ (c.toNat : Int) ≤ 191 := by assumption
           go_round
           case rel => exact ⟨k + 1, by omega, by go_num, ⟨by rw [HS.out, decide_eq_true hy.1, decide_eq_true hy.2]; rfl⟩⟩
           case measure => simp [intOf]; omega)
        | (have hy : (c.toNat : Int) < 128 ∨ (191 : Int) < (c.toNat : Int) := by first | assumption | (left; assumption)
           go_ret
           exact ⟨by rw [HT.out (by rw [HS.out]; rcases hy with hy | hy <;> simp <;> omega)]; rfl, Below.refl _ _⟩)
    · have HC2 : Aside0 (contOK ((bytesOf s).drop 1) = true) := ⟨by
        have := HC.out
        rwa [List.take_of_length_le (by rw [List.length_drop, bytesOf_length]; omega)] at this⟩
      clear HC
      have kb := fun W => print_bytes (P := Tryd.prog) 9 75 5 Tryd.underlying9 Tryd.underlying75 Tryd.underlying5 s W
      go_upto_region 10 with (fail)
      go_loopg [6, 7] (n - s.size) (fun kq v6 v7 wr => ∃ j : Nat, s.size + j ≤ n ∧ Aside0 (kq + (s.size + j) = n) ∧ Aside0 (RowB wr w.heap.size v6 (bytesOf s ++ List.replicate j 128)) ∧ Aside0 (RowB wr w.heap.size v7 (bytesOf s ++ List.replicate j 191)) ∧ Aside0 (v6.ownBlock ≠ v7.ownBlock) ∧ Aside0 (Below w.heap.size w wr))
      case atStart =>
        refine ⟨0, by omega, ⟨by omega⟩, ⟨?_⟩, ⟨?_⟩, ⟨?_⟩, ⟨?_⟩⟩
        · rw [List.replicate_zero, List.append_nil]
          exact (RowB.made w _ s _ (Nat.le_refl _) hm).below (bytes_below (Below.refl _ _) (Nat.le_refl _) _ _)
        · rw [List.replicate_zero, List.append_nil]
          exact RowB.made _ _ s _ (by rw [Lib.bytesWorld_size]; omega) hm
        · simp [Value.ownBlock, Lib.bytesWorld_size]
        · exact bytes_below (bytes_below (Below.refl _ _) (Nat.le_refl _) _ _) (by rw [Lib.bytesWorld_size]; omega) _ _
      case round =>
        obtain ⟨j, hj, HG, H6, H7, HN, HB⟩ := hrel
        obtain ⟨g6, c6, rfl⟩ := H6.out.form
        obtain ⟨g7, c7, rfl⟩ := H7.out.form
        have hl6 : (bytesOf s ++ List.replicate j (128 : Int)).length = s.size + j := by rw [List.length_append, bytesOf_length, List.length_replicate]
        have hl7 : (bytesOf s ++ List.replicate j (191 : Int)).length = s.size + j := by rw [List.length_append, bytesOf_length, List.length_replicate]
        rw [hl6] at H6
        rw [hl7] at H7
        rw [hl6, hl7]
        have HL6 := Aside0.mk hl6
        have HL7 := Aside0.mk hl7
        have HNV : g6 ≠ g7 := by have := HN.out; simpa [Value.ownBlock] using this
        have hg6l : g6 < wr.heap.size := (H6.out.lt g6 rfl).2
        have hg7l : g7 < wr.heap.size := (H7.out.lt g7 rfl).2
        clear kb hl6 hl7
        by_cases hlt : s.size + j < n
        · have Q1 : Aside0 ((Value.slice (some ⟨g6, 0, none⟩) (s.size + j) c6).ownBlock ≠ some wr.heap.size) := ⟨fun h => by injection h with h; exact absurd h (Nat.ne_of_lt hg6l)⟩
          have Q2 : Aside0 ((bytesOf s ++ List.replicate j (128 : Int)).length < 1000) := ⟨by rw [HL6.out]; omega⟩
          have Q3 : Aside0 ((bytesOf s ++ List.replicate j (191 : Int)).length < 1000) := ⟨by rw [HL7.out]; omega⟩
          have Q4 : Aside0 (∀ o, w.heap.size ≤ (wr.alloc o).heap.size) := ⟨fun o => by rw [World.size_alloc]; have := HB.out.size; omega⟩
          go_wp2_with (first | (at_builtin; refine RowB.append rfl (.tmp 39) (.tmp 40) 75 5 rfl Tryd.underlying75 (by kernel_rfl) w.heap.size _ (bytesOf s ++ List.replicate j 128) rfl (H6.out.below (below_alloc (Below.refl _ _) _)) 128 wr.heap.size Q1.out rfl (by rw [World.cell?_alloc_new]; rfl) Q2.out (Q4.out _) ?_; intro v6 w6 hr6 hg6 hat6; have HR6 := Aside0.mk hr6; have HG6 := Aside0.mk hg6; have HA6 := Aside0.mk hat6; clear hr6 hg6 hat6; have H7b : Aside0 (RowB w6 w.heap.size (.slice (some ⟨g7, 0, none⟩) (s.size + j) c7) (bytesOf s ++ List.replicate j 191)) := ⟨(H7.out.below (below_alloc (Below.refl _ _) _)).kept HG6.out (fun h => by injection h with h; exact HNV h.symm)⟩; have Q5 : Aside0 (wr.heap.size + 1 ≤ w6.heap.size) := ⟨by have := HG6.out.size; rwa [World.size_alloc] at this⟩; have Q6 : Aside0 (∀ o, w.heap.size ≤ (w6.alloc o).heap.size) := ⟨fun o => by rw [World.size_alloc]; have := Q5.out; have := HB.out.size; omega⟩; have Q7 : Aside0 ((Value.slice (some ⟨g7, 0, none⟩) (s.size + j) c7).ownBlock ≠ some w6.heap.size) := ⟨fun h => by injection h with h; have := Q5.out; exact absurd h (Nat.ne_of_lt (show g7 < w6.heap.size by omega))⟩) | (at_builtin; refine RowB.append rfl (.tmp 42) (.tmp 43) 75 5 rfl Tryd.underlying75 (by kernel_rfl) w.heap.size _ (bytesOf s ++ List.replicate j 191) rfl (H7b.out.below (below_alloc (Below.refl _ _) _)) 191 w6.heap.size Q7.out rfl (by rw [World.cell?_alloc_new]; rfl) Q3.out (Q6.out _) ?_; intro v7 w7 hr7 hg7 hat7; have HR7 := Aside0.mk hr7; have HG7 := Aside0.mk hg7; have HA7 := Aside0.mk hat7; clear hr7 hg7 hat7))
          go_roundg (gk - 1)
          case measure => have := HG.out; omega
          case rel =>
            have hN : v6.ownBlock ≠ some g7 := by
              rcases HA6.out with h | ⟨b, h, hb⟩
              · rw [h]; intro e; injection e with e; exact HNV e
              · rw [h]; intro e; injection e with e; rw [World.size_alloc] at hb; omega
            refine ⟨j + 1, by omega, ⟨by have := HG.out; omega⟩, ⟨?_⟩, ⟨?_⟩, ⟨?_⟩, ⟨?_⟩⟩
            · have := (HR6.out.below (below_alloc (Below.refl _ _) _)).kept HG7.out hN
              rwa [List.append_assoc, ← List.replicate_succ'] at this
            · have := HR7.out
              rwa [List.append_assoc, ← List.replicate_succ'] at this
            · rcases HA7.out with h | ⟨b, h, hb⟩
              · rw [h]; exact hN
              · intro e
                rw [h] at e
                have := (HR6.out.lt b e).2
                rw [World.size_alloc] at hb
                omega
            · have hb0 := HB.out.size
              have h5 := Q5.out
              refine pw_below_grown (Below.alloc (pw_below_grown (Below.alloc HB.out hb0 _) _ (by rw [World.size_alloc]; omega) HG6.out (fun k hk => ?_)) (by omega) _) _ (by rw [World.size_alloc]; omega) HG7.out (fun k hk => ?_)
              · exact (H6.out.lt k hk).1
              · exact (H7b.out.lt k hk).1
        · have hj2 : s.size + j = n := by omega
          have HW : Aside0 (begB (bytesOf s) n = begZ (valueZ (bytesOf s ++ List.replicate j 128)) (valueZ (bytesOf s ++ List.replicate j 191)) (floorOf n)) := ⟨by
            unfold begB
            rw [HC2.out, Bool.true_and, bytesOf_length, show n - s.size = j by omega]⟩
          have c6v : Calls Tryd.prog 93 #[.string (strOfNums (bytesOf s ++ List.replicate j 128))] wr fun e w' => e = .returned (.int .i32 (valueZ (bytesOf s ++ List.replicate j 128))) ∧ Below wr.heap.size wr w' := by
            have := value_any (strOfNums (bytesOf s ++ List.replicate j 128)) wr (by rw [strOfNums_size, HL6.out]; omega) (by rw [strOfNums_size, HL6.out]; omega)
            rwa [bytesOf_str _ (pad_range s j 128 (by omega) (by omega))] at this
          have c7v : ∀ W : World, Calls Tryd.prog 93 #[.string (strOfNums (bytesOf s ++ List.replicate j 191))] W fun e w' => e = .returned (.int .i32 (valueZ (bytesOf s ++ List.replicate j 191))) ∧ Below W.heap.size W w' := fun W => by
            have := value_any (strOfNums (bytesOf s ++ List.replicate j 191)) W (by rw [strOfNums_size, HL7.out]; omega) (by rw [strOfNums_size, HL7.out]; omega)
            rwa [bytesOf_str _ (pad_range s j 191 (by omega) (by omega))] at this
          have k6 := RowB.string (P := Tryd.prog) (src := 75) (dst := 9) Tryd.underlying75 Tryd.underlying5 Tryd.underlying9 H6.out
          have k7 := fun (W : World) (hb : Below wr.heap.size wr W) => RowB.string (P := Tryd.prog) (src := 75) (dst := 9) Tryd.underlying75 Tryd.underlying5 Tryd.underlying9 (H7.out.below hb)
          have K7 := Aside0.mk k7
          have C6 := Aside0.mk c6v
          have C7 := Aside0.mk c7v
          clear c6v c7v k7
          generalize valueZ (bytesOf s ++ List.replicate j 128) = lo at HW C6 C7
          generalize valueZ (bytesOf s ++ List.replicate j 191) = hi at HW C6 C7
          have HBE : Aside0 (∀ fl, begZ lo hi fl = (!(decide (hi < fl) || decide (lo > 1114111)) && (decide (lo < 55296) || decide (hi > 57343)))) := ⟨fun _ => rfl⟩
          have hnn : n = 1 ∨ n = 2 ∨ n = 3 ∨ n = 4 := by omega
          obtain ⟨fl, hfl⟩ : ∃ fl, fl = floorOf n := ⟨_, rfl⟩
          rw [← hfl] at HW
          have HFL := Aside0.mk hfl
          have hge : ¬ ((s.size : Int) + (j : Int) < (n : Int)) := by omega
          clear hlt hj2 HL6 HL7 hfl
          rcases hnn with rfl | rfl | rfl | rfl
          all_goals
            go_wp2_with (first | (go_at_call 93; ((with_reducible refine C6.out.mono ?_); rintro e w8 ⟨rfl, hb8⟩; have k7 := K7.out w8 hb8; have HB8 := Aside0.mk hb8; clear hb8)) | (go_at_call 93; ((with_reducible refine (C7.out _).mono ?_); rintro e w9 ⟨rfl, hb9⟩; have HB9 := Aside0.mk hb9; clear hb9)))
            all_goals
              have hfl := HFL.out
              simp [floorOf] at hfl
              first
              | (have e1 : (decide (hi < fl) || decide (lo > 1114111)) = true := by simp; omega
                 clear hfl
                 go_ret
                 exact ⟨by rw [HW.out, HBE.out, e1]; rfl, (below_step (below_step HB.out HB8.out) HB9.out).alloc (below_step (below_step HB.out HB8.out) HB9.out).size _⟩)
              | (have e1 : (decide (hi < fl) || decide (lo > 1114111)) = false := by simp; omega
                 clear hfl
                 first
                 | (have e2 : decide (lo < 55296) = true := decide_eq_true (by omega)
                    go_ret
                    exact ⟨by rw [HW.out, HBE.out, e1, e2]; rfl, (below_step (below_step HB.out HB8.out) HB9.out).alloc (below_step (below_step HB.out HB8.out) HB9.out).size _⟩)
                 | (go_ret
                    exact ⟨by rw [HW.out, HBE.out, e1]; rfl, (below_step (below_step HB.out HB8.out) HB9.out).alloc (below_step (below_step HB.out HB8.out) HB9.out).size _⟩))
theorem backseatref01_begins.calls (a0 : ByteArray) (a1 : Int) (r : Bool) (w : World) (h : backseatref01_begins.f a0 a1 = some r) :
    Calls Tryd.prog 92 #[.string a0, .int .i64 a1] w fun e w' => e = .returned (.bool r) ∧ Below w.heap.size w w' := by
  unfold backseatref01_begins.f at h
  split at h
  · rename_i hs
    have e := Option.some.inj h
    subst e
    have := begins_any a0 a1.toNat w hs.1 (by omega) (by omega)
    rwa [show ((a1.toNat : Nat) : Int) = a1 by omega] at this
  · cases h
end Go.Proofs.YtckkdaehmccjlaaDoor.P
namespace Go.Proofs.YtckkdaehmccjlaaDoor.P
open Go.RowKit Go.Proofs.YtckkdaehmccjlaaDoorW.PrintWords Go.Proofs.YtckkdaehmccjlaaDoorW.PrintLast Go.Proofs.YtckkdaehmccjlaaDoorW.PrintMore
attribute [local go_sem] max2_int min2_int max_two min_two max_three min_three max_four min_four   -- for this text's walks alone
set_option linter.unusedVariables false
set_option linter.unusedSimpArgs false
mutual
def backseatref01_need.j0 : Nat → Int → Bool → Option (Int)
 | 0, _, _ => none
 | k + 1, x0, x10 => if x10 = true then (some 2) else (if x0 ≥ 224 then (backseatref01_need.j1 k x0 (decide (x0 < 240))) else (backseatref01_need.j1 k x0 false))
def backseatref01_need.j1 : Nat → Int → Bool → Option (Int)
 | 0, _, _ => none
 | k + 1, x0, x16 => if x16 = true then (some 3) else (if x0 ≥ 240 then (if x0 < 245 then (some 4) else (some 0)) else (some 0))
end
def backseatref01_need.f (k : Nat) (a0 : Int) : Option (Int) := if a0 < 128 then (some 1) else (if a0 ≥ 194 then (backseatref01_need.j0 k a0 (decide (a0 < 224))) else (backseatref01_need.j0 k a0 false))
set_option maxHeartbeats 8000000 in
set_option maxRecDepth 100000 in
theorem backseatref01_need.calls (k : Nat) (a0 : Int) (r : Int) (w : World) (h : backseatref01_need.f k a0 = some r) :
  Calls Tryd.prog 91 #[.int .u8 a0] w fun e w' => e = .returned (.int .i64 r) ∧ Drawn0 w w' := by
 have H : (if a0 < 128 then (some 1) else (if a0 ≥ 194 then (backseatref01_need.j0 k a0 (decide (a0 < 224))) else (backseatref01_need.j0 k a0 false))) = some r := h
 clear h
 by_cases c2 : a0 < 128
 ·rw [if_pos c2] at H
  have c2b0 : decide (a0 < 128) = true := decide_eq_true c2
  clear c2
  obtain rfl := Option.some.inj H
  go_enter Tryd.func91, Tryd.ntmps91
  go_wp2
  go_ret
  exact ⟨by first | rfl | (simp; done) | (simp [*]; done), by repeat (first | exact Drawn0.refl _ | apply Drawn0.step)⟩
 ·rw [if_neg c2] at H
  have c2b0 : decide (a0 < 128) = false := decide_eq_false c2
  clear c2
  have HC3 := Aside0.mk H
  clear H
  go_enter Tryd.func91, Tryd.ntmps91
  go_upto_region 3 with (fail)
  go_cut [10] (fun v10 wc => ∃ (kq : Nat) (x10_2 : Bool), v10 = .bool x10_2 ∧ Aside0 (backseatref01_need.j0 kq a0 x10_2 = some r) ∧ Aside0 (kq ≤ k) ∧ Drawn0 w wc)
  case first =>
   have H := HC3.out
   clear HC3
   by_cases c4 : a0 ≥ 194
   ·rw [if_pos c4] at H
    have c4b0 : decide (194 ≤ a0) = true := decide_eq_true c4
    clear c4
    (first | rw [c4b0] | (simp only [i64_w, i32_w]; rw [c4b0]) | skip)
    have H' := Aside0.mk H
    clear H
    go_wp2
    go_meet
    case rel => exact ⟨_, (decide (a0 < 224)), zf, H', ⟨by first | omega | exact Nat.le_refl _⟩, by repeat (first | exact Drawn0.refl _ | apply Drawn0.step)⟩
   ·rw [if_neg c4] at H
    have c4b0 : decide (194 ≤ a0) = false := decide_eq_false c4
    clear c4
    (first | rw [c4b0] | (simp only [i64_w, i32_w]; rw [c4b0]) | skip)
    have H' := Aside0.mk H
    clear H
    go_wp2
    go_meet
    case rel => exact ⟨_, (false), zf, H', ⟨by first | omega | exact Nat.le_refl _⟩, by repeat (first | exact Drawn0.refl _ | apply Drawn0.step)⟩
  case rest =>
   clear HC3
   try clear c2
   try clear c2b0
   obtain ⟨kq, x10_2, rfl, HA, HJ2, ⟨mc2, rfl⟩⟩ := hcut
   cases kq with
   | zero => exact absurd HA.out (by simp [backseatref01_need.j0])
   | succ kj2 =>
    have H := HA.out
    clear HA
    simp only [backseatref01_need.j0] at H
    by_cases c5 : x10_2 = true
    ·subst c5
     have H1 : (some 2) = some r := by rw [if_pos rfl] at H; exact H
     clear H
     have H := H1
     clear H1
     obtain rfl := Option.some.inj H
     go_wp2
     go_ret
     exact ⟨by first | rfl | (simp; done) | (simp [*]; done), by repeat (first | exact Drawn0.refl _ | apply Drawn0.step)⟩
    ·replace c5 := Bool.eq_false_iff.mpr c5
     subst c5
     have H1 : (if a0 ≥ 224 then (backseatref01_need.j1 kj2 a0 (decide (a0 < 240))) else (backseatref01_need.j1 kj2 a0 false)) = some r := by rw [if_neg (show ¬ (false = true) by decide)] at H; exact H
     clear H
     have H := H1
     clear H1
     have HC6 := Aside0.mk H
     clear H
     go_upto_region 5 with (fail)
     go_cut [16] (fun v16 wc => ∃ (kq : Nat) (x16_5 : Bool), v16 = .bool x16_5 ∧ Aside0 (backseatref01_need.j1 kq a0 x16_5 = some r) ∧ Aside0 (kq ≤ kj2) ∧ Drawn0 w wc)
     case first =>
      have H := HC6.out
      clear HC6
      by_cases c7 : a0 ≥ 224
      ·rw [if_pos c7] at H
       have c7b0 : decide (224 ≤ a0) = true := decide_eq_true c7
       clear c7
       (first | rw [c7b0] | (simp only [i64_w, i32_w]; rw [c7b0]) | skip)
       have H' := Aside0.mk H
       clear H
       go_wp2
       go_meet
       case rel => exact ⟨_, (decide (a0 < 240)), zf, H', ⟨by have := HJ2.out; first | omega | exact Nat.le_refl _⟩, by repeat (first | exact Drawn0.refl _ | apply Drawn0.step)⟩
      ·rw [if_neg c7] at H
       have c7b0 : decide (224 ≤ a0) = false := decide_eq_false c7
       clear c7
       (first | rw [c7b0] | (simp only [i64_w, i32_w]; rw [c7b0]) | skip)
       have H' := Aside0.mk H
       clear H
       go_wp2
       go_meet
       case rel => exact ⟨_, (false), zf, H', ⟨by have := HJ2.out; first | omega | exact Nat.le_refl _⟩, by repeat (first | exact Drawn0.refl _ | apply Drawn0.step)⟩
     case rest =>
      clear HC6
      try clear c2
      try clear c2b0
      try clear c5
      obtain ⟨kq, x16_5, rfl, HA, HJ5, ⟨mc5, rfl⟩⟩ := hcut
      cases kq with
      | zero => exact absurd HA.out (by simp [backseatref01_need.j1])
      | succ kj5 =>
       have H := HA.out
       clear HA
       simp only [backseatref01_need.j1] at H
       by_cases c8 : x16_5 = true
       ·subst c8
        have H1 : (some 3) = some r := by rw [if_pos rfl] at H; exact H
        clear H
        have H := H1
        clear H1
        obtain rfl := Option.some.inj H
        go_wp2
        go_ret
        exact ⟨by first | rfl | (simp; done) | (simp [*]; done), by repeat (first | exact Drawn0.refl _ | apply Drawn0.step)⟩
       ·replace c8 := Bool.eq_false_iff.mpr c8
        subst c8
        have H1 : (if a0 ≥ 240 then (if a0 < 245 then (some 4) else (some 0)) else (some 0)) = some r := by rw [if_neg (show ¬ (false = true) by decide)] at H; exact H
        clear H
        have H := H1
        clear H1
        by_cases c9 : a0 ≥ 240
        ·rw [if_pos c9] at H
         have c9b0 : decide (240 ≤ a0) = true := decide_eq_true c9
         clear c9
         by_cases c10 : a0 < 245
         ·rw [if_pos c10] at H
          have c10b0 : decide (a0 < 245) = true := decide_eq_true c10
          clear c10
          obtain rfl := Option.some.inj H
          go_wp2
          go_ret
          exact ⟨by first | rfl | (simp; done) | (simp [*]; done), by repeat (first | exact Drawn0.refl _ | apply Drawn0.step)⟩
         ·rw [if_neg c10] at H
          have c10b0 : decide (a0 < 245) = false := decide_eq_false c10
          clear c10
          obtain rfl := Option.some.inj H
          go_wp2
          go_ret
          exact ⟨by first | rfl | (simp; done) | (simp [*]; done), by repeat (first | exact Drawn0.refl _ | apply Drawn0.step)⟩
        ·rw [if_neg c9] at H
         have c9b0 : decide (240 ≤ a0) = false := decide_eq_false c9
         clear c9
         obtain rfl := Option.some.inj H
         go_wp2
         go_ret
         exact ⟨by first | rfl | (simp; done) | (simp [*]; done), by repeat (first | exact Drawn0.refl _ | apply Drawn0.step)⟩
mutual
def backseatref01_First.j1 : Nat → ByteArray → Int → Int → Option (Int × Int × Int)
 | 0, _, _, _ => none
 | k + 1, x0, x3, x4 => if x4 = x3 then (if 0 ≤ x3 then (if x3 ≤ (x0.size : Int) then ((backseatref01_value.f (x0.extract 0 (x3 : Int).toNat)).bind fun t206 => (some (t206, x3, 0))) else (none)) else (none)) else (if x4 = (x0.size : Int) then (some (0, 0, 2)) else (some (0, x4, 4)))
def backseatref01_First.l0 : Nat → ByteArray → Int → Int → Option (Int × Int × Int)
 | 0, _, _, _ => none
 | k + 1, x0, x3, x4 => if x4 < x3 then (if x4 < (x0.size : Int) then (if 0 ≤ (wrap64 (x4 + 1)) then (if (wrap64 (x4 + 1)) ≤ (x0.size : Int) then ((backseatref01_begins.f (x0.extract 0 ((wrap64 (x4 + 1)) : Int).toNat) x3).bind fun t205 => (if t205 = true then (backseatref01_First.l0 k x0 x3 (wrap64 (x4 + 1))) else (backseatref01_First.j1 k x0 x3 x4))) else (none)) else (none)) else (backseatref01_First.j1 k x0 x3 x4)) else (backseatref01_First.j1 k x0 x3 x4)
end
def backseatref01_First.f (k : Nat) (a0 : ByteArray) : Option (Int × Int × Int) := if (a0.size : Int) = 0 then (some (0, 0, 2)) else (if 0 < (a0.size : Int) then ((backseatref01_need.f k (bt a0 0)).bind fun t204 => (if t204 = 0 then (some (0, 1, 4)) else (backseatref01_First.l0 k a0 t204 1))) else (none))
set_option maxHeartbeats 8000000 in
set_option maxRecDepth 100000 in
theorem backseatref01_First.calls (k : Nat) (a0 : ByteArray) (r1 : Int) (r2 : Int) (r3 : Int) (w : World) (h : backseatref01_First.f k a0 = some (r1, r2, r3)) :
  Calls Tryd.prog 74 #[.string a0] w fun e w' => e = .returned (.agg #[.int .i32 r1, .int .i64 r2, .int .i64 r3]) ∧ Below w.heap.size w w' := by
 have hu106 := Tryd.underlying106
 have HB := Aside0.mk (Below.refl w.heap.size w)
 have H : (if (a0.size : Int) = 0 then (some (0, 0, 2)) else (if 0 < (a0.size : Int) then ((backseatref01_need.f k (bt a0 0)).bind fun t204 => (if t204 = 0 then (some (0, 1, 4)) else (backseatref01_First.l0 k a0 t204 1))) else (none))) = some (r1, r2, r3) := h
 clear h
 by_cases c2 : (a0.size : Int) = 0
 ·rw [if_pos c2] at H
  have c2b0 : ((a0.size : Int) == 0) = true := beq_iff_eq.mpr c2
  have c2b1 : ((a0.size : Int) != 0) = false := bne_eq_false_iff_eq.mpr c2
  clear c2
  simp only [Option.some.injEq, Prod.mk.injEq] at H
  obtain ⟨rfl, rfl, rfl⟩ := H
  go_enter Tryd.func74, Tryd.ntmps74
  go_wp2_with (first | ((with_reducible refine gate_dst (N := 2) rfl ?_); (try (refine gate_guard (by rfl) ?_; dsimp only)); refine box_event ?hg (N := 2) ?hd (cs := #[.int .i32 0, .int .i64 0, .int .i64 0]) (t := 106) ?hr ?_; (case hd => rfl); (case hg => rfl); (case hr => exact zo); intro gb203 hg w3 hbox hb; have BK203 := Aside0.mk (hbox); have GW203 := Aside0.mk ((zg hg : w.heap.size ≤ gb203)); have GE203 := Aside0.mk ((zg hg : w.heap.size ≤ gb203)); replace HB := (zs HB hb); clear hb hbox hg; obtain ⟨hcz4_0, hcz4_1, hcz4_2, hfz4_0, hfz4_1, hfz4_2⟩ := zq3 (w := w3) BK203))
  refine bodyPost_ret (results_cell_row rfl _ _ gb203 106 #[.int .i32 0, .int .i64 0, .int .i64 2] (0, 0) _ rfl (by refine blk_put (cs := #[.int .i32 0, .int .i64 0, .int .i64 0]) ?_ 2 _ rfl; refine blk_put (cs := #[.int .i32 0, .int .i64 0, .int .i64 0]) ?_ 1 _ rfl; refine blk_put (cs := #[.int .i32 0, .int .i64 0, .int .i64 0]) ?_ 0 _ rfl; exact BK203.out) Tryd.underlying106 rfl (by kernel_rfl)) rfl ?_
  exact ⟨ze, zb⟩
 ·rw [if_neg c2] at H
  have c2b0 : ((a0.size : Int) == 0) = false := beq_eq_false_iff_ne.mpr c2
  have c2b1 : ((a0.size : Int) != 0) = true := bne_iff_ne.mpr c2
  by_cases c5 : 0 < (a0.size : Int)
  ·rw [if_pos c5] at H
   have c5b0 : decide (0 < (a0.size : Int)) = true := decide_eq_true c5
   have c5b1 : decide (0 < a0.size) = true := decide_eq_true (by omega)
   clear c5
   replace H := Option.bind_eq_some_iff.mp H
   obtain ⟨t204, A70, H⟩ := H
   replace H : (if t204 = 0 then (some (0, 1, 4)) else (backseatref01_First.l0 k a0 t204 1)) = some (r1, r2, r3) := H
   have A7 := Aside0.mk A70
   clear A70
   by_cases c8 : t204 = 0
   ·rw [if_pos c8] at H
    have c8b0 : (t204 == 0) = true := beq_iff_eq.mpr c8
    have c8b1 : (t204 != 0) = false := bne_eq_false_iff_eq.mpr c8
    clear c8
    simp only [Option.some.injEq, Prod.mk.injEq] at H
    obtain ⟨rfl, rfl, rfl⟩ := H
    go_enter Tryd.func74, Tryd.ntmps74
    go_wp2_with (first | ((with_reducible refine gate_dst (N := 2) rfl ?_); (try (refine gate_guard (by rfl) ?_; dsimp only)); refine box_event ?hg (N := 2) ?hd (cs := #[.int .i32 0, .int .i64 0, .int .i64 0]) (t := 106) ?hr ?_; (case hd => rfl); (case hg => rfl); (case hr => exact zo); intro gb203 hg w9 hbox hb; have BK203 := Aside0.mk (hbox); have GW203 := Aside0.mk ((zg hg : w.heap.size ≤ gb203)); have GE203 := Aside0.mk ((zg hg : w.heap.size ≤ gb203)); replace HB := (zs HB hb); clear hb hbox hg; have p6 : 0 ≤ (0 : Int) := (by omega); have q6 : 0 < a0.size := (by have : (0 : Int) < (a0.size : Int) := of_decide_eq_true za; omega); have hx6 : ∀ h : 0 < a0.size, ((a0[0]'h).toNat : Int) = bt a0 0 := bt_at a0 0; clear p6; have qi6 : (0 < (a0.size : Int)) = True := eq_true (of_decide_eq_true za); replace q6 := eq_true q6) | ((with_reducible refine gate_callee (f := 91) rfl ?_); refine goesL_ (some 11) rfl rfl Tryd.func91 (by kernel_rfl) rfl #[.int .u8 (bt a0 0)] rfl zl ?_; (with_reducible refine (backseatref01_need.calls k (bt a0 0) t204 _ A7.out).mono ?_); rintro e w' ⟨rfl, ⟨nd, rfl⟩⟩; refine ⟨_, rfl, ?_⟩; (try (rw [drewN_self w9]; generalize hq_ : World.drewN w9 _ = w9; have n0_ : Aside0 (w9.heap[gb203]? = some (.cells #[.int .i32 0, .int .i64 0, .int .i64 0] 106 (0, 0))) := ⟨by rw [← hq_]; exact (by exact BK203.out)⟩; have n1_ : Aside0 (Below w.heap.size w w9) := ⟨by rw [← hq_]; exact zb⟩; clear BK203 HB hq_; have BK203 := n0_; have HB := n1_; clear n0_ n1_)); obtain ⟨hcz10_0, hcz10_1, hcz10_2, hfz10_0, hfz10_1, hfz10_2⟩ := zq3 (w := w9) BK203))
    refine bodyPost_ret (results_cell_row rfl _ _ gb203 106 #[.int .i32 0, .int .i64 1, .int .i64 4] (0, 0) _ rfl (by refine blk_put (cs := #[.int .i32 0, .int .i64 1, .int .i64 0]) ?_ 2 _ rfl; refine blk_put (cs := #[.int .i32 0, .int .i64 0, .int .i64 0]) ?_ 1 _ rfl; refine blk_put (cs := #[.int .i32 0, .int .i64 0, .int .i64 0]) ?_ 0 _ rfl; exact BK203.out) Tryd.underlying106 rfl (by kernel_rfl)) rfl ?_
    exact ⟨ze, zb⟩
   ·rw [if_neg c8] at H
    have c8b0 : (t204 == 0) = false := beq_eq_false_iff_ne.mpr c8
    have c8b1 : (t204 != 0) = true := bne_iff_ne.mpr c8
    have HC11 := Aside0.mk H
    clear H
    go_enter Tryd.func74, Tryd.ntmps74
    go_upto_block 0 with (first | ((with_reducible refine gate_dst (N := 2) rfl ?_); (try (refine gate_guard (by rfl) ?_; dsimp only)); refine box_event ?hg (N := 2) ?hd (cs := #[.int .i32 0, .int .i64 0, .int .i64 0]) (t := 106) ?hr ?_; (case hd => rfl); (case hg => rfl); (case hr => exact zo); intro gb203 hg w12 hbox hb; have BK203 := Aside0.mk (hbox); have GW203 := Aside0.mk ((zg hg : w.heap.size ≤ gb203)); have GE203 := Aside0.mk ((zg hg : w.heap.size ≤ gb203)); replace HB := (zs HB hb); clear hb hbox hg; have p6 : 0 ≤ (0 : Int) := (by omega); have q6 : 0 < a0.size := (by have : (0 : Int) < (a0.size : Int) := of_decide_eq_true za; omega); have hx6 : ∀ h : 0 < a0.size, ((a0[0]'h).toNat : Int) = bt a0 0 := bt_at a0 0; clear p6; have qi6 : (0 < (a0.size : Int)) = True := eq_true (of_decide_eq_true za); replace q6 := eq_true q6) | ((with_reducible refine gate_callee (f := 91) rfl ?_); refine goesL_ (some 11) rfl rfl Tryd.func91 (by kernel_rfl) rfl #[.int .u8 (bt a0 0)] rfl zl ?_; (with_reducible refine (backseatref01_need.calls k (bt a0 0) t204 _ A7.out).mono ?_); rintro e w' ⟨rfl, ⟨nd, rfl⟩⟩; refine ⟨_, rfl, ?_⟩))
    (try simp only [Act.put, List.setIfInBounds_toArray, List.set_cons_zero, List.set_cons_succ])
    go_cut [4] (fun v4 wc => ∃ (kq : Nat) (x4_10 : Int), v4 = .int .i64 x4_10 ∧ Aside0 (backseatref01_First.j1 kq a0 t204 x4_10 = some (r1, r2, r3)) ∧ Aside0 (kq ≤ k) ∧ Aside0 (wc.heap[gb203]? = some (.cells #[.int .i32 0, .int .i64 0, .int .i64 0] 106 (0, 0))) ∧ Aside0 (Below w.heap.size w wc))
    case first =>
     have H := HC11.out
     clear HC11
     have H' := Aside0.mk H
     clear H
     go_wp2
     go_loopg [4] k (fun kq v4 w' => ∃ (x4_1 : Int), v4 = .int .i64 x4_1 ∧ Aside0 (backseatref01_First.l0 kq a0 t204 x4_1 = some (r1, r2, r3)) ∧ Aside0 (kq ≤ k) ∧ Aside0 (w'.heap[gb203]? = some (.cells #[.int .i32 0, .int .i64 0, .int .i64 0] 106 (0, 0))) ∧ Aside0 (Below w.heap.size w w'))
     case atStart => exact ⟨(1), zf, H', ⟨Nat.le_refl _⟩, ⟨by exact BK203.out⟩, ⟨zb⟩⟩
     case round =>
      clear H'
      try clear c2
      try clear c2b0
      try clear c2b1
      try clear c5
      try clear c5b0
      try clear c5b1
      try clear p6
      try clear q6
      try clear hx6
      try clear qi6
      try clear c8
      try clear c8b0
      try clear c8b1
      try clear p6
      try clear q6
      obtain ⟨x4_1, rfl, HA, HK1, BK203, HB⟩ := hrel
      cases gk with
      | zero => exact absurd HA.out (by simp [backseatref01_First.l0])
      | succ k1 =>
       have H := HA.out
       clear HA
       simp only [backseatref01_First.l0] at H
       by_cases c13 : x4_1 < t204
       ·rw [if_pos c13] at H
        have c13b0 : decide (x4_1 < t204) = true := decide_eq_true c13
        clear c13
        (first | rw [c13b0] | (simp only [i64_w, i32_w]; rw [c13b0]) | skip)
        by_cases c14 : x4_1 < (a0.size : Int)
        ·rw [if_pos c14] at H
         have c14b0 : decide (x4_1 < (a0.size : Int)) = true := decide_eq_true c14
         clear c14
         obtain ⟨ji15, hji15⟩ : ∃ j_ : Int, (wrap64 (x4_1 + 1)) = j_ := ⟨_, rfl⟩
         replace H : (if 0 ≤ (ji15) then (if (ji15) ≤ (a0.size : Int) then ((backseatref01_begins.f (a0.extract 0 ((ji15) : Int).toNat) t204).bind fun t205 => (if t205 = true then (backseatref01_First.l0 k1 a0 t204 ji15) else (backseatref01_First.j1 k1 a0 t204 x4_1))) else (none)) else (none)) = some (r1, r2, r3) := by first | (rw [hji15] at H; exact H) | (simp only [hji15] at H ⊢; exact H)
         have hji15w : (IntKind.i64.wrap (x4_1 + 1)) = ji15 := (i64_w _).trans hji15
         by_cases c16 : 0 ≤ (ji15)
         ·rw [if_pos c16] at H
          have c16b0 := eq_true c16
          have c16b1 : decide (0 ≤ (ji15)) = true := decide_eq_true c16
          clear c16
          by_cases c17 : (ji15) ≤ (a0.size : Int)
          ·rw [if_pos c17] at H
           have c17b0 := eq_true c17
           have c17b1 : decide ((ji15) ≤ (a0.size : Int)) = true := decide_eq_true c17
           clear c17
           replace H := Option.bind_eq_some_iff.mp H
           obtain ⟨t205, A180, H⟩ := H
           replace H : (if t205 = true then (backseatref01_First.l0 k1 a0 t204 ji15) else (backseatref01_First.j1 k1 a0 t204 x4_1)) = some (r1, r2, r3) := H
           have A18 := Aside0.mk A180
           clear A180
           by_cases c19 : t205 = true
           ·subst c19
            have H1 : (backseatref01_First.l0 k1 a0 t204 ji15) = some (r1, r2, r3) := by rw [if_pos rfl] at H; exact H
            clear H
            have H := H1
            clear H1
            have H' := Aside0.mk H
            clear H
            go_wp2_with (first | (go_at_call 92; (with_reducible refine (backseatref01_begins.calls (a0.extract 0 ((ji15) : Int).toNat) t204 true _ A18.out).mono ?_); rintro e w20 ⟨rfl, hb⟩; replace BK203 := (zk BK203 hb); replace HB := (zs HB hb); (try clear hb)))
            go_roundg k1
            case measure => have := HK1.out; omega
            case rel => exact ⟨(ji15), (by first | rfl | (simp; done) | (simp only [← hji15] <;> (first | rfl | (simp; done))) | (simp [*]; done) | (simp; simp only [decide_eq_true_eq, eq_iff_iff, iff_true] at *; omega)), H', ⟨by have := HK1.out; omega⟩, ⟨by exact BK203.out⟩, ⟨zb⟩⟩
           ·replace c19 := Bool.eq_false_iff.mpr c19
            subst c19
            have H1 : (backseatref01_First.j1 k1 a0 t204 x4_1) = some (r1, r2, r3) := by rw [if_neg (show ¬ (false = true) by decide)] at H; exact H
            clear H
            have H := H1
            clear H1
            have H' := Aside0.mk H
            clear H
            go_wp2_with (first | (go_at_call 92; (with_reducible refine (backseatref01_begins.calls (a0.extract 0 ((ji15) : Int).toNat) t204 false _ A18.out).mono ?_); rintro e w21 ⟨rfl, hb⟩; replace BK203 := (zk BK203 hb); replace HB := (zs HB hb); (try clear hb)))
            go_meet
            case rel => exact ⟨_, (x4_1), zf, H', ⟨by have := HK1.out; first | omega | exact Nat.le_refl _⟩, ⟨by exact BK203.out⟩, ⟨zb⟩⟩
          ·rw [if_neg c17] at H
           exact absurd H (by simp)
         ·rw [if_neg c16] at H
          exact absurd H (by simp)
        ·rw [if_neg c14] at H
         have c14b0 : decide (x4_1 < (a0.size : Int)) = false := decide_eq_false c14
         clear c14
         have H' := Aside0.mk H
         clear H
         go_wp2
         go_meet
         case rel => exact ⟨_, (x4_1), zf, H', ⟨by have := HK1.out; first | omega | exact Nat.le_refl _⟩, ⟨by exact BK203.out⟩, ⟨zb⟩⟩
       ·rw [if_neg c13] at H
        have c13b0 : decide (x4_1 < t204) = false := decide_eq_false c13
        clear c13
        (first | rw [c13b0] | (simp only [i64_w, i32_w]; rw [c13b0]) | skip)
        have H' := Aside0.mk H
        clear H
        go_wp2
        go_meet
        case rel => exact ⟨_, (x4_1), zf, H', ⟨by have := HK1.out; first | omega | exact Nat.le_refl _⟩, ⟨by exact BK203.out⟩, ⟨zb⟩⟩
    case rest =>
     clear HC11
     try clear c2
     try clear c2b0
     try clear c2b1
     try clear c5
     try clear c5b0
     try clear c5b1
     try clear p6
     try clear q6
     try clear hx6
     try clear qi6
     try clear c8
     try clear c8b0
     try clear c8b1
     try clear p6
     try clear q6
     obtain ⟨kq, x4_10, rfl, HA, HJ10, BK203, HB⟩ := hcut
     cases kq with
     | zero => exact absurd HA.out (by simp [backseatref01_First.j1])
     | succ kj10 =>
      have H := HA.out
      clear HA
      simp only [backseatref01_First.j1] at H
      by_cases c22 : x4_10 = t204
      ·rw [if_pos c22] at H
       have c22b0 : (x4_10 == t204) = true := beq_iff_eq.mpr c22
       have c22b1 : (x4_10 != t204) = false := bne_eq_false_iff_eq.mpr c22
       clear c22
       by_cases c23 : 0 ≤ t204
       ·rw [if_pos c23] at H
        have c23b0 := eq_true c23
        have c23b1 : decide (0 ≤ t204) = true := decide_eq_true c23
        clear c23
        by_cases c24 : t204 ≤ (a0.size : Int)
        ·rw [if_pos c24] at H
         have c24b0 := eq_true c24
         have c24b1 : decide (t204 ≤ (a0.size : Int)) = true := decide_eq_true c24
         clear c24
         replace H := Option.bind_eq_some_iff.mp H
         obtain ⟨t206, A250, H⟩ := H
         replace H : (some (t206, t204, 0)) = some (r1, r2, r3) := H
         have A25 := Aside0.mk A250
         clear A250
         simp only [Option.some.injEq, Prod.mk.injEq] at H
         obtain ⟨rfl, rfl, rfl⟩ := H
         go_wp2_with (first | ((with_reducible refine gate_callee (f := 93) rfl ?_); refine goesL_ (some 40) rfl rfl Tryd.func93 (by kernel_rfl) rfl #[.string (a0.extract 0 (t204 : Int).toNat)] rfl zl ?_; (with_reducible refine (backseatref01_value.calls (a0.extract 0 (t204 : Int).toNat) t206 _ A25.out).mono ?_); rintro e w26 ⟨rfl, hb⟩; refine ⟨_, rfl, ?_⟩; replace BK203 := (zk BK203 hb); replace HB := (zs HB hb); (try clear hb); obtain ⟨hcz27_0, hcz27_1, hcz27_2, hfz27_0, hfz27_1, hfz27_2⟩ := zq3 (w := w26) BK203))
         refine bodyPost_ret (results_cell_row rfl _ _ gb203 106 #[.int .i32 t206, .int .i64 t204, .int .i64 0] (0, 0) _ rfl (by refine blk_put (cs := #[.int .i32 t206, .int .i64 t204, .int .i64 0]) ?_ 2 _ rfl; refine blk_put (cs := #[.int .i32 t206, .int .i64 0, .int .i64 0]) ?_ 1 _ rfl; refine blk_put (cs := #[.int .i32 0, .int .i64 0, .int .i64 0]) ?_ 0 _ rfl; exact BK203.out) Tryd.underlying106 rfl (by kernel_rfl)) rfl ?_
         exact ⟨ze, zb⟩
        ·rw [if_neg c24] at H
         exact absurd H (by simp)
       ·rw [if_neg c23] at H
        exact absurd H (by simp)
      ·rw [if_neg c22] at H
       have c22b0 : (x4_10 == t204) = false := beq_eq_false_iff_ne.mpr c22
       have c22b1 : (x4_10 != t204) = true := bne_iff_ne.mpr c22
       by_cases c28 : x4_10 = (a0.size : Int)
       ·rw [if_pos c28] at H
        have c28b0 : (x4_10 == (a0.size : Int)) = true := beq_iff_eq.mpr c28
        have c28b1 : (x4_10 != (a0.size : Int)) = false := bne_eq_false_iff_eq.mpr c28
        clear c28
        simp only [Option.some.injEq, Prod.mk.injEq] at H
        obtain ⟨rfl, rfl, rfl⟩ := H
        obtain ⟨hcz29_0, hcz29_1, hcz29_2, hfz29_0, hfz29_1, hfz29_2⟩ := zq3 (w := wc) BK203
        go_wp2
        refine bodyPost_ret (results_cell_row rfl _ _ gb203 106 #[.int .i32 0, .int .i64 0, .int .i64 2] (0, 0) _ rfl (by refine blk_put (cs := #[.int .i32 0, .int .i64 0, .int .i64 0]) ?_ 2 _ rfl; refine blk_put (cs := #[.int .i32 0, .int .i64 0, .int .i64 0]) ?_ 1 _ rfl; refine blk_put (cs := #[.int .i32 0, .int .i64 0, .int .i64 0]) ?_ 0 _ rfl; exact BK203.out) Tryd.underlying106 rfl (by kernel_rfl)) rfl ?_
        exact ⟨ze, zb⟩
       ·rw [if_neg c28] at H
        have c28b0 : (x4_10 == (a0.size : Int)) = false := beq_eq_false_iff_ne.mpr c28
        have c28b1 : (x4_10 != (a0.size : Int)) = true := bne_iff_ne.mpr c28
        simp only [Option.some.injEq, Prod.mk.injEq] at H
        obtain ⟨rfl, rfl, rfl⟩ := H
        obtain ⟨hcz30_0, hcz30_1, hcz30_2, hfz30_0, hfz30_1, hfz30_2⟩ := zq3 (w := wc) BK203
        go_wp2
        refine bodyPost_ret (results_cell_row rfl _ _ gb203 106 #[.int .i32 0, .int .i64 x4_10, .int .i64 4] (0, 0) _ rfl (by refine blk_put (cs := #[.int .i32 0, .int .i64 x4_10, .int .i64 0]) ?_ 2 _ rfl; refine blk_put (cs := #[.int .i32 0, .int .i64 0, .int .i64 0]) ?_ 1 _ rfl; refine blk_put (cs := #[.int .i32 0, .int .i64 0, .int .i64 0]) ?_ 0 _ rfl; exact BK203.out) Tryd.underlying106 rfl (by kernel_rfl)) rfl ?_
        exact ⟨ze, zb⟩
  ·rw [if_neg c5] at H
   exact absurd H (by simp)
end Go.Proofs.YtckkdaehmccjlaaDoor.P
namespace Go.Proofs.YtckkdaehmccjlaaDoor.P
open Go.RowKit Go.Proofs.YtckkdaehmccjlaaDoorW.PrintWords Go.Proofs.YtckkdaehmccjlaaDoorW.PrintLast Go.Proofs.YtckkdaehmccjlaaDoorW.PrintMore
set_option linter.unusedVariables false
set_option linter.unusedSimpArgs false
theorem w64 (n : Nat) (h : (n : Int) ≤ 9223372036854775806) : wrap64 ((n : Int) + 1) = ((n + 1 : Nat) : Int) := by
 rw [IntWalk.wrap64_in _ (by omega)]; omega
def okD (s : ByteArray) : Prop := ¬ ((Lib.decodeGo s).1 = 65533 ∧ (Lib.decodeGo s).2 ≤ 1)
theorem pre_bytes (s : ByteArray) (i : Nat) (h : i ≤ s.size) : bytesOf (s.extract 0 i) = (bytesOf s).take i := by
 unfold bytesOf
 rw [← List.map_take]
 congr 1
 rw [show (s.extract 0 i).data = s.data.extract 0 i from ByteArray.data_extract]
 simp
theorem pre_size (s : ByteArray) (i : Nat) (h : i ≤ s.size) : (s.extract 0 i).size = i := by
 simp [ByteArray.size_extract]; omega
theorem ref_loop (s : ByteArray) (nd : Nat) (h1 : 1 ≤ nd) (h4 : nd ≤ 4) (hs : (s.size : Int) ≤ 9223372036854775807) : ∀ m x, x + m = nd → 1 ≤ x → x ≤ s.size →
  ((∀ i, x < i → i ≤ nd → i ≤ s.size ∧ begB (bytesOf (s.extract 0 i)) nd = true) ∧ Ev (fun k => backseatref01_First.l0 k s nd x) (valueZ (bytesOf (s.extract 0 nd)), (nd : Int), 0)) ∨
  ((∃ i, x < i ∧ i ≤ nd ∧ ¬ (i ≤ s.size ∧ begB (bytesOf (s.extract 0 i)) nd = true)) ∧ ∃ a e, e ≠ 0 ∧ Ev (fun k => backseatref01_First.l0 k s nd x) (0, a, e))
 | 0, x, hx, hx1, hxs => by
  obtain rfl : x = nd := by omega
  refine Or.inl ⟨fun i h h' => by omega, Ev.succ ?_⟩
  simp only [backseatref01_First.l0]
  refine Ev.neg (by omega) (Ev.succ ?_)
  simp only [backseatref01_First.j1]
  refine Ev.pos trivial (Ev.pos (by omega) (Ev.pos (by omega) ?_))
  rw [Int.toNat_natCast]
  refine Ev.bind (v := valueZ (bytesOf (s.extract 0 x))) (Ev.of ?_) (Ev.ret _)
  unfold backseatref01_value.f
  rw [if_pos (by rw [pre_size s x hxs]; omega)]
 | m + 1, x, hx, hx1, hxs => by
  by_cases hlt : x < s.size
  ·have hw := w64 x (by omega)
   by_cases hb : begB (bytesOf (s.extract 0 (x + 1))) nd = true
   ·have hstep : ∀ r, Ev (fun k => backseatref01_First.l0 k s nd ((x + 1 : Nat) : Int)) r → Ev (fun k => backseatref01_First.l0 k s nd x) r := fun r hr => by
     refine Ev.succ ?_
     simp only [backseatref01_First.l0]
     refine Ev.pos (by omega) (Ev.pos (by omega) ?_)
     rw [hw]
     refine Ev.pos (by omega) (Ev.pos (by omega) ?_)
     rw [Int.toNat_natCast]
     refine Ev.bind (v := true) (Ev.of ?_) (Ev.pos rfl hr)
     unfold backseatref01_begins.f
     rw [if_pos (by rw [pre_size s (x + 1) (by omega)]; omega), Int.toNat_natCast, hb]
    rcases ref_loop s nd h1 h4 hs m (x + 1) (by omega) (by omega) (by omega) with ⟨ha, he⟩ | ⟨⟨i, hi1, hi2, hi3⟩, a, e, h0, he⟩
    ·refine Or.inl ⟨fun i h h' => ?_, hstep _ he⟩
     by_cases e : i = x + 1
     ·subst e; exact ⟨by omega, hb⟩
     ·exact ha i (by omega) h'
    ·exact Or.inr ⟨⟨i, by omega, hi2, hi3⟩, a, e, h0, hstep _ he⟩
   ·refine Or.inr ⟨⟨x + 1, by omega, by omega, fun h => hb h.2⟩, (x : Int), 4, by decide, Ev.succ ?_⟩
    simp only [backseatref01_First.l0]
    refine Ev.pos (by omega) (Ev.pos (by omega) ?_)
    rw [hw]
    refine Ev.pos (by omega) (Ev.pos (by omega) ?_)
    rw [Int.toNat_natCast]
    refine Ev.bind (v := false) (Ev.of ?_) (Ev.neg (by decide) (Ev.succ ?_))
    ·unfold backseatref01_begins.f
     rw [if_pos (by rw [pre_size s (x + 1) (by omega)]; omega), Int.toNat_natCast]
     cases h : begB (bytesOf (s.extract 0 (x + 1))) nd
     ·rfl
     ·exact absurd h hb
    ·simp only [backseatref01_First.j1]
     exact Ev.neg (by omega) (Ev.neg (by omega) (Ev.ret _))
  ·refine Or.inr ⟨⟨x + 1, by omega, by omega, fun h => by omega⟩, 0, 2, by decide, Ev.succ ?_⟩
   simp only [backseatref01_First.l0]
   refine Ev.pos (by omega) (Ev.neg (by omega) (Ev.succ ?_))
   simp only [backseatref01_First.j1]
   exact Ev.neg (by omega) (Ev.pos (by omega) (Ev.ret _))
def needN (b : Nat) : Nat := if b < 128 then 1 else if b < 194 then 0 else if b < 224 then 2 else if b < 240 then 3 else if b < 245 then 4 else 0
theorem need_ev (b : Nat) : Ev (fun k => backseatref01_need.f k (b : Int)) (needN b : Int) := by
 refine ⟨2, fun k hk => ?_⟩
 obtain ⟨j, rfl⟩ : ∃ j, k = j + 2 := ⟨k - 2, by omega⟩
 have j0t : ∀ k, backseatref01_need.j0 (k + 1) (b : Int) true = some 2 := fun k => by rw [backseatref01_need.j0]; rfl
 have j1t : ∀ k, backseatref01_need.j1 (k + 1) (b : Int) true = some 3 := fun k => by rw [backseatref01_need.j1]; rfl
 show backseatref01_need.f (j + 2) (b : Int) = some (needN b : Int)
 unfold backseatref01_need.f needN
 by_cases c1 : b < 128
 ·rw [if_pos (by omega), if_pos c1]; rfl
 rw [if_neg (by omega), if_neg c1]
 by_cases c2 : b < 194
 ·rw [if_neg (by omega), if_pos c2, backseatref01_need.j0, if_neg (by decide), if_neg (by omega), backseatref01_need.j1, if_neg (by decide), if_neg (by omega)]; rfl
 rw [if_pos (by omega), if_neg c2]
 by_cases c3 : b < 224
 ·rw [decide_eq_true (by omega), j0t, if_pos c3]; rfl
 rw [decide_eq_false (by omega), if_neg c3, backseatref01_need.j0, if_neg (by decide), if_pos (by omega)]
 by_cases c4 : b < 240
 ·rw [decide_eq_true (by omega), j1t, if_pos c4]; rfl
 rw [decide_eq_false (by omega), if_neg c4, backseatref01_need.j1, if_neg (by decide), if_pos (by omega)]
 by_cases c5 : b < 245
 ·rw [if_pos (by omega), if_pos c5]; rfl
 ·rw [if_neg (by omega), if_neg c5]; rfl
end Go.Proofs.YtckkdaehmccjlaaDoor.P
namespace Go.Proofs.YtckkdaehmccjlaaDoor.P
set_option linter.unusedVariables false
set_option linter.unusedSimpArgs false
theorem valGo_ok {c : Int} {t : List Int} {r : Int} (h : 128 ≤ c ∧ c ≤ 191) : valGo (c :: t) r = valGo t (64 * r + c - 128) := by
 show (if c < 128 ∨ c > 191 then -1 else valGo t (64 * r + c - 128)) = _
 rw [if_neg (by omega)]
theorem valGo_nil (r : Int) : valGo [] r = r := rfl
theorem contOK_iff {l : List Int} : contOK l = true ↔ ∀ c ∈ l, 128 ≤ c ∧ c ≤ 191 := by
 unfold contOK; simp [List.all_eq_true]
theorem begZ_iff {lo hi fl : Int} : begZ lo hi fl = true ↔ fl ≤ hi ∧ lo ≤ 1114111 ∧ (lo < 55296 ∨ 57343 < hi) := by
 unfold begZ; simp; omega
theorem beg_iff {b : Int} {t : List Int} {n : Nat} {lo hi : List Int} (hlo : b :: t ++ List.replicate (n - (b :: t).length) 128 = lo) (hhi : b :: t ++ List.replicate (n - (b :: t).length) 191 = hi) :
  begB (b :: t) n = true ↔ (∀ c ∈ t, 128 ≤ c ∧ c ≤ 191) ∧ (floorOf n ≤ valueZ hi ∧ valueZ lo ≤ 1114111 ∧ (valueZ lo < 55296 ∨ 57343 < valueZ hi)) := by
 unfold begB
 rw [Bool.and_eq_true, List.drop_one, List.tail_cons, contOK_iff, begZ_iff, hlo, hhi]
theorem val2 {a b : Int} (hb : 128 ≤ b ∧ b ≤ 191) : valueZ [a, b] = 64 * (a - 192) + b - 128 := by
 simp only [valueZ, valGo_ok hb, valGo_nil]; rfl
theorem val3 {a b c : Int} (hb : 128 ≤ b ∧ b ≤ 191) (hc : 128 ≤ c ∧ c ≤ 191) : valueZ [a, b, c] = 64 * (64 * (a - 224) + b - 128) + c - 128 := by
 simp only [valueZ, valGo_ok hb, valGo_ok hc, valGo_nil]; rfl
theorem val4 {a b c d : Int} (hb : 128 ≤ b ∧ b ≤ 191) (hc : 128 ≤ c ∧ c ≤ 191) (hd : 128 ≤ d ∧ d ≤ 191) : valueZ [a, b, c, d] = 64 * (64 * (64 * (a - 240) + b - 128) + c - 128) + d - 128 := by
 simp only [valueZ, valGo_ok hb, valGo_ok hc, valGo_ok hd, valGo_nil]; rfl
theorem lo8 : (128 : Int) ≤ 128 ∧ (128 : Int) ≤ 191 := by decide
theorem hi8 : (128 : Int) ≤ 191 ∧ (191 : Int) ≤ 191 := by decide
theorem fl2 : floorOf 2 = 128 := rfl
theorem fl3 : floorOf 3 = 2048 := rfl
theorem fl4 : floorOf 4 = 65536 := rfl
theorem all1 {b : Int} : (∀ c ∈ [b], 128 ≤ c ∧ c ≤ 191) ↔ (128 ≤ b ∧ b ≤ 191) := by simp
theorem all2 {b c : Int} : (∀ x ∈ [b, c], 128 ≤ x ∧ x ≤ 191) ↔ (128 ≤ b ∧ b ≤ 191) ∧ (128 ≤ c ∧ c ≤ 191) := by simp
theorem all3 {b c d : Int} : (∀ x ∈ [b, c, d], 128 ≤ x ∧ x ≤ 191) ↔ (128 ≤ b ∧ b ≤ 191) ∧ (128 ≤ c ∧ c ≤ 191) ∧ (128 ≤ d ∧ d ≤ 191) := by simp
theorem beg22 {a b : Int} (h : 194 ≤ a ∧ a < 224) : begB [a, b] 2 = true ↔ 128 ≤ b ∧ b ≤ 191 := by
 rw [beg_iff (lo := [a, b]) (hi := [a, b]) rfl rfl, all1, fl2]
 exact ⟨fun h => h.1, fun hb => ⟨hb, by rw [val2 hb]; omega⟩⟩
theorem beg33 {a b c : Int} (h : 224 ≤ a ∧ a < 240) : begB [a, b, c] 3 = true ↔ (128 ≤ b ∧ b ≤ 191) ∧ (128 ≤ c ∧ c ≤ 191) ∧ 2048 ≤ valueZ [a, b, c] ∧ (valueZ [a, b, c] < 55296 ∨ 57343 < valueZ [a, b, c]) := by
 rw [beg_iff (lo := [a, b, c]) (hi := [a, b, c]) rfl rfl, all2, fl3]
 constructor
 ·rintro ⟨⟨hb, hc⟩, h1, h2, h3⟩; exact ⟨hb, hc, h1, h3⟩
 ·rintro ⟨hb, hc, h1, h3⟩; exact ⟨⟨hb, hc⟩, h1, by rw [val3 hb hc]; omega, h3⟩
theorem beg32 {a b c : Int} (h : 224 ≤ a ∧ a < 240) (hf : begB [a, b, c] 3 = true) : begB [a, b] 3 = true := by
 obtain ⟨hb, hc, h1, h3⟩ := (beg33 h).1 hf
 rw [beg_iff (lo := [a, b, 128]) (hi := [a, b, 191]) rfl rfl, all1, fl3, val3 hb lo8, val3 hb hi8]
 rw [val3 hb hc] at h1 h3
 refine ⟨hb, ?_⟩
 omega
theorem beg44 {a b c d : Int} (h : 240 ≤ a ∧ a < 245) : begB [a, b, c, d] 4 = true ↔ (128 ≤ b ∧ b ≤ 191) ∧ (128 ≤ c ∧ c ≤ 191) ∧ (128 ≤ d ∧ d ≤ 191) ∧ 65536 ≤ valueZ [a, b, c, d] ∧ valueZ [a, b, c, d] ≤ 1114111 := by
 rw [beg_iff (lo := [a, b, c, d]) (hi := [a, b, c, d]) rfl rfl, all3, fl4]
 constructor
 ·rintro ⟨⟨hb, hc, hd⟩, h1, h2, h3⟩; exact ⟨hb, hc, hd, h1, h2⟩
 ·rintro ⟨hb, hc, hd, h1, h2⟩; exact ⟨⟨hb, hc, hd⟩, h1, h2, Or.inr (by omega)⟩
theorem beg43 {a b c d : Int} (h : 240 ≤ a ∧ a < 245) (hf : begB [a, b, c, d] 4 = true) : begB [a, b, c] 4 = true := by
 obtain ⟨hb, hc, hd, h1, h3⟩ := (beg44 h).1 hf
 rw [beg_iff (lo := [a, b, c, 128]) (hi := [a, b, c, 191]) rfl rfl, all2, fl4, val4 hb hc lo8, val4 hb hc hi8]
 rw [val4 hb hc hd] at h1 h3
 refine ⟨⟨hb, hc⟩, ?_⟩
 omega
theorem beg42 {a b c d : Int} (h : 240 ≤ a ∧ a < 245) (hf : begB [a, b, c, d] 4 = true) : begB [a, b] 4 = true := by
 obtain ⟨hb, hc, hd, h1, h3⟩ := (beg44 h).1 hf
 rw [beg_iff (lo := [a, b, 128, 128]) (hi := [a, b, 191, 191]) rfl rfl, all1, fl4, val4 hb lo8 lo8, val4 hb hi8 hi8]
 rw [val4 hb hc hd] at h1 h3
 refine ⟨hb, ?_⟩
 omega
open Go.Lib
theorem need_cases (a : Nat) : (needN a = 0 ∧ 128 ≤ a ∧ (a < 194 ∨ 245 ≤ a)) ∨ (needN a = 1 ∧ a < 128) ∨ (needN a = 2 ∧ 194 ≤ a ∧ a < 224) ∨ (needN a = 3 ∧ 224 ≤ a ∧ a < 240) ∨ (needN a = 4 ∧ 240 ≤ a ∧ a < 245) := by
 unfold needN
 repeat' split
 all_goals omega
theorem dec0 {n a b c d : Nat} (h : 128 ≤ a ∧ (a < 194 ∨ 245 ≤ a)) (ha : a < 256) : decodeN n a b c d = (65533, 1) := by
 unfold decodeN
 repeat' split
 all_goals first | rfl | (exfalso; omega)
theorem dec1 {n a b c d : Nat} (h : a < 128) : decodeN n a b c d = (a, 1) := by
 unfold decodeN; rw [if_pos h]
theorem dec2 {n a b c d : Nat} (h : 194 ≤ a ∧ a < 224) (hb : b < 256) (hk : 2 ≤ n ∧ 128 ≤ b ∧ b ≤ 191) : decodeN n a b c d = (64 * (a - 192) + b - 128, 2) := by
 unfold decodeN
 repeat' split
 all_goals first | (exfalso; omega) | (apply Prod.ext <;> simp only <;> omega)
theorem dec2n {n a b c d : Nat} (h : 194 ≤ a ∧ a < 224) (hb : b < 256) (hk : ¬ (2 ≤ n ∧ 128 ≤ b ∧ b ≤ 191)) : decodeN n a b c d = (65533, 1) := by
 unfold decodeN
 repeat' split
 all_goals first | rfl | (exfalso; omega)
theorem dec3 {n a b c d v : Nat} (h : 224 ≤ a ∧ a < 240) (hb : b < 256) (hc : c < 256) (hv : v = a % 16 * 4096 + b % 64 * 64 + c % 64) (hk : 3 ≤ n ∧ (128 ≤ b ∧ b ≤ 191) ∧ (128 ≤ c ∧ c ≤ 191) ∧ 2048 ≤ v ∧ (v < 55296 ∨ 57343 < v)) : decodeN n a b c d = (v, 3) := by
 subst hv
 unfold decodeN
 rw [if_neg (by omega), if_neg (by omega), if_pos (by omega), if_pos (by omega)]
theorem dec3n {n a b c d v : Nat} (h : 224 ≤ a ∧ a < 240) (hb : b < 256) (hc : c < 256) (hv : v = a % 16 * 4096 + b % 64 * 64 + c % 64) (hk : ¬ (3 ≤ n ∧ (128 ≤ b ∧ b ≤ 191) ∧ (128 ≤ c ∧ c ≤ 191) ∧ 2048 ≤ v ∧ (v < 55296 ∨ 57343 < v))) : decodeN n a b c d = (65533, 1) := by
 subst hv
 unfold decodeN
 rw [if_neg (by omega), if_neg (by omega)]
 by_cases h1 : a / 16 = 14 ∧ (1 < n ∧ b / 64 = 2) ∧ (2 < n ∧ c / 64 = 2)
 ·rw [if_pos h1, if_neg (by omega)]
 ·rw [if_neg h1, if_neg (by omega)]
theorem dec4 {n a b c d v : Nat} (h : 240 ≤ a ∧ a < 245) (hb : b < 256) (hc : c < 256) (hd : d < 256) (hv : v = a % 8 * 262144 + b % 64 * 4096 + c % 64 * 64 + d % 64) (hk : 4 ≤ n ∧ (128 ≤ b ∧ b ≤ 191) ∧ (128 ≤ c ∧ c ≤ 191) ∧ (128 ≤ d ∧ d ≤ 191) ∧ 65536 ≤ v ∧ v ≤ 1114111) : decodeN n a b c d = (v, 4) := by
 subst hv
 unfold decodeN
 rw [if_neg (by omega), if_neg (by omega), if_neg (by omega), if_pos (by omega), if_pos (by omega)]
theorem dec4n {n a b c d v : Nat} (h : 240 ≤ a ∧ a < 245) (hb : b < 256) (hc : c < 256) (hd : d < 256) (hv : v = a % 8 * 262144 + b % 64 * 4096 + c % 64 * 64 + d % 64) (hk : ¬ (4 ≤ n ∧ (128 ≤ b ∧ b ≤ 191) ∧ (128 ≤ c ∧ c ≤ 191) ∧ (128 ≤ d ∧ d ≤ 191) ∧ 65536 ≤ v ∧ v ≤ 1114111)) : decodeN n a b c d = (65533, 1) := by
 subst hv
 unfold decodeN
 rw [if_neg (by omega), if_neg (by omega), if_neg (by omega)]
 by_cases h1 : a / 8 = 30 ∧ (1 < n ∧ b / 64 = 2) ∧ (2 < n ∧ c / 64 = 2) ∧ (3 < n ∧ d / 64 = 2)
 ·rw [if_pos h1, if_neg (by omega)]
 ·rw [if_neg h1]
end Go.Proofs.YtckkdaehmccjlaaDoor.P
namespace Go.Proofs.YtckkdaehmccjlaaDoor.P
open Go.RowKit Go.Proofs.YtckkdaehmccjlaaDoorW.PrintWords Go.Proofs.YtckkdaehmccjlaaDoorW.PrintLast Go.Proofs.YtckkdaehmccjlaaDoorW.PrintMore Go.Lib
set_option linter.unusedVariables false
set_option linter.unusedSimpArgs false
theorem bt_get (s : ByteArray) (i : Nat) (h : i < s.size) : bt s (i : Nat) = ((s.get! i).toNat : Int) := by
  unfold bt
  rw [dif_pos (by simpa using h)]
  congr 2
  simp [ByteArray.get!, getElem!_pos, h]
  rfl
theorem pre1 (s : ByteArray) (h : 1 ≤ s.size) : bytesOf (s.extract 0 1) = [((s.get! 0).toNat : Int)] := by
  rw [pre_bytes s 1 h, bytesOf_cons s (by omega)]; simp [← bt_get s 0 (by omega)]
theorem pre2 (s : ByteArray) (h : 2 ≤ s.size) : bytesOf (s.extract 0 2) = [((s.get! 0).toNat : Int), ((s.get! 1).toNat : Int)] := by
  rw [pre_bytes s 2 h, bytesOf_cons s (by omega), bytesOf_drop s 1 (by omega)]; simp [← bt_get s 0 (by omega), ← bt_get s 1 (by omega)]
theorem pre3 (s : ByteArray) (h : 3 ≤ s.size) : bytesOf (s.extract 0 3) = [((s.get! 0).toNat : Int), ((s.get! 1).toNat : Int), ((s.get! 2).toNat : Int)] := by
  rw [pre_bytes s 3 h, bytesOf_cons s (by omega), bytesOf_drop s 1 (by omega), bytesOf_drop s 2 (by omega)]; simp [← bt_get s 0 (by omega), ← bt_get s 1 (by omega), ← bt_get s 2 (by omega)]
theorem pre4 (s : ByteArray) (h : 4 ≤ s.size) : bytesOf (s.extract 0 4) = [((s.get! 0).toNat : Int), ((s.get! 1).toNat : Int), ((s.get! 2).toNat : Int), ((s.get! 3).toNat : Int)] := by
  rw [pre_bytes s 4 h, bytesOf_cons s (by omega), bytesOf_drop s 1 (by omega), bytesOf_drop s 2 (by omega), bytesOf_drop s 3 (by omega)]; simp [← bt_get s 0 (by omega), ← bt_get s 1 (by omega), ← bt_get s 2 (by omega), ← bt_get s 3 (by omega)]
theorem dec_go (s : ByteArray) (h : s.size ≠ 0) : decodeGo s = decodeN s.size (s.get! 0).toNat (s.get! 1).toNat (s.get! 2).toNat (s.get! 3).toNat := by
  unfold decodeGo; rw [if_neg h, decode_at]; simp
theorem byte_lt (s : ByteArray) (i : Nat) : (s.get! i).toNat < 256 := (s.get! i).toNat_lt
theorem ref_sem (s : ByteArray) (h0 : s.size ≠ 0) : needN (s.get! 0).toNat = 0 ∧ ¬ okD s ∨ 1 ≤ needN (s.get! 0).toNat ∧ needN (s.get! 0).toNat ≤ 4 ∧
    ((∀ i, 1 < i → i ≤ needN (s.get! 0).toNat → i ≤ s.size ∧ begB (bytesOf (s.extract 0 i)) (needN (s.get! 0).toNat) = true) ∧ okD s ∧ (decodeGo s).2 = needN (s.get! 0).toNat ∧ valueZ (bytesOf (s.extract 0 (needN (s.get! 0).toNat))) = (decodeGo s).1 ∨
     (∃ i, 1 < i ∧ i ≤ needN (s.get! 0).toNat ∧ ¬ (i ≤ s.size ∧ begB (bytesOf (s.extract 0 i)) (needN (s.get! 0).toNat) = true)) ∧ ¬ okD s) := by
  unfold okD
  rw [dec_go s h0]
  have ha := byte_lt s 0
  have hb := byte_lt s 1
  have hc := byte_lt s 2
  have hd := byte_lt s 3
  have q1 := pre1 s (by omega)
  have q2 := fun h => pre2 s h
  have q3 := fun h => pre3 s h
  have q4 := fun h => pre4 s h
  generalize (s.get! 0).toNat = a at *
  generalize (s.get! 1).toNat = b at *
  generalize (s.get! 2).toNat = c at *
  generalize (s.get! 3).toNat = d at *
  rcases need_cases a with ⟨e, h⟩ | ⟨e, h⟩ | ⟨e, h⟩ | ⟨e, h⟩ | ⟨e, h⟩
  · left; rw [dec0 h ha]; exact ⟨e, by simp⟩
  · right
    rw [e, dec1 h, q1]
    exact ⟨by omega, by omega, Or.inl ⟨fun i h1 h2 => by omega, by simp; omega, rfl, rfl⟩⟩
  · right
    rw [e]
    refine ⟨by omega, by omega, ?_⟩
    by_cases hk : 2 ≤ s.size ∧ 128 ≤ b ∧ b ≤ 191
    · left
      rw [dec2 h hb hk, q2 hk.1, val2 (by omega)]
      refine ⟨fun i h1 h2 => ?_, by simp, rfl, by simp only; omega⟩
      obtain rfl : i = 2 := by omega
      exact ⟨hk.1, by rw [q2 hk.1]; exact (beg22 (by omega)).2 (by omega)⟩
    · right
      rw [dec2n h hb hk]
      refine ⟨⟨2, by omega, by omega, fun hx => hk ?_⟩, by simp⟩
      rw [q2 hx.1] at hx
      have := (beg22 (by omega)).1 hx.2
      omega
  · right
    rw [e]
    refine ⟨by omega, by omega, ?_⟩
    by_cases hk : 3 ≤ s.size ∧ (128 ≤ b ∧ b ≤ 191) ∧ (128 ≤ c ∧ c ≤ 191) ∧ 2048 ≤ a % 16 * 4096 + b % 64 * 64 + c % 64 ∧ (a % 16 * 4096 + b % 64 * 64 + c % 64 < 55296 ∨ 57343 < a % 16 * 4096 + b % 64 * 64 + c % 64)
    · left
      rw [dec3 h hb hc rfl hk, q3 hk.1, val3 (by omega) (by omega)]
      have hv : (64 * (64 * ((a : Int) - 224) + b - 128) + c - 128 : Int) = ((a % 16 * 4096 + b % 64 * 64 + c % 64 : Nat) : Int) := by omega
      have hf : begB [(a : Int), b, c] 3 = true := (beg33 (by omega)).2 ⟨by omega, by omega, by rw [val3 (by omega) (by omega), hv]; omega, by rw [val3 (by omega) (by omega), hv]; omega⟩
      refine ⟨fun i h1 h2 => ?_, by simp, rfl, hv⟩
      rcases (show i = 2 ∨ i = 3 by omega) with rfl | rfl
      · exact ⟨by omega, by rw [q2 (by omega)]; exact beg32 (by omega) hf⟩
      · exact ⟨by omega, by rw [q3 (by omega)]; exact hf⟩
    · right
      rw [dec3n h hb hc rfl hk]
      refine ⟨⟨3, by omega, by omega, fun hx => hk ?_⟩, by simp⟩
      rw [q3 hx.1] at hx
      obtain ⟨x1, x2, x3, x4⟩ := (beg33 (by omega)).1 hx.2
      rw [val3 x1 x2] at x3 x4
      omega
  · right
    rw [e]
    refine ⟨by omega, by omega, ?_⟩
    by_cases hk : 4 ≤ s.size ∧ (128 ≤ b ∧ b ≤ 191) ∧ (128 ≤ c ∧ c ≤ 191) ∧ (128 ≤ d ∧ d ≤ 191) ∧ 65536 ≤ a % 8 * 262144 + b % 64 * 4096 + c % 64 * 64 + d % 64 ∧ a % 8 * 262144 + b % 64 * 4096 + c % 64 * 64 + d % 64 ≤ 1114111
    · left
      rw [dec4 h hb hc hd rfl hk, q4 hk.1, val4 (by omega) (by omega) (by omega)]
      have hv : (64 * (64 * (64 * ((a : Int) - 240) + b - 128) + c - 128) + d - 128 : Int) = ((a % 8 * 262144 + b % 64 * 4096 + c % 64 * 64 + d % 64 : Nat) : Int) := by omega
      have hf : begB [(a : Int), b, c, d] 4 = true := (beg44 (by omega)).2 ⟨by omega, by omega, by omega, by rw [val4 (by omega) (by omega) (by omega), hv]; omega, by rw [val4 (by omega) (by omega) (by omega), hv]; omega⟩
      refine ⟨fun i h1 h2 => ?_, by simp, rfl, hv⟩
      rcases (show i = 2 ∨ i = 3 ∨ i = 4 by omega) with rfl | rfl | rfl
      · exact ⟨by omega, by rw [q2 (by omega)]; exact beg42 (by omega) hf⟩
      · exact ⟨by omega, by rw [q3 (by omega)]; exact beg43 (by omega) hf⟩
      · exact ⟨by omega, by rw [q4 (by omega)]; exact hf⟩
    · right
      rw [dec4n h hb hc hd rfl hk]
      refine ⟨⟨4, by omega, by omega, fun hx => hk ?_⟩, by simp⟩
      rw [q4 hx.1] at hx
      obtain ⟨x1, x2, x3, x4, x5⟩ := (beg44 (by omega)).1 hx.2
      rw [val4 x1 x2 x3] at x4 x5
      omega
def FirstIs (s : ByteArray) (r : Int × Int × Int) : Prop := (okD s ∧ r = (((decodeGo s).1 : Int), ((decodeGo s).2 : Int), 0)) ∨ (¬ okD s ∧ r.2.2 ≠ 0)
theorem empty_not (s : ByteArray) (h : s.size = 0) : ¬ okD s := by
 unfold okD decodeGo; rw [if_pos h]; simp
theorem ref_first (s : ByteArray) (hs : (s.size : Int) ≤ 9223372036854775807) : ∃ r, Ev (fun k => backseatref01_First.f k s) r ∧ FirstIs s r := by
 by_cases h0 : s.size = 0
 ·exact ⟨(0, 0, 2), by unfold backseatref01_First.f; exact Ev.pos (by omega) (Ev.ret _), Or.inr ⟨empty_not s h0, by simp⟩⟩
 have hb : bt s 0 = ((s.get! 0).toNat : Int) := bt_get s 0 (by omega)
 have hn := need_ev (s.get! 0).toNat
 rw [← hb] at hn
 rcases ref_sem s h0 with ⟨e, hk⟩ | ⟨g1, g4, hx⟩
 ·refine ⟨(0, 1, 4), ?_, Or.inr ⟨hk, by simp⟩⟩
  unfold backseatref01_First.f
  refine Ev.neg (by omega) (Ev.pos (by omega) (Ev.bind hn ?_))
  rw [e]
  exact Ev.pos rfl (Ev.ret _)
 ·have hl := ref_loop s (needN (s.get! 0).toNat) g1 g4 hs (needN (s.get! 0).toNat - 1) 1 (by omega) (Nat.le_refl _) (by omega)
  have hgo : ∀ r, Ev (fun k => backseatref01_First.l0 k s (needN (s.get! 0).toNat) ((1 : Nat) : Int)) r → Ev (fun k => backseatref01_First.f k s) r := fun r hr => by
   unfold backseatref01_First.f
   exact Ev.neg (by omega) (Ev.pos (by omega) (Ev.bind hn (Ev.neg (by omega) hr)))
  rcases hl with ⟨l1, l2⟩ | ⟨⟨i, l1, l2, l3⟩, a, e, le, l4⟩
  ·rcases hx with ⟨x1, x2, x3, x4⟩ | ⟨⟨i, x1, x2, x3⟩, _⟩
   ·exact ⟨_, hgo _ l2, Or.inl ⟨x2, by rw [x3, x4]⟩⟩
   ·exact absurd (l1 i x1 x2) x3
  ·rcases hx with ⟨x1, x2, x3, x4⟩ | ⟨_, x3⟩
   ·exact absurd (x1 i l1 l2) l3
   ·exact ⟨_, hgo _ l4, Or.inr ⟨x3, le⟩⟩
theorem full_of (s : ByteArray) (h : okD s) : fullN s.size (s.get! 0).toNat (s.get! 1).toNat (s.get! 2).toNat = true := by
 have h0 : s.size ≠ 0 := fun e => empty_not s e h
 unfold okD at h
 rw [dec_go s h0] at h
 have ha := byte_lt s 0
 have hb := byte_lt s 1
 have hc := byte_lt s 2
 have hd := byte_lt s 3
 generalize (s.get! 0).toNat = a at *
 generalize (s.get! 1).toNat = b at *
 generalize (s.get! 2).toNat = c at *
 generalize (s.get! 3).toNat = d at *
 have key : ∀ m, Lib.firstT a % 8 = m → m ≤ s.size → fullN s.size a b c = true := fun m h1 h2 => by
  unfold fullN; rw [if_neg h0, if_pos (by omega)]
 rcases need_cases a with ⟨e, g⟩ | ⟨e, g⟩ | ⟨e, g⟩ | ⟨e, g⟩ | ⟨e, g⟩
 ·rw [dec0 g ha] at h; exact absurd ⟨rfl, Nat.le_refl _⟩ h
 ·exact key 0 (by unfold Lib.firstT; rw [if_pos g]) (by omega)
 ·by_cases hk : 2 ≤ s.size ∧ 128 ≤ b ∧ b ≤ 191
  ·exact key 2 (by unfold Lib.firstT; rw [if_neg (by omega), if_neg (by omega), if_pos (by omega)]) hk.1
  ·rw [dec2n g hb hk] at h; exact absurd ⟨rfl, Nat.le_refl _⟩ h
 ·by_cases hk : 3 ≤ s.size ∧ (128 ≤ b ∧ b ≤ 191) ∧ (128 ≤ c ∧ c ≤ 191) ∧ 2048 ≤ a % 16 * 4096 + b % 64 * 64 + c % 64 ∧ (a % 16 * 4096 + b % 64 * 64 + c % 64 < 55296 ∨ 57343 < a % 16 * 4096 + b % 64 * 64 + c % 64)
  ·refine key 3 ?_ hk.1
   unfold Lib.firstT
   rw [if_neg (by omega), if_neg (by omega), if_neg (by omega)]
   repeat' split
   all_goals first | rfl | omega
  ·rw [dec3n g hb hc rfl hk] at h; exact absurd ⟨rfl, Nat.le_refl _⟩ h
 ·by_cases hk : 4 ≤ s.size ∧ (128 ≤ b ∧ b ≤ 191) ∧ (128 ≤ c ∧ c ≤ 191) ∧ (128 ≤ d ∧ d ≤ 191) ∧ 65536 ≤ a % 8 * 262144 + b % 64 * 4096 + c % 64 * 64 + d % 64 ∧ a % 8 * 262144 + b % 64 * 4096 + c % 64 * 64 + d % 64 ≤ 1114111
  ·refine key 4 ?_ hk.1
   have : a < 245 ∧ a ≤ 244 := by omega
   unfold Lib.firstT
   rw [if_neg (by omega), if_neg (by omega), if_neg (by omega), if_neg (by omega), if_neg (by omega), if_neg (by omega), if_neg (by omega)]
   repeat' split
   all_goals first | rfl | omega
  ·rw [dec4n g hb hc hd rfl hk] at h; exact absurd ⟨rfl, Nat.le_refl _⟩ h
theorem utf_loop (s : ByteArray) (hs : (s.size : Int) ≤ 9223372036854775807) : ∀ m x, x + m = s.size → ∃ y : Int, Ev (fun k => utf_First.l0 k s (x : Nat)) (0, y, 4)
 | 0, x, hx => ⟨x, Ev.succ (by simp only [utf_First.l0]; exact Ev.neg (by omega) (Ev.ret _))⟩
 | m + 1, x, hx => by
  have hw := w64 x (by omega)
  by_cases hf : fullN (s.extract 0 (x + 1)).size ((s.extract 0 (x + 1)).get! 0).toNat ((s.extract 0 (x + 1)).get! 1).toNat ((s.extract 0 (x + 1)).get! 2).toNat = true
  ·refine ⟨x, Ev.succ ?_⟩
   simp only [utf_First.l0]
   refine Ev.pos (by omega) ?_
   rw [hw]
   refine Ev.pos (by omega) (Ev.pos (by omega) ?_)
   rw [Int.toNat_natCast]
   exact Ev.bind (v := true) (Ev.of (by unfold utf8_FullRuneInString.f; rw [hf])) (Ev.pos rfl (Ev.ret _))
  ·obtain ⟨y, hy⟩ := utf_loop s hs m (x + 1) (by omega)
   refine ⟨y, Ev.succ ?_⟩
   simp only [utf_First.l0]
   refine Ev.pos (by omega) ?_
   rw [hw]
   refine Ev.pos (by omega) (Ev.pos (by omega) ?_)
   rw [Int.toNat_natCast]
   exact Ev.bind (v := false) (Ev.of (by unfold utf8_FullRuneInString.f; rw [Bool.eq_false_iff.2 hf])) (Ev.neg (by decide) hy)
theorem utf_first (s : ByteArray) (hs : (s.size : Int) ≤ 9223372036854775807) : ∃ r, Ev (fun k => utf_First.f k s) r ∧ FirstIs s r := by
 unfold utf_First.f utf8_FullRuneInString.f utf8_DecodeRuneInString.f
 by_cases hf : fullN s.size (s.get! 0).toNat (s.get! 1).toNat (s.get! 2).toNat = true
 ·have hstep : ∀ r, Ev (fun k => if ((decodeGo s).1 : Int) = 65533 then utf_First.j0 k s (decodeGo s).1 (decodeGo s).2 (decide (((decodeGo s).2 : Int) > 1)) else utf_First.j0 k s (decodeGo s).1 (decodeGo s).2 true) r →
    Ev (fun k => (some (fullN s.size (s.get! 0).toNat (s.get! 1).toNat (s.get! 2).toNat)).bind fun t124 => if t124 = true then (some (((decodeGo s).1 : Int), ((decodeGo s).2 : Int))).bind fun bt125 => if bt125.1 = 65533 then utf_First.j0 k s bt125.1 bt125.2 (decide (bt125.2 > 1)) else utf_First.j0 k s bt125.1 bt125.2 true else some (0, 0, 2)) r := fun r hr =>
   Ev.bind (v := true) (Ev.of (by rw [hf])) (Ev.pos rfl (Ev.bind (v := (((decodeGo s).1 : Int), ((decodeGo s).2 : Int))) (Ev.ret _) hr))
  have ht : Ev (fun k => utf_First.j0 k s (decodeGo s).1 (decodeGo s).2 true) (((decodeGo s).1 : Int), ((decodeGo s).2 : Int), 0) := Ev.succ (by simp only [utf_First.j0]; exact Ev.pos trivial (Ev.ret _))
  by_cases h1 : ((decodeGo s).1 : Int) = 65533
  ·by_cases h2 : ((decodeGo s).2 : Int) > 1
   ·refine ⟨_, hstep _ (Ev.pos h1 ?_), Or.inl ⟨fun h => by omega, rfl⟩⟩
    rw [decide_eq_true h2]; exact ht
   ·obtain ⟨y, hy⟩ := utf_loop s hs (s.size - (decodeGo s).2) (decodeGo s).2 (by
     have : (decodeGo s).2 ≤ 1 := by omega
     have : s.size ≠ 0 := fun e => by rw [e] at hf; simp [fullN] at hf
     omega)
    refine ⟨(0, y, 4), hstep _ (Ev.pos h1 ?_), Or.inr ⟨fun h => h ⟨by omega, by omega⟩, by simp⟩⟩
    rw [decide_eq_false h2]
    exact Ev.succ (by simp only [utf_First.j0]; exact Ev.neg (by decide) hy)
  ·exact ⟨_, hstep _ (Ev.neg h1 ht), Or.inl ⟨fun h => by omega, rfl⟩⟩
 ·refine ⟨(0, 0, 2), Ev.bind (v := false) (Ev.of (by rw [Bool.eq_false_iff.2 hf])) (Ev.neg (by decide) (Ev.ret _)), Or.inr ⟨fun h => hf (full_of s h), by simp⟩⟩
end Go.Proofs.YtckkdaehmccjlaaDoor.P
namespace Go.Proofs.YtckkdaehmccjlaaDoor.P
open Go.RowKit Go.Proofs.YtckkdaehmccjlaaDoorW.PrintWords Go.Proofs.YtckkdaehmccjlaaDoorW.PrintLast Go.Proofs.YtckkdaehmccjlaaDoorW.PrintMore
attribute [local go_sem] max2_int min2_int max_two min_two max_three min_three max_four min_four   -- for this text's walks alone
set_option linter.unusedVariables false
set_option linter.unusedSimpArgs false
def backseatref01_Is.f (a0 : Int) : Option (Bool) := if a0 ≥ 0 then (if a0 ≤ 1114111 then (if a0 < 55296 then (some true) else (some (decide (a0 > 57343)))) else (some false)) else (some false)
set_option maxHeartbeats 8000000 in
set_option maxRecDepth 100000 in
theorem backseatref01_Is.calls (a0 : Int) (r : Bool) (w : World) (h : backseatref01_Is.f a0 = some r) :
  Calls Tryd.prog 94 #[.int .i32 a0] w fun e w' => e = .returned (.bool r) ∧ Drawn0 w w' := by
 have H : (if a0 ≥ 0 then (if a0 ≤ 1114111 then (if a0 < 55296 then (some true) else (some (decide (a0 > 57343)))) else (some false)) else (some false)) = some r := h
 clear h
 by_cases c2 : a0 ≥ 0
 ·rw [if_pos c2] at H
  have c2b0 : decide (0 ≤ a0) = true := decide_eq_true c2
  clear c2
  by_cases c3 : a0 ≤ 1114111
  ·rw [if_pos c3] at H
   have c3b0 : decide (a0 ≤ 1114111) = true := decide_eq_true c3
   clear c3
   by_cases c4 : a0 < 55296
   ·rw [if_pos c4] at H
    have c4b0 : decide (a0 < 55296) = true := decide_eq_true c4
    clear c4
    obtain rfl := Option.some.inj H
    go_enter Tryd.func94, Tryd.ntmps94
    go_wp2
    go_ret
    exact ⟨by first | rfl | (simp; done) | (simp [*]; done), by repeat (first | exact Drawn0.refl _ | apply Drawn0.step)⟩
   ·rw [if_neg c4] at H
    have c4b0 : decide (a0 < 55296) = false := decide_eq_false c4
    clear c4
    obtain rfl := Option.some.inj H
    go_enter Tryd.func94, Tryd.ntmps94
    go_wp2
    go_ret
    exact ⟨by first | rfl | (simp; done) | (simp [*]; done), by repeat (first | exact Drawn0.refl _ | apply Drawn0.step)⟩
  ·rw [if_neg c3] at H
   have c3b0 : decide (a0 ≤ 1114111) = false := decide_eq_false c3
   clear c3
   obtain rfl := Option.some.inj H
   go_enter Tryd.func94, Tryd.ntmps94
   go_wp2
   go_ret
   exact ⟨by first | rfl | (simp; done) | (simp [*]; done), by repeat (first | exact Drawn0.refl _ | apply Drawn0.step)⟩
 ·rw [if_neg c2] at H
  have c2b0 : decide (0 ≤ a0) = false := decide_eq_false c2
  clear c2
  obtain rfl := Option.some.inj H
  go_enter Tryd.func94, Tryd.ntmps94
  go_wp2
  go_ret
  exact ⟨by first | rfl | (simp; done) | (simp [*]; done), by repeat (first | exact Drawn0.refl _ | apply Drawn0.step)⟩
def backseatref01_in.f (a0 : Int) (a1 : Int) (a2 : Int) : Option (Bool) := if a0 ≥ a1 then (some (decide (a0 ≤ a2))) else (some false)
set_option maxHeartbeats 8000000 in
set_option maxRecDepth 100000 in
theorem backseatref01_in.calls (a0 : Int) (a1 : Int) (a2 : Int) (r : Bool) (w : World) (h : backseatref01_in.f a0 a1 a2 = some r) :
  Calls Tryd.prog 95 #[.int .i32 a0, .int .i32 a1, .int .i32 a2] w fun e w' => e = .returned (.bool r) ∧ Drawn0 w w' := by
 have H : (if a0 ≥ a1 then (some (decide (a0 ≤ a2))) else (some false)) = some r := h
 clear h
 by_cases c4 : a0 ≥ a1
 ·rw [if_pos c4] at H
  have c4b0 : decide (a1 ≤ a0) = true := decide_eq_true c4
  clear c4
  obtain rfl := Option.some.inj H
  go_enter Tryd.func95, Tryd.ntmps95
  go_wp2
  go_ret
  exact ⟨by first | rfl | (simp; done) | (simp [*]; done), by repeat (first | exact Drawn0.refl _ | apply Drawn0.step)⟩
 ·rw [if_neg c4] at H
  have c4b0 : decide (a1 ≤ a0) = false := decide_eq_false c4
  clear c4
  obtain rfl := Option.some.inj H
  go_enter Tryd.func95, Tryd.ntmps95
  go_wp2
  go_ret
  exact ⟨by first | rfl | (simp; done) | (simp [*]; done), by repeat (first | exact Drawn0.refl _ | apply Drawn0.step)⟩
mutual
def backseatref01_Width.j0 : Nat → Int → Bool → Option (Int)
 | 0, _, _ => none
 | k + 1, x0, x13 => if x13 = true then (some (-1)) else ((backseatref01_in.f x0 768 879).bind fun t209 => (if t209 = true then (backseatref01_Width.j1 k x0 true) else ((backseatref01_in.f x0 8203 8205).bind fun t210 => (if t210 = true then (backseatref01_Width.j1 k x0 true) else ((backseatref01_in.f x0 65024 65039).bind fun t211 => (backseatref01_Width.j1 k x0 t211))))))
def backseatref01_Width.j1 : Nat → Int → Bool → Option (Int)
 | 0, _, _ => none
 | k + 1, x0, x23 => if x23 = true then (some 0) else ((backseatref01_in.f x0 4352 4447).bind fun t212 => (if t212 = true then (backseatref01_Width.j2 k x0 true) else ((backseatref01_in.f x0 12353 19903).bind fun t213 => (if t213 = true then (backseatref01_Width.j2 k x0 true) else ((backseatref01_in.f x0 19968 40959).bind fun t214 => (if t214 = true then (backseatref01_Width.j2 k x0 true) else ((backseatref01_in.f x0 44032 55203).bind fun t215 => (backseatref01_Width.j2 k x0 t215))))))))
def backseatref01_Width.j2 : Nat → Int → Bool → Option (Int)
 | 0, _, _ => none
 | k + 1, x0, x37 => if x37 = true then (some 2) else ((backseatref01_in.f x0 63744 64255).bind fun t216 => (if t216 = true then (some 2) else ((backseatref01_in.f x0 65281 65376).bind fun t217 => (if t217 = true then (some 2) else ((backseatref01_in.f x0 127744 129791).bind fun t218 => (if t218 = true then (some 2) else ((backseatref01_in.f x0 131072 262141).bind fun t219 => (if t219 = true then (some 2) else (some 1)))))))))
end
def backseatref01_Width.f (k : Nat) (a0 : Int) : Option (Int) := (backseatref01_Is.f a0).bind fun t207 => (if t207 = true then (if a0 < 32 then (backseatref01_Width.j0 k a0 true) else ((backseatref01_in.f a0 127 159).bind fun t208 => (backseatref01_Width.j0 k a0 t208))) else (backseatref01_Width.j0 k a0 true))
set_option maxHeartbeats 8000000 in
set_option maxRecDepth 100000 in
theorem backseatref01_Width.calls (k : Nat) (a0 : Int) (r : Int) (w : World) (h : backseatref01_Width.f k a0 = some r) :
  Calls Tryd.prog 75 #[.int .i32 a0] w fun e w' => e = .returned (.int .i64 r) ∧ Drawn0 w w' := by
 have H : ((backseatref01_Is.f a0).bind fun t207 => (if t207 = true then (if a0 < 32 then (backseatref01_Width.j0 k a0 true) else ((backseatref01_in.f a0 127 159).bind fun t208 => (backseatref01_Width.j0 k a0 t208))) else (backseatref01_Width.j0 k a0 true))) = some r := h
 clear h
 have HC2 := Aside0.mk H
 clear H
 go_enter Tryd.func75, Tryd.ntmps75
 go_upto_region 1 with (fail)
 go_cut [13] (fun v13 wc => ∃ (kq : Nat) (x13_1 : Bool), v13 = .bool x13_1 ∧ Aside0 (backseatref01_Width.j0 kq a0 x13_1 = some r) ∧ Aside0 (kq ≤ k) ∧ Drawn0 w wc)
 case first =>
  have H := HC2.out
  clear HC2
  replace H := Option.bind_eq_some_iff.mp H
  obtain ⟨t207, A30, H⟩ := H
  replace H : (if t207 = true then (if a0 < 32 then (backseatref01_Width.j0 k a0 true) else ((backseatref01_in.f a0 127 159).bind fun t208 => (backseatref01_Width.j0 k a0 t208))) else (backseatref01_Width.j0 k a0 true)) = some r := H
  have A3 := Aside0.mk A30
  clear A30
  by_cases c4 : t207 = true
  ·subst c4
   have H1 : (if a0 < 32 then (backseatref01_Width.j0 k a0 true) else ((backseatref01_in.f a0 127 159).bind fun t208 => (backseatref01_Width.j0 k a0 t208))) = some r := by rw [if_pos rfl] at H; exact H
   clear H
   have H := H1
   clear H1
   by_cases c5 : a0 < 32
   ·rw [if_pos c5] at H
    have c5b0 : decide (a0 < 32) = true := decide_eq_true c5
    clear c5
    (first | rw [c5b0] | (simp only [i64_w, i32_w]; rw [c5b0]) | skip)
    have H' := Aside0.mk H
    clear H
    go_wp2_with (first | ((with_reducible refine gate_callee (f := 94) rfl ?_); refine goesL_ (some 4) rfl rfl Tryd.func94 (by kernel_rfl) rfl #[.int .i32 a0] rfl zl ?_; (with_reducible refine (backseatref01_Is.calls a0 true _ A3.out).mono ?_); rintro e w' ⟨rfl, ⟨nd, rfl⟩⟩; refine ⟨_, rfl, ?_⟩))
    go_meet
    case rel => exact ⟨_, (true), zf, H', ⟨by first | omega | exact Nat.le_refl _⟩, by repeat (first | exact Drawn0.refl _ | apply Drawn0.step)⟩
   ·rw [if_neg c5] at H
    have c5b0 : decide (a0 < 32) = false := decide_eq_false c5
    clear c5
    (first | rw [c5b0] | (simp only [i64_w, i32_w]; rw [c5b0]) | skip)
    replace H := Option.bind_eq_some_iff.mp H
    obtain ⟨t208, A60, H⟩ := H
    replace H : (backseatref01_Width.j0 k a0 t208) = some r := H
    have A6 := Aside0.mk A60
    clear A60
    have H' := Aside0.mk H
    clear H
    go_wp2_with (first | ((with_reducible refine gate_callee (f := 94) rfl ?_); refine goesL_ (some 4) rfl rfl Tryd.func94 (by kernel_rfl) rfl #[.int .i32 a0] rfl zl ?_; (with_reducible refine (backseatref01_Is.calls a0 true _ A3.out).mono ?_); rintro e w' ⟨rfl, ⟨nd, rfl⟩⟩; refine ⟨_, rfl, ?_⟩) | (go_at_call 95; (with_reducible refine (backseatref01_in.calls a0 127 159 t208 _ A6.out).mono ?_); rintro e w' ⟨rfl, ⟨nd, rfl⟩⟩))
    go_meet
    case rel => exact ⟨_, (t208), zf, H', ⟨by first | omega | exact Nat.le_refl _⟩, by repeat (first | exact Drawn0.refl _ | apply Drawn0.step)⟩
  ·replace c4 := Bool.eq_false_iff.mpr c4
   subst c4
   have H1 : (backseatref01_Width.j0 k a0 true) = some r := by rw [if_neg (show ¬ (false = true) by decide)] at H; exact H
   clear H
   have H := H1
   clear H1
   have H' := Aside0.mk H
   clear H
   go_wp2_with (first | ((with_reducible refine gate_callee (f := 94) rfl ?_); refine goesL_ (some 4) rfl rfl Tryd.func94 (by kernel_rfl) rfl #[.int .i32 a0] rfl zl ?_; (with_reducible refine (backseatref01_Is.calls a0 false _ A3.out).mono ?_); rintro e w' ⟨rfl, ⟨nd, rfl⟩⟩; refine ⟨_, rfl, ?_⟩))
   go_meet
   case rel => exact ⟨_, (true), zf, H', ⟨by first | omega | exact Nat.le_refl _⟩, by repeat (first | exact Drawn0.refl _ | apply Drawn0.step)⟩
 case rest =>
  clear HC2
  obtain ⟨kq, x13_1, rfl, HA, HJ1, ⟨mc1, rfl⟩⟩ := hcut
  cases kq with
  | zero => exact absurd HA.out (by simp [backseatref01_Width.j0])
  | succ kj1 =>
   have H := HA.out
   clear HA
   simp only [backseatref01_Width.j0] at H
   by_cases c7 : x13_1 = true
   ·subst c7
    have H1 : (some (-1)) = some r := by rw [if_pos rfl] at H; exact H
    clear H
    have H := H1
    clear H1
    obtain rfl := Option.some.inj H
    go_wp2
    go_ret
    exact ⟨by first | rfl | (simp; done) | (simp [*]; done), by repeat (first | exact Drawn0.refl _ | apply Drawn0.step)⟩
   ·replace c7 := Bool.eq_false_iff.mpr c7
    subst c7
    have H1 : ((backseatref01_in.f a0 768 879).bind fun t209 => (if t209 = true then (backseatref01_Width.j1 kj1 a0 true) else ((backseatref01_in.f a0 8203 8205).bind fun t210 => (if t210 = true then (backseatref01_Width.j1 kj1 a0 true) else ((backseatref01_in.f a0 65024 65039).bind fun t211 => (backseatref01_Width.j1 kj1 a0 t211)))))) = some r := by rw [if_neg (show ¬ (false = true) by decide)] at H; exact H
    clear H
    have H := H1
    clear H1
    have HC8 := Aside0.mk H
    clear H
    go_upto_region 3 with (fail)
    go_cut [23] (fun v23 wc => ∃ (kq : Nat) (x23_7 : Bool), v23 = .bool x23_7 ∧ Aside0 (backseatref01_Width.j1 kq a0 x23_7 = some r) ∧ Aside0 (kq ≤ kj1) ∧ Drawn0 w wc)
    case first =>
     have H := HC8.out
     clear HC8
     replace H := Option.bind_eq_some_iff.mp H
     obtain ⟨t209, A90, H⟩ := H
     replace H : (if t209 = true then (backseatref01_Width.j1 kj1 a0 true) else ((backseatref01_in.f a0 8203 8205).bind fun t210 => (if t210 = true then (backseatref01_Width.j1 kj1 a0 true) else ((backseatref01_in.f a0 65024 65039).bind fun t211 => (backseatref01_Width.j1 kj1 a0 t211))))) = some r := H
     have A9 := Aside0.mk A90
     clear A90
     by_cases c10 : t209 = true
     ·subst c10
      have H1 : (backseatref01_Width.j1 kj1 a0 true) = some r := by rw [if_pos rfl] at H; exact H
      clear H
      have H := H1
      clear H1
      have H' := Aside0.mk H
      clear H
      go_wp2_with (first | ((with_reducible refine gate_callee (f := 95) rfl ?_); refine goesL_ (some 15) rfl rfl Tryd.func95 (by kernel_rfl) rfl #[.int .i32 a0, .int .i32 768, .int .i32 879] rfl zl ?_; (with_reducible refine (backseatref01_in.calls a0 768 879 true _ A9.out).mono ?_); rintro e w' ⟨rfl, ⟨nd, rfl⟩⟩; refine ⟨_, rfl, ?_⟩))
      go_meet
      case rel => exact ⟨_, (true), zf, H', ⟨by have := HJ1.out; first | omega | exact Nat.le_refl _⟩, by repeat (first | exact Drawn0.refl _ | apply Drawn0.step)⟩
     ·replace c10 := Bool.eq_false_iff.mpr c10
      subst c10
      have H1 : ((backseatref01_in.f a0 8203 8205).bind fun t210 => (if t210 = true then (backseatref01_Width.j1 kj1 a0 true) else ((backseatref01_in.f a0 65024 65039).bind fun t211 => (backseatref01_Width.j1 kj1 a0 t211)))) = some r := by rw [if_neg (show ¬ (false = true) by decide)] at H; exact H
      clear H
      have H := H1
      clear H1
      replace H := Option.bind_eq_some_iff.mp H
      obtain ⟨t210, A110, H⟩ := H
      replace H : (if t210 = true then (backseatref01_Width.j1 kj1 a0 true) else ((backseatref01_in.f a0 65024 65039).bind fun t211 => (backseatref01_Width.j1 kj1 a0 t211))) = some r := H
      have A11 := Aside0.mk A110
      clear A110
      by_cases c12 : t210 = true
      ·subst c12
       have H1 : (backseatref01_Width.j1 kj1 a0 true) = some r := by rw [if_pos rfl] at H; exact H
       clear H
       have H := H1
       clear H1
       have H' := Aside0.mk H
       clear H
       go_wp2_with (first | ((with_reducible refine gate_callee (f := 95) rfl ?_); refine goesL_ (some 15) rfl rfl Tryd.func95 (by kernel_rfl) rfl #[.int .i32 a0, .int .i32 768, .int .i32 879] rfl zl ?_; (with_reducible refine (backseatref01_in.calls a0 768 879 false _ A9.out).mono ?_); rintro e w' ⟨rfl, ⟨nd, rfl⟩⟩; refine ⟨_, rfl, ?_⟩) | (go_at_call 95; (with_reducible refine (backseatref01_in.calls a0 8203 8205 true _ A11.out).mono ?_); rintro e w' ⟨rfl, ⟨nd, rfl⟩⟩))
       go_meet
       case rel => exact ⟨_, (true), zf, H', ⟨by have := HJ1.out; first | omega | exact Nat.le_refl _⟩, by repeat (first | exact Drawn0.refl _ | apply Drawn0.step)⟩
      ·replace c12 := Bool.eq_false_iff.mpr c12
       subst c12
       have H1 : ((backseatref01_in.f a0 65024 65039).bind fun t211 => (backseatref01_Width.j1 kj1 a0 t211)) = some r := by rw [if_neg (show ¬ (false = true) by decide)] at H; exact H
       clear H
       have H := H1
       clear H1
       replace H := Option.bind_eq_some_iff.mp H
       obtain ⟨t211, A130, H⟩ := H
       replace H : (backseatref01_Width.j1 kj1 a0 t211) = some r := H
       have A13 := Aside0.mk A130
       clear A130
       have H' := Aside0.mk H
       clear H
       go_wp2_with (first | ((with_reducible refine gate_callee (f := 95) rfl ?_); refine goesL_ (some 15) rfl rfl Tryd.func95 (by kernel_rfl) rfl #[.int .i32 a0, .int .i32 768, .int .i32 879] rfl zl ?_; (with_reducible refine (backseatref01_in.calls a0 768 879 false _ A9.out).mono ?_); rintro e w' ⟨rfl, ⟨nd, rfl⟩⟩; refine ⟨_, rfl, ?_⟩) | (go_at_call 95; (with_reducible refine (backseatref01_in.calls a0 8203 8205 false _ A11.out).mono ?_); rintro e w' ⟨rfl, ⟨nd, rfl⟩⟩) | (go_at_call 95; (with_reducible refine (backseatref01_in.calls a0 65024 65039 t211 _ A13.out).mono ?_); rintro e w' ⟨rfl, ⟨nd, rfl⟩⟩))
       go_meet
       case rel => exact ⟨_, (t211), zf, H', ⟨by have := HJ1.out; first | omega | exact Nat.le_refl _⟩, by repeat (first | exact Drawn0.refl _ | apply Drawn0.step)⟩
    case rest =>
     clear HC8
     try clear c7
     obtain ⟨kq, x23_7, rfl, HA, HJ7, ⟨mc7, rfl⟩⟩ := hcut
     cases kq with
     | zero => exact absurd HA.out (by simp [backseatref01_Width.j1])
     | succ kj7 =>
      have H := HA.out
      clear HA
      simp only [backseatref01_Width.j1] at H
      by_cases c14 : x23_7 = true
      ·subst c14
       have H1 : (some 0) = some r := by rw [if_pos rfl] at H; exact H
       clear H
       have H := H1
       clear H1
       obtain rfl := Option.some.inj H
       go_wp2
       go_ret
       exact ⟨by first | rfl | (simp; done) | (simp [*]; done), by repeat (first | exact Drawn0.refl _ | apply Drawn0.step)⟩
      ·replace c14 := Bool.eq_false_iff.mpr c14
       subst c14
       have H1 : ((backseatref01_in.f a0 4352 4447).bind fun t212 => (if t212 = true then (backseatref01_Width.j2 kj7 a0 true) else ((backseatref01_in.f a0 12353 19903).bind fun t213 => (if t213 = true then (backseatref01_Width.j2 kj7 a0 true) else ((backseatref01_in.f a0 19968 40959).bind fun t214 => (if t214 = true then (backseatref01_Width.j2 kj7 a0 true) else ((backseatref01_in.f a0 44032 55203).bind fun t215 => (backseatref01_Width.j2 kj7 a0 t215)))))))) = some r := by rw [if_neg (show ¬ (false = true) by decide)] at H; exact H
       clear H
       have H := H1
       clear H1
       have HC15 := Aside0.mk H
       clear H
       go_upto_region 5 with (fail)
       go_cut [37] (fun v37 wc => ∃ (kq : Nat) (x37_14 : Bool), v37 = .bool x37_14 ∧ Aside0 (backseatref01_Width.j2 kq a0 x37_14 = some r) ∧ Aside0 (kq ≤ kj7) ∧ Drawn0 w wc)
       case first =>
        have H := HC15.out
        clear HC15
        replace H := Option.bind_eq_some_iff.mp H
        obtain ⟨t212, A160, H⟩ := H
        replace H : (if t212 = true then (backseatref01_Width.j2 kj7 a0 true) else ((backseatref01_in.f a0 12353 19903).bind fun t213 => (if t213 = true then (backseatref01_Width.j2 kj7 a0 true) else ((backseatref01_in.f a0 19968 40959).bind fun t214 => (if t214 = true then (backseatref01_Width.j2 kj7 a0 true) else ((backseatref01_in.f a0 44032 55203).bind fun t215 => (backseatref01_Width.j2 kj7 a0 t215))))))) = some r := H
        have A16 := Aside0.mk A160
        clear A160
        by_cases c17 : t212 = true
        ·subst c17
         have H1 : (backseatref01_Width.j2 kj7 a0 true) = some r := by rw [if_pos rfl] at H; exact H
         clear H
         have H := H1
         clear H1
         have H' := Aside0.mk H
         clear H
         go_wp2_with (first | ((with_reducible refine gate_callee (f := 95) rfl ?_); refine goesL_ (some 25) rfl rfl Tryd.func95 (by kernel_rfl) rfl #[.int .i32 a0, .int .i32 4352, .int .i32 4447] rfl zl ?_; (with_reducible refine (backseatref01_in.calls a0 4352 4447 true _ A16.out).mono ?_); rintro e w' ⟨rfl, ⟨nd, rfl⟩⟩; refine ⟨_, rfl, ?_⟩))
         go_meet
         case rel => exact ⟨_, (true), zf, H', ⟨by have := HJ1.out; have := HJ7.out; first | omega | exact Nat.le_refl _⟩, by repeat (first | exact Drawn0.refl _ | apply Drawn0.step)⟩
        ·replace c17 := Bool.eq_false_iff.mpr c17
         subst c17
         have H1 : ((backseatref01_in.f a0 12353 19903).bind fun t213 => (if t213 = true then (backseatref01_Width.j2 kj7 a0 true) else ((backseatref01_in.f a0 19968 40959).bind fun t214 => (if t214 = true then (backseatref01_Width.j2 kj7 a0 true) else ((backseatref01_in.f a0 44032 55203).bind fun t215 => (backseatref01_Width.j2 kj7 a0 t215)))))) = some r := by rw [if_neg (show ¬ (false = true) by decide)] at H; exact H
         clear H
         have H := H1
         clear H1
         replace H := Option.bind_eq_some_iff.mp H
         obtain ⟨t213, A180, H⟩ := H
         replace H : (if t213 = true then (backseatref01_Width.j2 kj7 a0 true) else ((backseatref01_in.f a0 19968 40959).bind fun t214 => (if t214 = true then (backseatref01_Width.j2 kj7 a0 true) else ((backseatref01_in.f a0 44032 55203).bind fun t215 => (backseatref01_Width.j2 kj7 a0 t215))))) = some r := H
         have A18 := Aside0.mk A180
         clear A180
         by_cases c19 : t213 = true
         ·subst c19
          have H1 : (backseatref01_Width.j2 kj7 a0 true) = some r := by rw [if_pos rfl] at H; exact H
          clear H
          have H := H1
          clear H1
          have H' := Aside0.mk H
          clear H
          go_wp2_with (first | ((with_reducible refine gate_callee (f := 95) rfl ?_); refine goesL_ (some 25) rfl rfl Tryd.func95 (by kernel_rfl) rfl #[.int .i32 a0, .int .i32 4352, .int .i32 4447] rfl zl ?_; (with_reducible refine (backseatref01_in.calls a0 4352 4447 false _ A16.out).mono ?_); rintro e w' ⟨rfl, ⟨nd, rfl⟩⟩; refine ⟨_, rfl, ?_⟩) | (go_at_call 95; (with_reducible refine (backseatref01_in.calls a0 12353 19903 true _ A18.out).mono ?_); rintro e w' ⟨rfl, ⟨nd, rfl⟩⟩))
          go_meet
          case rel => exact ⟨_, (true), zf, H', ⟨by have := HJ1.out; have := HJ7.out; first | omega | exact Nat.le_refl _⟩, by repeat (first | exact Drawn0.refl _ | apply Drawn0.step)⟩
         ·replace c19 := Bool.eq_false_iff.mpr c19
          subst c19
          have H1 : ((backseatref01_in.f a0 19968 40959).bind fun t214 => (if t214 = true then (backseatref01_Width.j2 kj7 a0 true) else ((backseatref01_in.f a0 44032 55203).bind fun t215 => (backseatref01_Width.j2 kj7 a0 t215)))) = some r := by rw [if_neg (show ¬ (false = true) by decide)] at H; exact H
          clear H
          have H := H1
          clear H1
          replace H := Option.bind_eq_some_iff.mp H
          obtain ⟨t214, A200, H⟩ := H
          replace H : (if t214 = true then (backseatref01_Width.j2 kj7 a0 true) else ((backseatref01_in.f a0 44032 55203).bind fun t215 => (backseatref01_Width.j2 kj7 a0 t215))) = some r := H
          have A20 := Aside0.mk A200
          clear A200
          by_cases c21 : t214 = true
          ·subst c21
           have H1 : (backseatref01_Width.j2 kj7 a0 true) = some r := by rw [if_pos rfl] at H; exact H
           clear H
           have H := H1
           clear H1
           have H' := Aside0.mk H
           clear H
           go_wp2_with (first | ((with_reducible refine gate_callee (f := 95) rfl ?_); refine goesL_ (some 25) rfl rfl Tryd.func95 (by kernel_rfl) rfl #[.int .i32 a0, .int .i32 4352, .int .i32 4447] rfl zl ?_; (with_reducible refine (backseatref01_in.calls a0 4352 4447 false _ A16.out).mono ?_); rintro e w' ⟨rfl, ⟨nd, rfl⟩⟩; refine ⟨_, rfl, ?_⟩) | (go_at_call 95; (with_reducible refine (backseatref01_in.calls a0 12353 19903 false _ A18.out).mono ?_); rintro e w' ⟨rfl, ⟨nd, rfl⟩⟩) | (go_at_call 95; (with_reducible refine (backseatref01_in.calls a0 19968 40959 true _ A20.out).mono ?_); rintro e w' ⟨rfl, ⟨nd, rfl⟩⟩))
           go_meet
           case rel => exact ⟨_, (true), zf, H', ⟨by have := HJ1.out; have := HJ7.out; first | omega | exact Nat.le_refl _⟩, by repeat (first | exact Drawn0.refl _ | apply Drawn0.step)⟩
          ·replace c21 := Bool.eq_false_iff.mpr c21
           subst c21
           have H1 : ((backseatref01_in.f a0 44032 55203).bind fun t215 => (backseatref01_Width.j2 kj7 a0 t215)) = some r := by rw [if_neg (show ¬ (false = true) by decide)] at H; exact H
           clear H
           have H := H1
           clear H1
           replace H := Option.bind_eq_some_iff.mp H
           obtain ⟨t215, A220, H⟩ := H
           replace H : (backseatref01_Width.j2 kj7 a0 t215) = some r := H
           have A22 := Aside0.mk A220
           clear A220
           have H' := Aside0.mk H
           clear H
           go_wp2_with (first | ((with_reducible refine gate_callee (f := 95) rfl ?_); refine goesL_ (some 25) rfl rfl Tryd.func95 (by kernel_rfl) rfl #[.int .i32 a0, .int .i32 4352, .int .i32 4447] rfl zl ?_; (with_reducible refine (backseatref01_in.calls a0 4352 4447 false _ A16.out).mono ?_); rintro e w' ⟨rfl, ⟨nd, rfl⟩⟩; refine ⟨_, rfl, ?_⟩) | (go_at_call 95; (with_reducible refine (backseatref01_in.calls a0 12353 19903 false _ A18.out).mono ?_); rintro e w' ⟨rfl, ⟨nd, rfl⟩⟩) | (go_at_call 95; (with_reducible refine (backseatref01_in.calls a0 19968 40959 false _ A20.out).mono ?_); rintro e w' ⟨rfl, ⟨nd, rfl⟩⟩) | (go_at_call 95; (with_reducible refine (backseatref01_in.calls a0 44032 55203 t215 _ A22.out).mono ?_); rintro e w' ⟨rfl, ⟨nd, rfl⟩⟩))
           go_meet
           case rel => exact ⟨_, (t215), zf, H', ⟨by have := HJ1.out; have := HJ7.out; first | omega | exact Nat.le_refl _⟩, by repeat (first | exact Drawn0.refl _ | apply Drawn0.step)⟩
       case rest =>
        clear HC15
        try clear c7
        try clear c14
        obtain ⟨kq, x37_14, rfl, HA, HJ14, ⟨mc14, rfl⟩⟩ := hcut
        cases kq with
        | zero => exact absurd HA.out (by simp [backseatref01_Width.j2])
        | succ kj14 =>
         have H := HA.out
         clear HA
         simp only [backseatref01_Width.j2] at H
         by_cases c23 : x37_14 = true
         ·subst c23
          have H1 : (some 2) = some r := by rw [if_pos rfl] at H; exact H
          clear H
          have H := H1
          clear H1
          obtain rfl := Option.some.inj H
          go_wp2
          go_ret
          exact ⟨by first | rfl | (simp; done) | (simp [*]; done), by repeat (first | exact Drawn0.refl _ | apply Drawn0.step)⟩
         ·replace c23 := Bool.eq_false_iff.mpr c23
          subst c23
          have H1 : ((backseatref01_in.f a0 63744 64255).bind fun t216 => (if t216 = true then (some 2) else ((backseatref01_in.f a0 65281 65376).bind fun t217 => (if t217 = true then (some 2) else ((backseatref01_in.f a0 127744 129791).bind fun t218 => (if t218 = true then (some 2) else ((backseatref01_in.f a0 131072 262141).bind fun t219 => (if t219 = true then (some 2) else (some 1))))))))) = some r := by rw [if_neg (show ¬ (false = true) by decide)] at H; exact H
          clear H
          have H := H1
          clear H1
          replace H := Option.bind_eq_some_iff.mp H
          obtain ⟨t216, A240, H⟩ := H
          replace H : (if t216 = true then (some 2) else ((backseatref01_in.f a0 65281 65376).bind fun t217 => (if t217 = true then (some 2) else ((backseatref01_in.f a0 127744 129791).bind fun t218 => (if t218 = true then (some 2) else ((backseatref01_in.f a0 131072 262141).bind fun t219 => (if t219 = true then (some 2) else (some 1)))))))) = some r := H
          have A24 := Aside0.mk A240
          clear A240
          by_cases c25 : t216 = true
          ·subst c25
           have H1 : (some 2) = some r := by rw [if_pos rfl] at H; exact H
           clear H
           have H := H1
           clear H1
           obtain rfl := Option.some.inj H
           go_wp2_with (first | ((with_reducible refine gate_callee (f := 95) rfl ?_); refine goesL_ (some 39) rfl rfl Tryd.func95 (by kernel_rfl) rfl #[.int .i32 a0, .int .i32 63744, .int .i32 64255] rfl zl ?_; (with_reducible refine (backseatref01_in.calls a0 63744 64255 true _ A24.out).mono ?_); rintro e w' ⟨rfl, ⟨nd, rfl⟩⟩; refine ⟨_, rfl, ?_⟩))
           go_ret
           exact ⟨by first | rfl | (simp; done) | (simp [*]; done), by repeat (first | exact Drawn0.refl _ | apply Drawn0.step)⟩
          ·replace c25 := Bool.eq_false_iff.mpr c25
           subst c25
           have H1 : ((backseatref01_in.f a0 65281 65376).bind fun t217 => (if t217 = true then (some 2) else ((backseatref01_in.f a0 127744 129791).bind fun t218 => (if t218 = true then (some 2) else ((backseatref01_in.f a0 131072 262141).bind fun t219 => (if t219 = true then (some 2) else (some 1))))))) = some r := by rw [if_neg (show ¬ (false = true) by decide)] at H; exact H
           clear H
           have H := H1
           clear H1
           replace H := Option.bind_eq_some_iff.mp H
           obtain ⟨t217, A260, H⟩ := H
           replace H : (if t217 = true then (some 2) else ((backseatref01_in.f a0 127744 129791).bind fun t218 => (if t218 = true then (some 2) else ((backseatref01_in.f a0 131072 262141).bind fun t219 => (if t219 = true then (some 2) else (some 1)))))) = some r := H
           have A26 := Aside0.mk A260
           clear A260
           by_cases c27 : t217 = true
           ·subst c27
            have H1 : (some 2) = some r := by rw [if_pos rfl] at H; exact H
            clear H
            have H := H1
            clear H1
            obtain rfl := Option.some.inj H
            go_wp2_with (first | ((with_reducible refine gate_callee (f := 95) rfl ?_); refine goesL_ (some 39) rfl rfl Tryd.func95 (by kernel_rfl) rfl #[.int .i32 a0, .int .i32 63744, .int .i32 64255] rfl zl ?_; (with_reducible refine (backseatref01_in.calls a0 63744 64255 false _ A24.out).mono ?_); rintro e w' ⟨rfl, ⟨nd, rfl⟩⟩; refine ⟨_, rfl, ?_⟩) | (go_at_call 95; (with_reducible refine (backseatref01_in.calls a0 65281 65376 true _ A26.out).mono ?_); rintro e w' ⟨rfl, ⟨nd, rfl⟩⟩))
            go_ret
            exact ⟨by first | rfl | (simp; done) | (simp [*]; done), by repeat (first | exact Drawn0.refl _ | apply Drawn0.step)⟩
           ·replace c27 := Bool.eq_false_iff.mpr c27
            subst c27
            have H1 : ((backseatref01_in.f a0 127744 129791).bind fun t218 => (if t218 = true then (some 2) else ((backseatref01_in.f a0 131072 262141).bind fun t219 => (if t219 = true then (some 2) else (some 1))))) = some r := by rw [if_neg (show ¬ (false = true) by decide)] at H; exact H
            clear H
            have H := H1
            clear H1
            replace H := Option.bind_eq_some_iff.mp H
            obtain ⟨t218, A280, H⟩ := H
            replace H : (if t218 = true then (some 2) else ((backseatref01_in.f a0 131072 262141).bind fun t219 => (if t219 = true then (some 2) else (some 1)))) = some r := H
            have A28 := Aside0.mk A280
            clear A280
            by_cases c29 : t218 = true
            ·subst c29
             have H1 : (some 2) = some r := by rw [if_pos rfl] at H; exact H
             clear H
             have H := H1
             clear H1
             obtain rfl := Option.some.inj H
             go_wp2_with (first | ((with_reducible refine gate_callee (f := 95) rfl ?_); refine goesL_ (some 39) rfl rfl Tryd.func95 (by kernel_rfl) rfl #[.int .i32 a0, .int .i32 63744, .int .i32 64255] rfl zl ?_; (with_reducible refine (backseatref01_in.calls a0 63744 64255 false _ A24.out).mono ?_); rintro e w' ⟨rfl, ⟨nd, rfl⟩⟩; refine ⟨_, rfl, ?_⟩) | (go_at_call 95; (with_reducible refine (backseatref01_in.calls a0 65281 65376 false _ A26.out).mono ?_); rintro e w' ⟨rfl, ⟨nd, rfl⟩⟩) | (go_at_call 95; (with_reducible refine (backseatref01_in.calls a0 127744 129791 true _ A28.out).mono ?_); rintro e w' ⟨rfl, ⟨nd, rfl⟩⟩))
             go_ret
             exact ⟨by first | rfl | (simp; done) | (simp [*]; done), by repeat (first | exact Drawn0.refl _ | apply Drawn0.step)⟩
            ·replace c29 := Bool.eq_false_iff.mpr c29
             subst c29
             have H1 : ((backseatref01_in.f a0 131072 262141).bind fun t219 => (if t219 = true then (some 2) else (some 1))) = some r := by rw [if_neg (show ¬ (false = true) by decide)] at H; exact H
             clear H
             have H := H1
             clear H1
             replace H := Option.bind_eq_some_iff.mp H
             obtain ⟨t219, A300, H⟩ := H
             replace H : (if t219 = true then (some 2) else (some 1)) = some r := H
             have A30 := Aside0.mk A300
             clear A300
             by_cases c31 : t219 = true
             ·subst c31
              have H1 : (some 2) = some r := by rw [if_pos rfl] at H; exact H
              clear H
              have H := H1
              clear H1
              obtain rfl := Option.some.inj H
              go_wp2_with (first | ((with_reducible refine gate_callee (f := 95) rfl ?_); refine goesL_ (some 39) rfl rfl Tryd.func95 (by kernel_rfl) rfl #[.int .i32 a0, .int .i32 63744, .int .i32 64255] rfl zl ?_; (with_reducible refine (backseatref01_in.calls a0 63744 64255 false _ A24.out).mono ?_); rintro e w' ⟨rfl, ⟨nd, rfl⟩⟩; refine ⟨_, rfl, ?_⟩) | (go_at_call 95; (with_reducible refine (backseatref01_in.calls a0 65281 65376 false _ A26.out).mono ?_); rintro e w' ⟨rfl, ⟨nd, rfl⟩⟩) | (go_at_call 95; (with_reducible refine (backseatref01_in.calls a0 127744 129791 false _ A28.out).mono ?_); rintro e w' ⟨rfl, ⟨nd, rfl⟩⟩) | (go_at_call 95; (with_reducible refine (backseatref01_in.calls a0 131072 262141 true _ A30.out).mono ?_); rintro e w' ⟨rfl, ⟨nd, rfl⟩⟩))
              go_ret
              exact ⟨by first | rfl | (simp; done) | (simp [*]; done), by repeat (first | exact Drawn0.refl _ | apply Drawn0.step)⟩
             ·replace c31 := Bool.eq_false_iff.mpr c31
              subst c31
              have H1 : (some 1) = some r := by rw [if_neg (show ¬ (false = true) by decide)] at H; exact H
              clear H
              have H := H1
              clear H1
              obtain rfl := Option.some.inj H
              go_wp2_with (first | ((with_reducible refine gate_callee (f := 95) rfl ?_); refine goesL_ (some 39) rfl rfl Tryd.func95 (by kernel_rfl) rfl #[.int .i32 a0, .int .i32 63744, .int .i32 64255] rfl zl ?_; (with_reducible refine (backseatref01_in.calls a0 63744 64255 false _ A24.out).mono ?_); rintro e w' ⟨rfl, ⟨nd, rfl⟩⟩; refine ⟨_, rfl, ?_⟩) | (go_at_call 95; (with_reducible refine (backseatref01_in.calls a0 65281 65376 false _ A26.out).mono ?_); rintro e w' ⟨rfl, ⟨nd, rfl⟩⟩) | (go_at_call 95; (with_reducible refine (backseatref01_in.calls a0 127744 129791 false _ A28.out).mono ?_); rintro e w' ⟨rfl, ⟨nd, rfl⟩⟩) | (go_at_call 95; (with_reducible refine (backseatref01_in.calls a0 131072 262141 false _ A30.out).mono ?_); rintro e w' ⟨rfl, ⟨nd, rfl⟩⟩))
              go_ret
              exact ⟨by first | rfl | (simp; done) | (simp [*]; done), by repeat (first | exact Drawn0.refl _ | apply Drawn0.step)⟩
end Go.Proofs.YtckkdaehmccjlaaDoor.P
namespace Go.Proofs.YtckkdaehmccjlaaDoor.P
set_option linter.unusedVariables false
set_option linter.unusedSimpArgs false
def inB (r lo hi : Int) : Bool := decide (lo ≤ r) && decide (r ≤ hi)
theorem in_f (r lo hi : Int) : backseatref01_in.f r lo hi = some (inB r lo hi) := by
 unfold backseatref01_in.f inB
 by_cases h : lo ≤ r <;> simp [h]
theorem is_f (r : Int) : backseatref01_Is.f r = some (Lib.validRune r) := by
 unfold backseatref01_Is.f Lib.validRune
 by_cases h0 : r ≥ 0
 ·by_cases h1 : r ≤ 1114111
  ·by_cases h2 : r < 55296
   ·rw [if_pos h0, if_pos h1, if_pos h2, decide_eq_true (by omega)]
   ·rw [if_pos h0, if_pos h1, if_neg h2]; congr 1; rw [decide_eq_decide]; omega
  ·rw [if_pos h0, if_neg h1, decide_eq_false (by omega)]
 ·rw [if_neg h0, decide_eq_false (by omega)]
def widthP (r : Int) : Int := if noLetter r = true then -1 else if inAny r zeroSpans = true then 0 else if inAny r wideSpans = true then 2 else 1
theorem utf_width (r : Int) : utf_Width.f r = some (widthP r) := rfl
theorem ref_width (r : Int) (k : Nat) : backseatref01_Width.f (k + 3) r = some (widthP r) := by
 have hz : inAny r zeroSpans = (inB r 768 879 || inB r 8203 8205 || inB r 65024 65039) := by simp [inAny, zeroSpans, inB, Bool.or_assoc]
 have hw : inAny r wideSpans = (inB r 4352 4447 || inB r 12353 19903 || inB r 19968 40959 || inB r 44032 55203 || inB r 63744 64255 || inB r 65281 65376 || inB r 127744 129791 || inB r 131072 262141) := by simp [inAny, wideSpans, inB, Bool.or_assoc]
 have hn : noLetter r = (!Lib.validRune r || decide (r < 32) || inB r 127 159) := by
  unfold noLetter inB
  congr 2
  rw [decide_eq_decide]; omega
 unfold widthP
 rw [hz, hw, hn]
 unfold backseatref01_Width.f
 simp only [is_f, in_f, Option.bind_some]
 have j0t : ∀ k, backseatref01_Width.j0 (k + 1) r true = some (-1) := fun k => by simp [backseatref01_Width.j0]
 have j1t : ∀ k, backseatref01_Width.j1 (k + 1) r true = some 0 := fun k => by simp [backseatref01_Width.j1]
 have j2t : ∀ k, backseatref01_Width.j2 (k + 1) r true = some 2 := fun k => by simp [backseatref01_Width.j2]
 have j2f : ∀ k, backseatref01_Width.j2 (k + 1) r false = some (if (inB r 63744 64255 || inB r 65281 65376 || inB r 127744 129791 || inB r 131072 262141) = true then 2 else 1) := fun k => by
  simp only [backseatref01_Width.j2, in_f, Option.bind_some]
  cases inB r 63744 64255 <;> cases inB r 65281 65376 <;> cases inB r 127744 129791 <;> cases inB r 131072 262141 <;> rfl
 have j1f : ∀ k, backseatref01_Width.j1 (k + 2) r false = some (if (inB r 4352 4447 || inB r 12353 19903 || inB r 19968 40959 || inB r 44032 55203 || inB r 63744 64255 || inB r 65281 65376 || inB r 127744 129791 || inB r 131072 262141) = true then 2 else 1) := fun k => by
  simp only [backseatref01_Width.j1, in_f, Option.bind_some]
  cases inB r 4352 4447 <;> cases inB r 12353 19903 <;> cases inB r 19968 40959 <;> cases inB r 44032 55203 <;> simp [j2t, j2f]
 have j0f : ∀ k, backseatref01_Width.j0 (k + 3) r false = some (if (inB r 768 879 || inB r 8203 8205 || inB r 65024 65039) = true then 0 else if (inB r 4352 4447 || inB r 12353 19903 || inB r 19968 40959 || inB r 44032 55203 || inB r 63744 64255 || inB r 65281 65376 || inB r 127744 129791 || inB r 131072 262141) = true then 2 else 1) := fun k => by
  simp only [backseatref01_Width.j0, in_f, Option.bind_some]
  cases inB r 768 879 <;> cases inB r 8203 8205 <;> cases inB r 65024 65039 <;> simp [j1t, j1f]
 cases Lib.validRune r
 ·simp [j0t]
 ·by_cases h : r < 32
  ·simp [h, j0t]
  ·simp only [h, if_true, if_false, decide_false, Bool.not_true, Bool.false_or]
   cases inB r 127 159
   ·rw [j0f]; simp
   ·rw [j0t]; simp
theorem ref_width_ev (r : Int) : Ev (fun k => backseatref01_Width.f k r) (widthP r) := ⟨3, fun k hk => by
 obtain ⟨j, rfl⟩ : ∃ j, k = j + 3 := ⟨k - 3, by omega⟩
 exact ref_width r j⟩
end Go.Proofs.YtckkdaehmccjlaaDoor.P
namespace Go.Proofs.YtckkdaehmccjlaaDoor.P
open Go.RowKit Go.Proofs.YtckkdaehmccjlaaDoorW.PrintWords Go.Proofs.YtckkdaehmccjlaaDoorW.PrintLast Go.Proofs.YtckkdaehmccjlaaDoorW.PrintMore
attribute [local go_sem] max2_int min2_int max_two min_two max_three min_three max_four min_four   -- for this text's walks alone
set_option linter.unusedVariables false
set_option linter.unusedSimpArgs false
def backseatref04_in.f (a0 : Int) (a1 : Int) (a2 : Int) : Option (Bool) := if a0 ≥ a1 then (some (decide (a0 ≤ a2))) else (some false)
set_option maxHeartbeats 8000000 in
set_option maxRecDepth 100000 in
theorem backseatref04_in.calls (a0 : Int) (a1 : Int) (a2 : Int) (r : Bool) (w : World) (h : backseatref04_in.f a0 a1 a2 = some r) :
  Calls Tryd.prog 90 #[.int .i64 a0, .int .i64 a1, .int .i64 a2] w fun e w' => e = .returned (.bool r) ∧ Drawn0 w w' := by
 have H : (if a0 ≥ a1 then (some (decide (a0 ≤ a2))) else (some false)) = some r := h
 clear h
 by_cases c4 : a0 ≥ a1
 ·rw [if_pos c4] at H
  have c4b0 : decide (a1 ≤ a0) = true := decide_eq_true c4
  clear c4
  obtain rfl := Option.some.inj H
  go_enter Tryd.func90, Tryd.ntmps90
  go_wp2
  go_ret
  exact ⟨by first | rfl | (simp; done) | (simp [*]; done), by repeat (first | exact Drawn0.refl _ | apply Drawn0.step)⟩
 ·rw [if_neg c4] at H
  have c4b0 : decide (a1 ≤ a0) = false := decide_eq_false c4
  clear c4
  obtain rfl := Option.some.inj H
  go_enter Tryd.func90, Tryd.ntmps90
  go_wp2
  go_ret
  exact ⟨by first | rfl | (simp; done) | (simp [*]; done), by repeat (first | exact Drawn0.refl _ | apply Drawn0.step)⟩
def backseatref04_Look.f (a0_0 : Int) (a0_1 : Int) (a0_2 : Int) : Option (Bool) := (backseatref04_in.f a0_0 0 256).bind fun t200 => (if t200 = true then ((backseatref04_in.f a0_1 0 256).bind fun t201 => (if t201 = true then ((backseatref04_in.f a0_2 0 255).bind fun t202 => (some t202)) else (some false))) else (some false))
set_option maxHeartbeats 8000000 in
set_option maxRecDepth 100000 in
theorem backseatref04_Look.calls (a0_0 : Int) (a0_1 : Int) (a0_2 : Int) (r : Bool) (w : World) (h : backseatref04_Look.f a0_0 a0_1 a0_2 = some r) :
  Calls Tryd.prog 73 #[.agg #[.int .i64 a0_0, .int .i64 a0_1, .int .i64 a0_2]] w fun e w' => e = .returned (.bool r) ∧ Below w.heap.size w w' := by
 have hu58 := Tryd.underlying58
 have HB := Aside0.mk (Below.refl w.heap.size w)
 have H : ((backseatref04_in.f a0_0 0 256).bind fun t200 => (if t200 = true then ((backseatref04_in.f a0_1 0 256).bind fun t201 => (if t201 = true then ((backseatref04_in.f a0_2 0 255).bind fun t202 => (some t202)) else (some false))) else (some false))) = some r := h
 clear h
 replace H := Option.bind_eq_some_iff.mp H
 obtain ⟨t200, A20, H⟩ := H
 replace H : (if t200 = true then ((backseatref04_in.f a0_1 0 256).bind fun t201 => (if t201 = true then ((backseatref04_in.f a0_2 0 255).bind fun t202 => (some t202)) else (some false))) else (some false)) = some r := H
 have A2 := Aside0.mk A20
 clear A20
 by_cases c3 : t200 = true
 ·subst c3
  have H1 : ((backseatref04_in.f a0_1 0 256).bind fun t201 => (if t201 = true then ((backseatref04_in.f a0_2 0 255).bind fun t202 => (some t202)) else (some false))) = some r := by rw [if_pos rfl] at H; exact H
  clear H
  have H := H1
  clear H1
  replace H := Option.bind_eq_some_iff.mp H
  obtain ⟨t201, A40, H⟩ := H
  replace H : (if t201 = true then ((backseatref04_in.f a0_2 0 255).bind fun t202 => (some t202)) else (some false)) = some r := H
  have A4 := Aside0.mk A40
  clear A40
  by_cases c5 : t201 = true
  ·subst c5
   have H1 : ((backseatref04_in.f a0_2 0 255).bind fun t202 => (some t202)) = some r := by rw [if_pos rfl] at H; exact H
   clear H
   have H := H1
   clear H1
   replace H := Option.bind_eq_some_iff.mp H
   obtain ⟨t202, A60, H⟩ := H
   replace H : (some t202) = some r := H
   have A6 := Aside0.mk A60
   clear A60
   obtain rfl := Option.some.inj H
   go_enter Tryd.func73, Tryd.ntmps73
   go_wp2_with (first | ((with_reducible refine gate_dst (N := 1) rfl ?_); refine box_event ?hg (N := 1) ?hd (cs := #[.int .i64 a0_0, .int .i64 a0_1, .int .i64 a0_2]) (t := 58) ?hr ?_; (case hd => rfl); (case hg => rfl); (case hr => exact zo); intro gb199 hg w7 hbox hb; have BK199 := Aside0.mk (hbox); have GW199 := Aside0.mk ((zg hg : w.heap.size ≤ gb199)); have GE199 := Aside0.mk ((zg hg : w.heap.size ≤ gb199)); replace HB := (zs HB hb); clear hb hbox hg; obtain ⟨hcz8_0, hcz8_1, hcz8_2, hfz8_0, hfz8_1, hfz8_2⟩ := zq3 (w := w7) BK199) | ((with_reducible refine gate_callee (f := 90) rfl ?_); refine goesL_ (some 5) rfl rfl Tryd.func90 (by kernel_rfl) rfl #[.int .i64 a0_0, .int .i64 0, .int .i64 256] rfl zl ?_; (with_reducible refine (backseatref04_in.calls a0_0 0 256 true _ A2.out).mono ?_); rintro e w' ⟨rfl, ⟨nd, rfl⟩⟩; refine ⟨_, rfl, ?_⟩) | (go_at_call 90; (with_reducible refine (backseatref04_in.calls a0_1 0 256 true _ A4.out).mono ?_); rintro e w' ⟨rfl, ⟨nd, rfl⟩⟩) | (go_at_call 90; (with_reducible refine (backseatref04_in.calls a0_2 0 255 t202 _ A6.out).mono ?_); rintro e w' ⟨rfl, ⟨nd, rfl⟩⟩))
   go_ret
   exact ⟨ze, zb⟩
  ·replace c5 := Bool.eq_false_iff.mpr c5
   subst c5
   have H1 : (some false) = some r := by rw [if_neg (show ¬ (false = true) by decide)] at H; exact H
   clear H
   have H := H1
   clear H1
   obtain rfl := Option.some.inj H
   go_enter Tryd.func73, Tryd.ntmps73
   go_wp2_with (first | ((with_reducible refine gate_dst (N := 1) rfl ?_); refine box_event ?hg (N := 1) ?hd (cs := #[.int .i64 a0_0, .int .i64 a0_1, .int .i64 a0_2]) (t := 58) ?hr ?_; (case hd => rfl); (case hg => rfl); (case hr => exact zo); intro gb199 hg w9 hbox hb; have BK199 := Aside0.mk (hbox); have GW199 := Aside0.mk ((zg hg : w.heap.size ≤ gb199)); have GE199 := Aside0.mk ((zg hg : w.heap.size ≤ gb199)); replace HB := (zs HB hb); clear hb hbox hg; obtain ⟨hcz10_0, hcz10_1, hcz10_2, hfz10_0, hfz10_1, hfz10_2⟩ := zq3 (w := w9) BK199) | ((with_reducible refine gate_callee (f := 90) rfl ?_); refine goesL_ (some 5) rfl rfl Tryd.func90 (by kernel_rfl) rfl #[.int .i64 a0_0, .int .i64 0, .int .i64 256] rfl zl ?_; (with_reducible refine (backseatref04_in.calls a0_0 0 256 true _ A2.out).mono ?_); rintro e w' ⟨rfl, ⟨nd, rfl⟩⟩; refine ⟨_, rfl, ?_⟩) | (go_at_call 90; (with_reducible refine (backseatref04_in.calls a0_1 0 256 false _ A4.out).mono ?_); rintro e w' ⟨rfl, ⟨nd, rfl⟩⟩))
   go_ret
   exact ⟨ze, zb⟩
 ·replace c3 := Bool.eq_false_iff.mpr c3
  subst c3
  have H1 : (some false) = some r := by rw [if_neg (show ¬ (false = true) by decide)] at H; exact H
  clear H
  have H := H1
  clear H1
  obtain rfl := Option.some.inj H
  go_enter Tryd.func73, Tryd.ntmps73
  go_wp2_with (first | ((with_reducible refine gate_dst (N := 1) rfl ?_); refine box_event ?hg (N := 1) ?hd (cs := #[.int .i64 a0_0, .int .i64 a0_1, .int .i64 a0_2]) (t := 58) ?hr ?_; (case hd => rfl); (case hg => rfl); (case hr => exact zo); intro gb199 hg w11 hbox hb; have BK199 := Aside0.mk (hbox); have GW199 := Aside0.mk ((zg hg : w.heap.size ≤ gb199)); have GE199 := Aside0.mk ((zg hg : w.heap.size ≤ gb199)); replace HB := (zs HB hb); clear hb hbox hg; obtain ⟨hcz12_0, hcz12_1, hcz12_2, hfz12_0, hfz12_1, hfz12_2⟩ := zq3 (w := w11) BK199) | ((with_reducible refine gate_callee (f := 90) rfl ?_); refine goesL_ (some 5) rfl rfl Tryd.func90 (by kernel_rfl) rfl #[.int .i64 a0_0, .int .i64 0, .int .i64 256] rfl zl ?_; (with_reducible refine (backseatref04_in.calls a0_0 0 256 false _ A2.out).mono ?_); rintro e w' ⟨rfl, ⟨nd, rfl⟩⟩; refine ⟨_, rfl, ?_⟩))
  go_ret
  exact ⟨ze, zb⟩
mutual
def backseatref04_Right.j0 : Nat → Bool → ByteArray → Int → Int → Int → Int → Option (Bool)
 | 0, _, _, _, _, _, _ => none
 | k + 1, x20, x221000, x221001, x221002, x221003, x221004 => if x20 = true then (some false) else (if x221000.toList = ([] : List UInt8) then (some (decide (x221001 < 2))) else ((backseatref01_First.f k x221000).bind fun bt222 => (if bt222.2.2 = 0 then (if x221001 = 0 then (backseatref04_Right.j1 k true x221000 x221001 x221002 x221003 x221004 bt222.1 bt222.2.1 bt222.2.2) else ((backseatref01_Width.f k bt222.1).bind fun t226 => (backseatref04_Right.j1 k (t226 != x221001) x221000 x221001 x221002 x221003 x221004 bt222.1 bt222.2.1 bt222.2.2))) else (backseatref04_Right.j1 k true x221000 x221001 x221002 x221003 x221004 bt222.1 bt222.2.1 bt222.2.2))))
def backseatref04_Right.j1 : Nat → Bool → ByteArray → Int → Int → Int → Int → Int → Int → Int → Option (Bool)
 | 0, _, _, _, _, _, _, _, _, _ => none
 | k + 1, x45, x221000, x221001, x221002, x221003, x221004, x226000, x226001, x226002 => if x45 = true then (some false) else (if 0 ≤ x226001 then (if x226001 ≤ (x221000.size : Int) then (backseatref04_Right.l0 k (x221000.extract (x226001 : Int).toNat x221000.size) 0) else (none)) else (none))
def backseatref04_Right.l0 : Nat → ByteArray → Int → Option (Bool)
 | 0, _, _ => none
 | k + 1, x4, x5 => if (x4.size : Int) > 0 then ((backseatref01_First.f k x4).bind fun bt227 => (if bt227.2.2 = 0 then ((backseatref01_Width.f k bt227.1).bind fun t231 => (if t231 = 0 then (if 0 ≤ bt227.2.1 then (if bt227.2.1 ≤ (x4.size : Int) then (backseatref04_Right.l0 k (x4.extract (bt227.2.1 : Int).toNat x4.size) (wrap64 (x5 + 1))) else (none)) else (none)) else (some false))) else (some false))) else (some (decide (x5 ≤ 2)))
end
def backseatref04_Right.f (k : Nat) (a0_0 : ByteArray) (a0_1 : Int) (a0_2 : Int) (a0_3 : Int) (a0_4 : Int) : Option (Bool) := (backseatref04_Look.f a0_2 a0_3 a0_4).bind fun t221 => (if t221 = true then (if a0_1 < 0 then (backseatref04_Right.j0 k true a0_0 a0_1 a0_2 a0_3 a0_4) else (backseatref04_Right.j0 k (decide (a0_1 > 2)) a0_0 a0_1 a0_2 a0_3 a0_4)) else (backseatref04_Right.j0 k true a0_0 a0_1 a0_2 a0_3 a0_4))
set_option maxHeartbeats 8000000 in
set_option maxRecDepth 100000 in
theorem backseatref04_Right.calls (k : Nat) (a0_0 : ByteArray) (a0_1 : Int) (a0_2 : Int) (a0_3 : Int) (a0_4 : Int) (r : Bool) (w : World) (h : backseatref04_Right.f k a0_0 a0_1 a0_2 a0_3 a0_4 = some r) :
  Calls Tryd.prog 53 #[.agg #[.string a0_0, .int .i64 a0_1, .int .i64 a0_2, .int .i64 a0_3, .int .i64 a0_4]] w fun e w' => e = .returned (.bool r) ∧ Below w.heap.size w w' := by
 have hu60 := Tryd.underlying60
 have hu58 := Tryd.underlying58
 have hu106 := Tryd.underlying106
 have HB := Aside0.mk (Below.refl w.heap.size w)
 have H : ((backseatref04_Look.f a0_2 a0_3 a0_4).bind fun t221 => (if t221 = true then (if a0_1 < 0 then (backseatref04_Right.j0 k true a0_0 a0_1 a0_2 a0_3 a0_4) else (backseatref04_Right.j0 k (decide (a0_1 > 2)) a0_0 a0_1 a0_2 a0_3 a0_4)) else (backseatref04_Right.j0 k true a0_0 a0_1 a0_2 a0_3 a0_4))) = some r := h
 clear h
 have HC2 := Aside0.mk H
 clear H
 go_enter Tryd.func53, Tryd.ntmps53
 go_upto_region 1 with (first | ((with_reducible refine gate_dst (N := 1) rfl ?_); refine box_event ?hg (N := 1) ?hd (cs := #[.string a0_0, .int .i64 a0_1, .int .i64 a0_2, .int .i64 a0_3, .int .i64 a0_4]) (t := 60) ?hr ?_; (case hd => rfl); (case hg => rfl); (case hr => exact zo); intro gb220 hg w3 hbox hb; have BK220 := Aside0.mk (hbox); have GW220 := Aside0.mk ((zg hg : w.heap.size ≤ gb220)); have GE220 := Aside0.mk ((zg hg : w.heap.size ≤ gb220)); replace HB := (zs HB hb); clear hb hbox hg))
 repeat (go_quiet (first | ((with_reducible refine gate_dst (N := 1) rfl ?_); refine box_event ?hg (N := 1) ?hd (cs := #[.string a0_0, .int .i64 a0_1, .int .i64 a0_2, .int .i64 a0_3, .int .i64 a0_4]) (t := 60) ?hr ?_; (case hd => rfl); (case hg => rfl); (case hr => exact zo); intro gb220 hg w3 hbox hb; have BK220 := Aside0.mk (hbox); have GW220 := Aside0.mk ((zg hg : w.heap.size ≤ gb220)); have GE220 := Aside0.mk ((zg hg : w.heap.size ≤ gb220)); replace HB := (zs HB hb); clear hb hbox hg)); go_upto_region 1 with (first | ((with_reducible refine gate_dst (N := 1) rfl ?_); refine box_event ?hg (N := 1) ?hd (cs := #[.string a0_0, .int .i64 a0_1, .int .i64 a0_2, .int .i64 a0_3, .int .i64 a0_4]) (t := 60) ?hr ?_; (case hd => rfl); (case hg => rfl); (case hr => exact zo); intro gb220 hg w3 hbox hb; have BK220 := Aside0.mk (hbox); have GW220 := Aside0.mk ((zg hg : w.heap.size ≤ gb220)); have GE220 := Aside0.mk ((zg hg : w.heap.size ≤ gb220)); replace HB := (zs HB hb); clear hb hbox hg)))
 (try simp only [Act.put, List.setIfInBounds_toArray, List.set_cons_zero, List.set_cons_succ])
 go_cut [20] (fun v20 wc => ∃ (kq : Nat) (x20_1 : Bool), v20 = .bool x20_1 ∧ Aside0 (backseatref04_Right.j0 kq x20_1 a0_0 a0_1 a0_2 a0_3 a0_4 = some r) ∧ Aside0 (kq ≤ k) ∧ Aside0 (wc.heap[gb220]? = some (.cells #[.string a0_0, .int .i64 a0_1, .int .i64 a0_2, .int .i64 a0_3, .int .i64 a0_4] 60 (0, 0))) ∧ Aside0 (Below w.heap.size w wc))
 case first =>
  have H := HC2.out
  clear HC2
  replace H := Option.bind_eq_some_iff.mp H
  obtain ⟨t221, A40, H⟩ := H
  replace H : (if t221 = true then (if a0_1 < 0 then (backseatref04_Right.j0 k true a0_0 a0_1 a0_2 a0_3 a0_4) else (backseatref04_Right.j0 k (decide (a0_1 > 2)) a0_0 a0_1 a0_2 a0_3 a0_4)) else (backseatref04_Right.j0 k true a0_0 a0_1 a0_2 a0_3 a0_4)) = some r := H
  have A4 := Aside0.mk A40
  clear A40
  by_cases c5 : t221 = true
  ·subst c5
   have H1 : (if a0_1 < 0 then (backseatref04_Right.j0 k true a0_0 a0_1 a0_2 a0_3 a0_4) else (backseatref04_Right.j0 k (decide (a0_1 > 2)) a0_0 a0_1 a0_2 a0_3 a0_4)) = some r := by rw [if_pos rfl] at H; exact H
   clear H
   have H := H1
   clear H1
   by_cases c6 : a0_1 < 0
   ·rw [if_pos c6] at H
    have c6b0 : decide (a0_1 < 0) = true := decide_eq_true c6
    clear c6
    (first | rw [c6b0] | (simp only [i64_w, i32_w]; rw [c6b0]) | skip)
    have H' := Aside0.mk H
    clear H
    obtain ⟨hcz7_0, hcz7_1, hcz7_2, hcz7_3, hcz7_4, hfz7_0, hfz7_1, hfz7_2, hfz7_3, hfz7_4⟩ := zq5 (w := w3) BK220
    go_wp2_with (first | (go_at_call 73; (with_reducible refine (backseatref04_Look.calls a0_2 a0_3 a0_4 true _ A4.out).mono ?_); rintro e w8 ⟨rfl, hb⟩; replace BK220 := (zk BK220 hb); replace HB := (zs HB hb); (try clear hb); obtain ⟨hcz9_0, hcz9_1, hcz9_2, hcz9_3, hcz9_4, hfz9_0, hfz9_1, hfz9_2, hfz9_3, hfz9_4⟩ := zq5 (w := w8) BK220))
    repeat (go_quiet (first | (go_at_call 73; (with_reducible refine (backseatref04_Look.calls a0_2 a0_3 a0_4 true _ A4.out).mono ?_); rintro e w8 ⟨rfl, hb⟩; replace BK220 := (zk BK220 hb); replace HB := (zs HB hb); (try clear hb); obtain ⟨hcz9_0, hcz9_1, hcz9_2, hcz9_3, hcz9_4, hfz9_0, hfz9_1, hfz9_2, hfz9_3, hfz9_4⟩ := zq5 (w := w8) BK220)); try go_wp2_with (first | (go_at_call 73; (with_reducible refine (backseatref04_Look.calls a0_2 a0_3 a0_4 true _ A4.out).mono ?_); rintro e w8 ⟨rfl, hb⟩; replace BK220 := (zk BK220 hb); replace HB := (zs HB hb); (try clear hb); obtain ⟨hcz9_0, hcz9_1, hcz9_2, hcz9_3, hcz9_4, hfz9_0, hfz9_1, hfz9_2, hfz9_3, hfz9_4⟩ := zq5 (w := w8) BK220)))
    go_meet
    case rel => exact ⟨_, (true), zf, H', ⟨by first | omega | exact Nat.le_refl _⟩, ⟨by exact BK220.out⟩, ⟨zb⟩⟩
   ·rw [if_neg c6] at H
    have c6b0 : decide (a0_1 < 0) = false := decide_eq_false c6
    clear c6
    (first | rw [c6b0] | (simp only [i64_w, i32_w]; rw [c6b0]) | skip)
    have H' := Aside0.mk H
    clear H
    obtain ⟨hcz10_0, hcz10_1, hcz10_2, hcz10_3, hcz10_4, hfz10_0, hfz10_1, hfz10_2, hfz10_3, hfz10_4⟩ := zq5 (w := w3) BK220
    go_wp2_with (first | (go_at_call 73; (with_reducible refine (backseatref04_Look.calls a0_2 a0_3 a0_4 true _ A4.out).mono ?_); rintro e w11 ⟨rfl, hb⟩; replace BK220 := (zk BK220 hb); replace HB := (zs HB hb); (try clear hb); obtain ⟨hcz12_0, hcz12_1, hcz12_2, hcz12_3, hcz12_4, hfz12_0, hfz12_1, hfz12_2, hfz12_3, hfz12_4⟩ := zq5 (w := w11) BK220))
    repeat (go_quiet (first | (go_at_call 73; (with_reducible refine (backseatref04_Look.calls a0_2 a0_3 a0_4 true _ A4.out).mono ?_); rintro e w11 ⟨rfl, hb⟩; replace BK220 := (zk BK220 hb); replace HB := (zs HB hb); (try clear hb); obtain ⟨hcz12_0, hcz12_1, hcz12_2, hcz12_3, hcz12_4, hfz12_0, hfz12_1, hfz12_2, hfz12_3, hfz12_4⟩ := zq5 (w := w11) BK220)); try go_wp2_with (first | (go_at_call 73; (with_reducible refine (backseatref04_Look.calls a0_2 a0_3 a0_4 true _ A4.out).mono ?_); rintro e w11 ⟨rfl, hb⟩; replace BK220 := (zk BK220 hb); replace HB := (zs HB hb); (try clear hb); obtain ⟨hcz12_0, hcz12_1, hcz12_2, hcz12_3, hcz12_4, hfz12_0, hfz12_1, hfz12_2, hfz12_3, hfz12_4⟩ := zq5 (w := w11) BK220)))
    go_meet
    case rel => exact ⟨_, (decide (a0_1 > 2)), zf, H', ⟨by first | omega | exact Nat.le_refl _⟩, ⟨by exact BK220.out⟩, ⟨zb⟩⟩
  ·replace c5 := Bool.eq_false_iff.mpr c5
   subst c5
   have H1 : (backseatref04_Right.j0 k true a0_0 a0_1 a0_2 a0_3 a0_4) = some r := by rw [if_neg (show ¬ (false = true) by decide)] at H; exact H
   clear H
   have H := H1
   clear H1
   have H' := Aside0.mk H
   clear H
   obtain ⟨hcz13_0, hcz13_1, hcz13_2, hcz13_3, hcz13_4, hfz13_0, hfz13_1, hfz13_2, hfz13_3, hfz13_4⟩ := zq5 (w := w3) BK220
   go_wp2_with (first | (go_at_call 73; (with_reducible refine (backseatref04_Look.calls a0_2 a0_3 a0_4 false _ A4.out).mono ?_); rintro e w14 ⟨rfl, hb⟩; replace BK220 := (zk BK220 hb); replace HB := (zs HB hb); (try clear hb)))
   repeat (go_quiet (first | (go_at_call 73; (with_reducible refine (backseatref04_Look.calls a0_2 a0_3 a0_4 false _ A4.out).mono ?_); rintro e w14 ⟨rfl, hb⟩; replace BK220 := (zk BK220 hb); replace HB := (zs HB hb); (try clear hb))); try go_wp2_with (first | (go_at_call 73; (with_reducible refine (backseatref04_Look.calls a0_2 a0_3 a0_4 false _ A4.out).mono ?_); rintro e w14 ⟨rfl, hb⟩; replace BK220 := (zk BK220 hb); replace HB := (zs HB hb); (try clear hb))))
   go_meet
   case rel => exact ⟨_, (true), zf, H', ⟨by first | omega | exact Nat.le_refl _⟩, ⟨by exact BK220.out⟩, ⟨zb⟩⟩
 case rest =>
  clear HC2
  obtain ⟨kq, x20_1, rfl, HA, HJ1, BK220, HB⟩ := hcut
  cases kq with
  | zero => exact absurd HA.out (by simp [backseatref04_Right.j0])
  | succ kj1 =>
   have H := HA.out
   clear HA
   simp only [backseatref04_Right.j0] at H
   by_cases c15 : x20_1 = true
   ·subst c15
    have H1 : (some false) = some r := by rw [if_pos rfl] at H; exact H
    clear H
    have H := H1
    clear H1
    obtain rfl := Option.some.inj H
    go_wp2
    repeat (go_quiet (fail); try go_wp2)
    go_ret
    exact ⟨ze, zb⟩
   ·replace c15 := Bool.eq_false_iff.mpr c15
    subst c15
    have H1 : (if a0_0.toList = ([] : List UInt8) then (some (decide (a0_1 < 2))) else ((backseatref01_First.f kj1 a0_0).bind fun bt222 => (if bt222.2.2 = 0 then (if a0_1 = 0 then (backseatref04_Right.j1 kj1 true a0_0 a0_1 a0_2 a0_3 a0_4 bt222.1 bt222.2.1 bt222.2.2) else ((backseatref01_Width.f kj1 bt222.1).bind fun t226 => (backseatref04_Right.j1 kj1 (t226 != a0_1) a0_0 a0_1 a0_2 a0_3 a0_4 bt222.1 bt222.2.1 bt222.2.2))) else (backseatref04_Right.j1 kj1 true a0_0 a0_1 a0_2 a0_3 a0_4 bt222.1 bt222.2.1 bt222.2.2)))) = some r := by rw [if_neg (show ¬ (false = true) by decide)] at H; exact H
    clear H
    have H := H1
    clear H1
    by_cases c16 : a0_0.toList = ([] : List UInt8)
    ·rw [if_pos c16] at H
     have c16b0 : (a0_0.toList == ([] : List UInt8)) = true := beq_iff_eq.mpr c16
     have c16b1 : (a0_0.toList != ([] : List UInt8)) = false := bne_eq_false_iff_eq.mpr c16
     clear c16
     obtain rfl := Option.some.inj H
     obtain ⟨hcz17_0, hcz17_1, hcz17_2, hcz17_3, hcz17_4, hfz17_0, hfz17_1, hfz17_2, hfz17_3, hfz17_4⟩ := zq5 (w := wc) BK220
     go_wp2
     repeat (go_quiet (fail); try go_wp2)
     go_ret
     exact ⟨ze, zb⟩
    ·rw [if_neg c16] at H
     have c16b0 : (a0_0.toList == ([] : List UInt8)) = false := beq_eq_false_iff_ne.mpr c16
     have c16b1 : (a0_0.toList != ([] : List UInt8)) = true := bne_iff_ne.mpr c16
     replace H := Option.bind_eq_some_iff.mp H
     obtain ⟨⟨t222, t223, t224⟩, A180, H⟩ := H
     replace H : (if t224 = 0 then (if a0_1 = 0 then (backseatref04_Right.j1 kj1 true a0_0 a0_1 a0_2 a0_3 a0_4 t222 t223 t224) else ((backseatref01_Width.f kj1 t222).bind fun t226 => (backseatref04_Right.j1 kj1 (t226 != a0_1) a0_0 a0_1 a0_2 a0_3 a0_4 t222 t223 t224))) else (backseatref04_Right.j1 kj1 true a0_0 a0_1 a0_2 a0_3 a0_4 t222 t223 t224)) = some r := H
     have A18 := Aside0.mk A180
     clear A180
     have HC19 := Aside0.mk H
     clear H
     obtain ⟨hcz20_0, hcz20_1, hcz20_2, hcz20_3, hcz20_4, hfz20_0, hfz20_1, hfz20_2, hfz20_3, hfz20_4⟩ := zq5 (w := wc) BK220
     go_upto_region 6 with (first | (go_at_call 74; (with_reducible refine (backseatref01_First.calls kj1 a0_0 t222 t223 t224 _ A18.out).mono ?_); rintro e w21 ⟨rfl, hb⟩; replace BK220 := (zk BK220 hb); replace HB := (zs HB hb); (try clear hb)) | ((with_reducible refine gate_dst (N := 3) rfl ?_); refine box_event ?hg (N := 3) ?hd (cs := #[.int .i32 0, .int .i64 0, .int .i64 0]) (t := 106) ?hr ?_; (case hd => rfl); (case hg => rfl); (case hr => exact zo); intro gb225 hg w22 hbox hb; have n0_ := (zk BK220 hb); have n1_ := (zs HB hb); have n2_ := Aside0.mk (hbox); have n3_ := Aside0.mk ((zg hg : w.heap.size ≤ gb225)); have n4_ := Aside0.mk ((zg hg : w.heap.size ≤ gb225)); have n5_ := Aside0.mk ((by rw [hg]; exact Nat.ne_of_lt (blk_lt (g := gb220) (o := .cells #[.string a0_0, .int .i64 a0_1, .int .i64 a0_2, .int .i64 a0_3, .int .i64 a0_4] 60 (0, 0)) (by exact BK220.out)) : gb220 ≠ gb225)); have n6_ := Aside0.mk ((by rw [hg]; exact Nat.ne_of_gt (blk_lt (g := gb220) (o := .cells #[.string a0_0, .int .i64 a0_1, .int .i64 a0_2, .int .i64 a0_3, .int .i64 a0_4] 60 (0, 0)) (by exact BK220.out)) : gb225 ≠ gb220)); clear BK220; clear HB; have BK220 := n0_; have HB := n1_; have BK225 := n2_; have GW225 := n3_; have GE225 := n4_; have NB220_225 := n5_; have NB225_220 := n6_; clear n0_ n1_ n2_ n3_ n4_ n5_ n6_; clear hb hbox hg; have hnb23 := NB225_220.out; have hnc23 := NB220_225.out; obtain ⟨hcz24_0, hcz24_1, hcz24_2, hfz24_0, hfz24_1, hfz24_2⟩ := zq3 (w := w22) BK225))
     repeat (go_quiet (first | (go_at_call 74; (with_reducible refine (backseatref01_First.calls kj1 a0_0 t222 t223 t224 _ A18.out).mono ?_); rintro e w21 ⟨rfl, hb⟩; replace BK220 := (zk BK220 hb); replace HB := (zs HB hb); (try clear hb)) | ((with_reducible refine gate_dst (N := 3) rfl ?_); refine box_event ?hg (N := 3) ?hd (cs := #[.int .i32 0, .int .i64 0, .int .i64 0]) (t := 106) ?hr ?_; (case hd => rfl); (case hg => rfl); (case hr => exact zo); intro gb225 hg w22 hbox hb; have n0_ := (zk BK220 hb); have n1_ := (zs HB hb); have n2_ := Aside0.mk (hbox); have n3_ := Aside0.mk ((zg hg : w.heap.size ≤ gb225)); have n4_ := Aside0.mk ((zg hg : w.heap.size ≤ gb225)); have n5_ := Aside0.mk ((by rw [hg]; exact Nat.ne_of_lt (blk_lt (g := gb220) (o := .cells #[.string a0_0, .int .i64 a0_1, .int .i64 a0_2, .int .i64 a0_3, .int .i64 a0_4] 60 (0, 0)) (by exact BK220.out)) : gb220 ≠ gb225)); have n6_ := Aside0.mk ((by rw [hg]; exact Nat.ne_of_gt (blk_lt (g := gb220) (o := .cells #[.string a0_0, .int .i64 a0_1, .int .i64 a0_2, .int .i64 a0_3, .int .i64 a0_4] 60 (0, 0)) (by exact BK220.out)) : gb225 ≠ gb220)); clear BK220; clear HB; have BK220 := n0_; have HB := n1_; have BK225 := n2_; have GW225 := n3_; have GE225 := n4_; have NB220_225 := n5_; have NB225_220 := n6_; clear n0_ n1_ n2_ n3_ n4_ n5_ n6_; clear hb hbox hg; have hnb23 := NB225_220.out; have hnc23 := NB220_225.out; obtain ⟨hcz24_0, hcz24_1, hcz24_2, hfz24_0, hfz24_1, hfz24_2⟩ := zq3 (w := w22) BK225)); go_upto_region 6 with (first | (go_at_call 74; (with_reducible refine (backseatref01_First.calls kj1 a0_0 t222 t223 t224 _ A18.out).mono ?_); rintro e w21 ⟨rfl, hb⟩; replace BK220 := (zk BK220 hb); replace HB := (zs HB hb); (try clear hb)) | ((with_reducible refine gate_dst (N := 3) rfl ?_); refine box_event ?hg (N := 3) ?hd (cs := #[.int .i32 0, .int .i64 0, .int .i64 0]) (t := 106) ?hr ?_; (case hd => rfl); (case hg => rfl); (case hr => exact zo); intro gb225 hg w22 hbox hb; have n0_ := (zk BK220 hb); have n1_ := (zs HB hb); have n2_ := Aside0.mk (hbox); have n3_ := Aside0.mk ((zg hg : w.heap.size ≤ gb225)); have n4_ := Aside0.mk ((zg hg : w.heap.size ≤ gb225)); have n5_ := Aside0.mk ((by rw [hg]; exact Nat.ne_of_lt (blk_lt (g := gb220) (o := .cells #[.string a0_0, .int .i64 a0_1, .int .i64 a0_2, .int .i64 a0_3, .int .i64 a0_4] 60 (0, 0)) (by exact BK220.out)) : gb220 ≠ gb225)); have n6_ := Aside0.mk ((by rw [hg]; exact Nat.ne_of_gt (blk_lt (g := gb220) (o := .cells #[.string a0_0, .int .i64 a0_1, .int .i64 a0_2, .int .i64 a0_3, .int .i64 a0_4] 60 (0, 0)) (by exact BK220.out)) : gb225 ≠ gb220)); clear BK220; clear HB; have BK220 := n0_; have HB := n1_; have BK225 := n2_; have GW225 := n3_; have GE225 := n4_; have NB220_225 := n5_; have NB225_220 := n6_; clear n0_ n1_ n2_ n3_ n4_ n5_ n6_; clear hb hbox hg; have hnb23 := NB225_220.out; have hnc23 := NB220_225.out; obtain ⟨hcz24_0, hcz24_1, hcz24_2, hfz24_0, hfz24_1, hfz24_2⟩ := zq3 (w := w22) BK225)))
     (try simp only [Act.put, List.setIfInBounds_toArray, List.set_cons_zero, List.set_cons_succ])
     go_cut [45] (fun v45 wc => ∃ (kq : Nat) (x45_18 : Bool), v45 = .bool x45_18 ∧ Aside0 (backseatref04_Right.j1 kq x45_18 a0_0 a0_1 a0_2 a0_3 a0_4 t222 t223 t224 = some r) ∧ Aside0 (kq ≤ kj1) ∧ Aside0 (wc.heap[gb220]? = some (.cells #[.string a0_0, .int .i64 a0_1, .int .i64 a0_2, .int .i64 a0_3, .int .i64 a0_4] 60 (0, 0))) ∧ Aside0 (wc.heap[gb225]? = some (.cells #[.int .i32 t222, .int .i64 t223, .int .i64 t224] 106 (0, 0))) ∧ Aside0 (Below w.heap.size w wc))
     case first =>
      have H := HC19.out
      clear HC19
      by_cases c25 : t224 = 0
      ·rw [if_pos c25] at H
       have c25b0 : (t224 == 0) = true := beq_iff_eq.mpr c25
       have c25b1 : (t224 != 0) = false := bne_eq_false_iff_eq.mpr c25
       clear c25
       (first | rw [c25b0] | (simp only [i64_w, i32_w]; rw [c25b0]) | skip)
       by_cases c26 : a0_1 = 0
       ·rw [if_pos c26] at H
        have c26b0 : (a0_1 == 0) = true := beq_iff_eq.mpr c26
        have c26b1 : (a0_1 != 0) = false := bne_eq_false_iff_eq.mpr c26
        clear c26
        have H' := Aside0.mk H
        clear H
        have hnb27 := NB225_220.out
        have hnc27 := NB220_225.out
        obtain ⟨hcz28_0, hcz28_1, hcz28_2, hfz28_0, hfz28_1, hfz28_2⟩ := zq3 (w := w22) BK225
        obtain ⟨hcz29_0, hcz29_1, hcz29_2, hcz29_3, hcz29_4, hfz29_0, hfz29_1, hfz29_2, hfz29_3, hfz29_4⟩ := zq5 (w := w22) BK220
        go_wp2
        repeat (go_quiet (fail); try go_wp2)
        go_meet
        case rel => exact ⟨_, (true), zf, H', ⟨by have := HJ1.out; first | omega | exact Nat.le_refl _⟩, ⟨by refine blk_far ?_ NB220_225.out _; refine blk_far ?_ NB220_225.out _; refine blk_far ?_ NB220_225.out _; exact BK220.out⟩, ⟨by refine blk_put (cs := #[.int .i32 t222, .int .i64 t223, .int .i64 0]) ?_ 2 _ rfl; refine blk_put (cs := #[.int .i32 t222, .int .i64 0, .int .i64 0]) ?_ 1 _ rfl; refine blk_put (cs := #[.int .i32 0, .int .i64 0, .int .i64 0]) ?_ 0 _ rfl; exact BK225.out⟩, ⟨zb⟩⟩
       ·rw [if_neg c26] at H
        have c26b0 : (a0_1 == 0) = false := beq_eq_false_iff_ne.mpr c26
        have c26b1 : (a0_1 != 0) = true := bne_iff_ne.mpr c26
        replace H := Option.bind_eq_some_iff.mp H
        obtain ⟨t226, A300, H⟩ := H
        replace H : (backseatref04_Right.j1 kj1 (t226 != a0_1) a0_0 a0_1 a0_2 a0_3 a0_4 t222 t223 t224) = some r := H
        have A30 := Aside0.mk A300
        clear A300
        have H' := Aside0.mk H
        clear H
        have hnb31 := NB225_220.out
        have hnc31 := NB220_225.out
        obtain ⟨hcz32_0, hcz32_1, hcz32_2, hfz32_0, hfz32_1, hfz32_2⟩ := zq3 (w := w22) BK225
        obtain ⟨hcz33_0, hcz33_1, hcz33_2, hcz33_3, hcz33_4, hfz33_0, hfz33_1, hfz33_2, hfz33_3, hfz33_4⟩ := zq5 (w := w22) BK220
        go_wp2_with (first | (go_at_call 75; (with_reducible refine (backseatref01_Width.calls kj1 t222 t226 _ A30.out).mono ?_); rintro e w' ⟨rfl, ⟨nd, rfl⟩⟩; (try first | exact ⟨rfl, _, World.drewN_drewN _ _ _⟩ | exact ⟨rfl, _, Eq.trans (World.drewN_drewN _ _ _) (congrArg (World.drewN _) (Nat.add_assoc _ _ _))⟩)))
        repeat (go_quiet (first | (go_at_call 75; (with_reducible refine (backseatref01_Width.calls kj1 t222 t226 _ A30.out).mono ?_); rintro e w' ⟨rfl, ⟨nd, rfl⟩⟩; (try first | exact ⟨rfl, _, World.drewN_drewN _ _ _⟩ | exact ⟨rfl, _, Eq.trans (World.drewN_drewN _ _ _) (congrArg (World.drewN _) (Nat.add_assoc _ _ _))⟩))); try go_wp2_with (first | (go_at_call 75; (with_reducible refine (backseatref01_Width.calls kj1 t222 t226 _ A30.out).mono ?_); rintro e w' ⟨rfl, ⟨nd, rfl⟩⟩; (try first | exact ⟨rfl, _, World.drewN_drewN _ _ _⟩ | exact ⟨rfl, _, Eq.trans (World.drewN_drewN _ _ _) (congrArg (World.drewN _) (Nat.add_assoc _ _ _))⟩))))
        go_meet
        case rel => exact ⟨_, ((t226 != a0_1)), zf, H', ⟨by have := HJ1.out; first | omega | exact Nat.le_refl _⟩, ⟨by refine blk_far ?_ NB220_225.out _; refine blk_far ?_ NB220_225.out _; refine blk_far ?_ NB220_225.out _; exact BK220.out⟩, ⟨by refine blk_put (cs := #[.int .i32 t222, .int .i64 t223, .int .i64 0]) ?_ 2 _ rfl; refine blk_put (cs := #[.int .i32 t222, .int .i64 0, .int .i64 0]) ?_ 1 _ rfl; refine blk_put (cs := #[.int .i32 0, .int .i64 0, .int .i64 0]) ?_ 0 _ rfl; exact BK225.out⟩, ⟨zb⟩⟩
      ·rw [if_neg c25] at H
       have c25b0 : (t224 == 0) = false := beq_eq_false_iff_ne.mpr c25
       have c25b1 : (t224 != 0) = true := bne_iff_ne.mpr c25
       (first | rw [c25b0] | (simp only [i64_w, i32_w]; rw [c25b0]) | skip)
       have H' := Aside0.mk H
       clear H
       have hnb34 := NB225_220.out
       have hnc34 := NB220_225.out
       obtain ⟨hcz35_0, hcz35_1, hcz35_2, hfz35_0, hfz35_1, hfz35_2⟩ := zq3 (w := w22) BK225
       go_wp2
       repeat (go_quiet (fail); try go_wp2)
       go_meet
       case rel => exact ⟨_, (true), zf, H', ⟨by have := HJ1.out; first | omega | exact Nat.le_refl _⟩, ⟨by refine blk_far ?_ NB220_225.out _; refine blk_far ?_ NB220_225.out _; refine blk_far ?_ NB220_225.out _; exact BK220.out⟩, ⟨by refine blk_put (cs := #[.int .i32 t222, .int .i64 t223, .int .i64 0]) ?_ 2 _ rfl; refine blk_put (cs := #[.int .i32 t222, .int .i64 0, .int .i64 0]) ?_ 1 _ rfl; refine blk_put (cs := #[.int .i32 0, .int .i64 0, .int .i64 0]) ?_ 0 _ rfl; exact BK225.out⟩, ⟨zb⟩⟩
     case rest =>
      clear HC19
      try clear c15
      try clear c16
      try clear c16b0
      try clear c16b1
      try clear hcz20_0
      try clear hcz20_1
      try clear hcz20_2
      try clear hcz20_3
      try clear hcz20_4
      try clear hcz24_0
      try clear hcz24_1
      try clear hcz24_2
      try clear hfz20_0
      try clear hfz20_1
      try clear hfz20_2
      try clear hfz20_3
      try clear hfz20_4
      try clear hfz24_0
      try clear hfz24_1
      try clear hfz24_2
      obtain ⟨kq, x45_18, rfl, HA, HJ18, BK220, BK225, HB⟩ := hcut
      cases kq with
      | zero => exact absurd HA.out (by simp [backseatref04_Right.j1])
      | succ kj18 =>
       have H := HA.out
       clear HA
       simp only [backseatref04_Right.j1] at H
       by_cases c36 : x45_18 = true
       ·subst c36
        have H1 : (some false) = some r := by rw [if_pos rfl] at H; exact H
        clear H
        have H := H1
        clear H1
        obtain rfl := Option.some.inj H
        go_wp2
        repeat (go_quiet (fail); try go_wp2)
        go_ret
        exact ⟨ze, zb⟩
       ·replace c36 := Bool.eq_false_iff.mpr c36
        subst c36
        have H1 : (if 0 ≤ t223 then (if t223 ≤ (a0_0.size : Int) then (backseatref04_Right.l0 kj18 (a0_0.extract (t223 : Int).toNat a0_0.size) 0) else (none)) else (none)) = some r := by rw [if_neg (show ¬ (false = true) by decide)] at H; exact H
        clear H
        have H := H1
        clear H1
        by_cases c37 : 0 ≤ t223
        ·rw [if_pos c37] at H
         have c37b0 := eq_true c37
         have c37b1 : decide (0 ≤ t223) = true := decide_eq_true c37
         clear c37
         by_cases c38 : t223 ≤ (a0_0.size : Int)
         ·rw [if_pos c38] at H
          have c38b0 := eq_true c38
          have c38b1 : decide (t223 ≤ (a0_0.size : Int)) = true := decide_eq_true c38
          clear c38
          have H' := Aside0.mk H
          clear H
          have hnb39 := NB220_225.out
          have hnc39 := NB225_220.out
          obtain ⟨hcz40_0, hcz40_1, hcz40_2, hcz40_3, hcz40_4, hfz40_0, hfz40_1, hfz40_2, hfz40_3, hfz40_4⟩ := zq5 (w := wc) BK220
          obtain ⟨hcz41_0, hcz41_1, hcz41_2, hfz41_0, hfz41_1, hfz41_2⟩ := zq3 (w := wc) BK225
          go_wp2
          repeat (go_quiet (fail); try go_wp2)
          go_loopg [4, 5] kj18 (fun kq v4 v5 w' => ∃ (x4_3 : ByteArray) (x5_3 : Int), v4 = .string x4_3 ∧ v5 = .int .i64 x5_3 ∧ Aside0 (backseatref04_Right.l0 kq x4_3 x5_3 = some r) ∧ Aside0 (kq ≤ kj18) ∧ Aside0 (w'.heap[gb220]? = some (.cells #[.string a0_0, .int .i64 a0_1, .int .i64 a0_2, .int .i64 a0_3, .int .i64 a0_4] 60 (0, 0))) ∧ Aside0 (w'.heap[gb225]? = some (.cells #[.int .i32 t222, .int .i64 t223, .int .i64 t224] 106 (0, 0))) ∧ Aside0 (Below w.heap.size w w'))
          case atStart => exact ⟨(a0_0.extract (t223 : Int).toNat a0_0.size), (0), zf, zf, H', ⟨Nat.le_refl _⟩, ⟨by exact BK220.out⟩, ⟨by exact BK225.out⟩, ⟨zb⟩⟩
          case round =>
           clear H'
           try clear c15
           try clear c16
           try clear c16b0
           try clear c16b1
           try clear c36
           try clear c37
           try clear c37b0
           try clear c37b1
           try clear c38
           try clear c38b0
           try clear c38b1
           try clear hcz20_0
           try clear hcz20_1
           try clear hcz20_2
           try clear hcz20_3
           try clear hcz20_4
           try clear hcz24_0
           try clear hcz24_1
           try clear hcz24_2
           try clear hcz40_0
           try clear hcz40_1
           try clear hcz40_2
           try clear hcz40_3
           try clear hcz40_4
           try clear hcz41_0
           try clear hcz41_1
           try clear hcz41_2
           try clear hfz20_0
           try clear hfz20_1
           try clear hfz20_2
           try clear hfz20_3
           try clear hfz20_4
           try clear hfz24_0
           try clear hfz24_1
           try clear hfz24_2
           try clear hfz40_0
           try clear hfz40_1
           try clear hfz40_2
           try clear hfz40_3
           try clear hfz40_4
           try clear hfz41_0
           try clear hfz41_1
           try clear hfz41_2
           obtain ⟨x4_3, x5_3, rfl, rfl, HA, HK3, BK220, BK225, HB⟩ := hrel
           cases gk with
           | zero => exact absurd HA.out (by simp [backseatref04_Right.l0])
           | succ k3 =>
            have H := HA.out
            clear HA
            simp only [backseatref04_Right.l0] at H
            by_cases c42 : (x4_3.size : Int) > 0
            ·rw [if_pos c42] at H
             have c42b0 : decide (0 < (x4_3.size : Int)) = true := decide_eq_true c42
             have c42b1 : decide (0 < x4_3.size) = true := decide_eq_true (by omega)
             clear c42
             replace H := Option.bind_eq_some_iff.mp H
             obtain ⟨⟨t227, t228, t229⟩, A430, H⟩ := H
             replace H : (if t229 = 0 then ((backseatref01_Width.f k3 t227).bind fun t231 => (if t231 = 0 then (if 0 ≤ t228 then (if t228 ≤ (x4_3.size : Int) then (backseatref04_Right.l0 k3 (x4_3.extract (t228 : Int).toNat x4_3.size) (wrap64 (x5_3 + 1))) else (none)) else (none)) else (some false))) else (some false)) = some r := H
             have A43 := Aside0.mk A430
             clear A430
             by_cases c44 : t229 = 0
             ·rw [if_pos c44] at H
              have c44b0 : (t229 == 0) = true := beq_iff_eq.mpr c44
              have c44b1 : (t229 != 0) = false := bne_eq_false_iff_eq.mpr c44
              clear c44
              replace H := Option.bind_eq_some_iff.mp H
              obtain ⟨t231, A450, H⟩ := H
              replace H : (if t231 = 0 then (if 0 ≤ t228 then (if t228 ≤ (x4_3.size : Int) then (backseatref04_Right.l0 k3 (x4_3.extract (t228 : Int).toNat x4_3.size) (wrap64 (x5_3 + 1))) else (none)) else (none)) else (some false)) = some r := H
              have A45 := Aside0.mk A450
              clear A450
              by_cases c46 : t231 = 0
              ·rw [if_pos c46] at H
               have c46b0 : (t231 == 0) = true := beq_iff_eq.mpr c46
               have c46b1 : (t231 != 0) = false := bne_eq_false_iff_eq.mpr c46
               clear c46
               by_cases c47 : 0 ≤ t228
               ·rw [if_pos c47] at H
                have c47b0 := eq_true c47
                have c47b1 : decide (0 ≤ t228) = true := decide_eq_true c47
                clear c47
                by_cases c48 : t228 ≤ (x4_3.size : Int)
                ·rw [if_pos c48] at H
                 have c48b0 := eq_true c48
                 have c48b1 : decide (t228 ≤ (x4_3.size : Int)) = true := decide_eq_true c48
                 clear c48
                 have H' := Aside0.mk H
                 clear H
                 go_wp2_with (first | (go_at_call 74; (with_reducible refine (backseatref01_First.calls k3 x4_3 t227 t228 t229 _ A43.out).mono ?_); rintro e w49 ⟨rfl, hb⟩; replace BK220 := (zk BK220 hb); replace BK225 := (zk BK225 hb); replace HB := (zs HB hb); (try clear hb)) | ((with_reducible refine gate_dst (N := 6) rfl ?_); refine box_event ?hg (N := 6) ?hd (cs := #[.int .i32 0, .int .i64 0, .int .i64 0]) (t := 106) ?hr ?_; (case hd => rfl); (case hg => rfl); (case hr => exact zo); intro gb230 hg w50 hbox hb; have n0_ := (zk BK220 hb); have n1_ := (zk BK225 hb); have n2_ := (zs HB hb); have n3_ := Aside0.mk (hbox); have n4_ := Aside0.mk ((zg hg : w.heap.size ≤ gb230)); have n5_ := Aside0.mk ((zg hg : w.heap.size ≤ gb230)); have n6_ := Aside0.mk ((by rw [hg]; exact Nat.ne_of_lt (blk_lt (g := gb220) (o := .cells #[.string a0_0, .int .i64 a0_1, .int .i64 a0_2, .int .i64 a0_3, .int .i64 a0_4] 60 (0, 0)) (by exact BK220.out)) : gb220 ≠ gb230)); have n7_ := Aside0.mk ((by rw [hg]; exact Nat.ne_of_gt (blk_lt (g := gb220) (o := .cells #[.string a0_0, .int .i64 a0_1, .int .i64 a0_2, .int .i64 a0_3, .int .i64 a0_4] 60 (0, 0)) (by exact BK220.out)) : gb230 ≠ gb220)); have n8_ := Aside0.mk ((by rw [hg]; exact Nat.ne_of_lt (blk_lt (g := gb225) (o := .cells #[.int .i32 t222, .int .i64 t223, .int .i64 t224] 106 (0, 0)) (by exact BK225.out)) : gb225 ≠ gb230)); have n9_ := Aside0.mk ((by rw [hg]; exact Nat.ne_of_gt (blk_lt (g := gb225) (o := .cells #[.int .i32 t222, .int .i64 t223, .int .i64 t224] 106 (0, 0)) (by exact BK225.out)) : gb230 ≠ gb225)); clear BK220; clear BK225; clear HB; have BK220 := n0_; have BK225 := n1_; have HB := n2_; have BK230 := n3_; have GW230 := n4_; have GE230 := n5_; have NB220_230 := n6_; have NB230_220 := n7_; have NB225_230 := n8_; have NB230_225 := n9_; clear n0_ n1_ n2_ n3_ n4_ n5_ n6_ n7_ n8_ n9_; clear hb hbox hg; have hnb51 := NB230_220.out; have hnc51 := NB220_230.out; have hnb52 := NB230_225.out; have hnc52 := NB225_230.out; obtain ⟨hcz53_0, hcz53_1, hcz53_2, hfz53_0, hfz53_1, hfz53_2⟩ := zq3 (w := w50) BK230) | (go_at_call 75; (with_reducible refine (backseatref01_Width.calls k3 t227 t231 _ A45.out).mono ?_); rintro e w' ⟨rfl, ⟨nd, rfl⟩⟩; (try first | exact ⟨rfl, _, World.drewN_drewN _ _ _⟩ | exact ⟨rfl, _, Eq.trans (World.drewN_drewN _ _ _) (congrArg (World.drewN _) (Nat.add_assoc _ _ _))⟩)))
                 repeat (go_quiet (first | (go_at_call 74; (with_reducible refine (backseatref01_First.calls k3 x4_3 t227 t228 t229 _ A43.out).mono ?_); rintro e w49 ⟨rfl, hb⟩; replace BK220 := (zk BK220 hb); replace BK225 := (zk BK225 hb); replace HB := (zs HB hb); (try clear hb)) | ((with_reducible refine gate_dst (N := 6) rfl ?_); refine box_event ?hg (N := 6) ?hd (cs := #[.int .i32 0, .int .i64 0, .int .i64 0]) (t := 106) ?hr ?_; (case hd => rfl); (case hg => rfl); (case hr => exact zo); intro gb230 hg w50 hbox hb; have n0_ := (zk BK220 hb); have n1_ := (zk BK225 hb); have n2_ := (zs HB hb); have n3_ := Aside0.mk (hbox); have n4_ := Aside0.mk ((zg hg : w.heap.size ≤ gb230)); have n5_ := Aside0.mk ((zg hg : w.heap.size ≤ gb230)); have n6_ := Aside0.mk ((by rw [hg]; exact Nat.ne_of_lt (blk_lt (g := gb220) (o := .cells #[.string a0_0, .int .i64 a0_1, .int .i64 a0_2, .int .i64 a0_3, .int .i64 a0_4] 60 (0, 0)) (by exact BK220.out)) : gb220 ≠ gb230)); have n7_ := Aside0.mk ((by rw [hg]; exact Nat.ne_of_gt (blk_lt (g := gb220) (o := .cells #[.string a0_0, .int .i64 a0_1, .int .i64 a0_2, .int .i64 a0_3, .int .i64 a0_4] 60 (0, 0)) (by exact BK220.out)) : gb230 ≠ gb220)); have n8_ := Aside0.mk ((by rw [hg]; exact Nat.ne_of_lt (blk_lt (g := gb225) (o := .cells #[.int .i32 t222, .int .i64 t223, .int .i64 t224] 106 (0, 0)) (by exact BK225.out)) : gb225 ≠ gb230)); have n9_ := Aside0.mk ((by rw [hg]; exact Nat.ne_of_gt (blk_lt (g := gb225) (o := .cells #[.int .i32 t222, .int .i64 t223, .int .i64 t224] 106 (0, 0)) (by exact BK225.out)) : gb230 ≠ gb225)); clear BK220; clear BK225; clear HB; have BK220 := n0_; have BK225 := n1_; have HB := n2_; have BK230 := n3_; have GW230 := n4_; have GE230 := n5_; have NB220_230 := n6_; have NB230_220 := n7_; have NB225_230 := n8_; have NB230_225 := n9_; clear n0_ n1_ n2_ n3_ n4_ n5_ n6_ n7_ n8_ n9_; clear hb hbox hg; have hnb51 := NB230_220.out; have hnc51 := NB220_230.out; have hnb52 := NB230_225.out; have hnc52 := NB225_230.out; obtain ⟨hcz53_0, hcz53_1, hcz53_2, hfz53_0, hfz53_1, hfz53_2⟩ := zq3 (w := w50) BK230) | (go_at_call 75; (with_reducible refine (backseatref01_Width.calls k3 t227 t231 _ A45.out).mono ?_); rintro e w' ⟨rfl, ⟨nd, rfl⟩⟩; (try first | exact ⟨rfl, _, World.drewN_drewN _ _ _⟩ | exact ⟨rfl, _, Eq.trans (World.drewN_drewN _ _ _) (congrArg (World.drewN _) (Nat.add_assoc _ _ _))⟩))); try go_wp2_with (first | (go_at_call 74; (with_reducible refine (backseatref01_First.calls k3 x4_3 t227 t228 t229 _ A43.out).mono ?_); rintro e w49 ⟨rfl, hb⟩; replace BK220 := (zk BK220 hb); replace BK225 := (zk BK225 hb); replace HB := (zs HB hb); (try clear hb)) | ((with_reducible refine gate_dst (N := 6) rfl ?_); refine box_event ?hg (N := 6) ?hd (cs := #[.int .i32 0, .int .i64 0, .int .i64 0]) (t := 106) ?hr ?_; (case hd => rfl); (case hg => rfl); (case hr => exact zo); intro gb230 hg w50 hbox hb; have n0_ := (zk BK220 hb); have n1_ := (zk BK225 hb); have n2_ := (zs HB hb); have n3_ := Aside0.mk (hbox); have n4_ := Aside0.mk ((zg hg : w.heap.size ≤ gb230)); have n5_ := Aside0.mk ((zg hg : w.heap.size ≤ gb230)); have n6_ := Aside0.mk ((by rw [hg]; exact Nat.ne_of_lt (blk_lt (g := gb220) (o := .cells #[.string a0_0, .int .i64 a0_1, .int .i64 a0_2, .int .i64 a0_3, .int .i64 a0_4] 60 (0, 0)) (by exact BK220.out)) : gb220 ≠ gb230)); have n7_ := Aside0.mk ((by rw [hg]; exact Nat.ne_of_gt (blk_lt (g := gb220) (o := .cells #[.string a0_0, .int .i64 a0_1, .int .i64 a0_2, .int .i64 a0_3, .int .i64 a0_4] 60 (0, 0)) (by exact BK220.out)) : gb230 ≠ gb220)); have n8_ := Aside0.mk ((by rw [hg]; exact Nat.ne_of_lt (blk_lt (g := gb225) (o := .cells #[.int .i32 t222, .int .i64 t223, .int .i64 t224] 106 (0, 0)) (by exact BK225.out)) : gb225 ≠ gb230)); have n9_ := Aside0.mk ((by rw [hg]; exact Nat.ne_of_gt (blk_lt (g := gb225) (o := .cells #[.int .i32 t222, .int .i64 t223, .int .i64 t224] 106 (0, 0)) (by exact BK225.out)) : gb230 ≠ gb225)); clear BK220; clear BK225; clear HB; have BK220 := n0_; have BK225 := n1_; have HB := n2_; have BK230 := n3_; have GW230 := n4_; have GE230 := n5_; have NB220_230 := n6_; have NB230_220 := n7_; have NB225_230 := n8_; have NB230_225 := n9_; clear n0_ n1_ n2_ n3_ n4_ n5_ n6_ n7_ n8_ n9_; clear hb hbox hg; have hnb51 := NB230_220.out; have hnc51 := NB220_230.out; have hnb52 := NB230_225.out; have hnc52 := NB225_230.out; obtain ⟨hcz53_0, hcz53_1, hcz53_2, hfz53_0, hfz53_1, hfz53_2⟩ := zq3 (w := w50) BK230) | (go_at_call 75; (with_reducible refine (backseatref01_Width.calls k3 t227 t231 _ A45.out).mono ?_); rintro e w' ⟨rfl, ⟨nd, rfl⟩⟩; (try first | exact ⟨rfl, _, World.drewN_drewN _ _ _⟩ | exact ⟨rfl, _, Eq.trans (World.drewN_drewN _ _ _) (congrArg (World.drewN _) (Nat.add_assoc _ _ _))⟩))))
                 go_roundg k3
                 case measure => have := HJ1.out; have := HJ18.out; have := HK3.out; omega
                 case rel => exact ⟨(x4_3.extract (t228 : Int).toNat x4_3.size), (wrap64 (x5_3 + 1)), zf, zf, H', ⟨by have := HJ1.out; have := HJ18.out; have := HK3.out; omega⟩, ⟨by refine blk_far ?_ NB220_230.out _; refine blk_far ?_ NB220_230.out _; refine blk_far ?_ NB220_230.out _; exact BK220.out⟩, ⟨by refine blk_far ?_ NB225_230.out _; refine blk_far ?_ NB225_230.out _; refine blk_far ?_ NB225_230.out _; exact BK225.out⟩, ⟨zb⟩⟩
                ·rw [if_neg c48] at H
                 exact absurd H (by simp)
               ·rw [if_neg c47] at H
                exact absurd H (by simp)
              ·rw [if_neg c46] at H
               have c46b0 : (t231 == 0) = false := beq_eq_false_iff_ne.mpr c46
               have c46b1 : (t231 != 0) = true := bne_iff_ne.mpr c46
               obtain rfl := Option.some.inj H
               go_wp2_with (first | (go_at_call 74; (with_reducible refine (backseatref01_First.calls k3 x4_3 t227 t228 t229 _ A43.out).mono ?_); rintro e w54 ⟨rfl, hb⟩; replace BK220 := (zk BK220 hb); replace BK225 := (zk BK225 hb); replace HB := (zs HB hb); (try clear hb)) | ((with_reducible refine gate_dst (N := 6) rfl ?_); refine box_event ?hg (N := 6) ?hd (cs := #[.int .i32 0, .int .i64 0, .int .i64 0]) (t := 106) ?hr ?_; (case hd => rfl); (case hg => rfl); (case hr => exact zo); intro gb230 hg w55 hbox hb; have n0_ := (zk BK220 hb); have n1_ := (zk BK225 hb); have n2_ := (zs HB hb); have n3_ := Aside0.mk (hbox); have n4_ := Aside0.mk ((zg hg : w.heap.size ≤ gb230)); have n5_ := Aside0.mk ((zg hg : w.heap.size ≤ gb230)); have n6_ := Aside0.mk ((by rw [hg]; exact Nat.ne_of_lt (blk_lt (g := gb220) (o := .cells #[.string a0_0, .int .i64 a0_1, .int .i64 a0_2, .int .i64 a0_3, .int .i64 a0_4] 60 (0, 0)) (by exact BK220.out)) : gb220 ≠ gb230)); have n7_ := Aside0.mk ((by rw [hg]; exact Nat.ne_of_gt (blk_lt (g := gb220) (o := .cells #[.string a0_0, .int .i64 a0_1, .int .i64 a0_2, .int .i64 a0_3, .int .i64 a0_4] 60 (0, 0)) (by exact BK220.out)) : gb230 ≠ gb220)); have n8_ := Aside0.mk ((by rw [hg]; exact Nat.ne_of_lt (blk_lt (g := gb225) (o := .cells #[.int .i32 t222, .int .i64 t223, .int .i64 t224] 106 (0, 0)) (by exact BK225.out)) : gb225 ≠ gb230)); have n9_ := Aside0.mk ((by rw [hg]; exact Nat.ne_of_gt (blk_lt (g := gb225) (o := .cells #[.int .i32 t222, .int .i64 t223, .int .i64 t224] 106 (0, 0)) (by exact BK225.out)) : gb230 ≠ gb225)); clear BK220; clear BK225; clear HB; have BK220 := n0_; have BK225 := n1_; have HB := n2_; have BK230 := n3_; have GW230 := n4_; have GE230 := n5_; have NB220_230 := n6_; have NB230_220 := n7_; have NB225_230 := n8_; have NB230_225 := n9_; clear n0_ n1_ n2_ n3_ n4_ n5_ n6_ n7_ n8_ n9_; clear hb hbox hg; have hnb56 := NB230_220.out; have hnc56 := NB220_230.out; have hnb57 := NB230_225.out; have hnc57 := NB225_230.out; obtain ⟨hcz58_0, hcz58_1, hcz58_2, hfz58_0, hfz58_1, hfz58_2⟩ := zq3 (w := w55) BK230) | (go_at_call 75; (with_reducible refine (backseatref01_Width.calls k3 t227 t231 _ A45.out).mono ?_); rintro e w' ⟨rfl, ⟨nd, rfl⟩⟩; (try first | exact ⟨rfl, _, World.drewN_drewN _ _ _⟩ | exact ⟨rfl, _, Eq.trans (World.drewN_drewN _ _ _) (congrArg (World.drewN _) (Nat.add_assoc _ _ _))⟩)))
               repeat (go_quiet (first | (go_at_call 74; (with_reducible refine (backseatref01_First.calls k3 x4_3 t227 t228 t229 _ A43.out).mono ?_); rintro e w54 ⟨rfl, hb⟩; replace BK220 := (zk BK220 hb); replace BK225 := (zk BK225 hb); replace HB := (zs HB hb); (try clear hb)) | ((with_reducible refine gate_dst (N := 6) rfl ?_); refine box_event ?hg (N := 6) ?hd (cs := #[.int .i32 0, .int .i64 0, .int .i64 0]) (t := 106) ?hr ?_; (case hd => rfl); (case hg => rfl); (case hr => exact zo); intro gb230 hg w55 hbox hb; have n0_ := (zk BK220 hb); have n1_ := (zk BK225 hb); have n2_ := (zs HB hb); have n3_ := Aside0.mk (hbox); have n4_ := Aside0.mk ((zg hg : w.heap.size ≤ gb230)); have n5_ := Aside0.mk ((zg hg : w.heap.size ≤ gb230)); have n6_ := Aside0.mk ((by rw [hg]; exact Nat.ne_of_lt (blk_lt (g := gb220) (o := .cells #[.string a0_0, .int .i64 a0_1, .int .i64 a0_2, .int .i64 a0_3, .int .i64 a0_4] 60 (0, 0)) (by exact BK220.out)) : gb220 ≠ gb230)); have n7_ := Aside0.mk ((by rw [hg]; exact Nat.ne_of_gt (blk_lt (g := gb220) (o := .cells #[.string a0_0, .int .i64 a0_1, .int .i64 a0_2, .int .i64 a0_3, .int .i64 a0_4] 60 (0, 0)) (by exact BK220.out)) : gb230 ≠ gb220)); have n8_ := Aside0.mk ((by rw [hg]; exact Nat.ne_of_lt (blk_lt (g := gb225) (o := .cells #[.int .i32 t222, .int .i64 t223, .int .i64 t224] 106 (0, 0)) (by exact BK225.out)) : gb225 ≠ gb230)); have n9_ := Aside0.mk ((by rw [hg]; exact Nat.ne_of_gt (blk_lt (g := gb225) (o := .cells #[.int .i32 t222, .int .i64 t223, .int .i64 t224] 106 (0, 0)) (by exact BK225.out)) : gb230 ≠ gb225)); clear BK220; clear BK225; clear HB; have BK220 := n0_; have BK225 := n1_; have HB := n2_; have BK230 := n3_; have GW230 := n4_; have GE230 := n5_; have NB220_230 := n6_; have NB230_220 := n7_; have NB225_230 := n8_; have NB230_225 := n9_; clear n0_ n1_ n2_ n3_ n4_ n5_ n6_ n7_ n8_ n9_; clear hb hbox hg; have hnb56 := NB230_220.out; have hnc56 := NB220_230.out; have hnb57 := NB230_225.out; have hnc57 := NB225_230.out; obtain ⟨hcz58_0, hcz58_1, hcz58_2, hfz58_0, hfz58_1, hfz58_2⟩ := zq3 (w := w55) BK230) | (go_at_call 75; (with_reducible refine (backseatref01_Width.calls k3 t227 t231 _ A45.out).mono ?_); rintro e w' ⟨rfl, ⟨nd, rfl⟩⟩; (try first | exact ⟨rfl, _, World.drewN_drewN _ _ _⟩ | exact ⟨rfl, _, Eq.trans (World.drewN_drewN _ _ _) (congrArg (World.drewN _) (Nat.add_assoc _ _ _))⟩))); try go_wp2_with (first | (go_at_call 74; (with_reducible refine (backseatref01_First.calls k3 x4_3 t227 t228 t229 _ A43.out).mono ?_); rintro e w54 ⟨rfl, hb⟩; replace BK220 := (zk BK220 hb); replace BK225 := (zk BK225 hb); replace HB := (zs HB hb); (try clear hb)) | ((with_reducible refine gate_dst (N := 6) rfl ?_); refine box_event ?hg (N := 6) ?hd (cs := #[.int .i32 0, .int .i64 0, .int .i64 0]) (t := 106) ?hr ?_; (case hd => rfl); (case hg => rfl); (case hr => exact zo); intro gb230 hg w55 hbox hb; have n0_ := (zk BK220 hb); have n1_ := (zk BK225 hb); have n2_ := (zs HB hb); have n3_ := Aside0.mk (hbox); have n4_ := Aside0.mk ((zg hg : w.heap.size ≤ gb230)); have n5_ := Aside0.mk ((zg hg : w.heap.size ≤ gb230)); have n6_ := Aside0.mk ((by rw [hg]; exact Nat.ne_of_lt (blk_lt (g := gb220) (o := .cells #[.string a0_0, .int .i64 a0_1, .int .i64 a0_2, .int .i64 a0_3, .int .i64 a0_4] 60 (0, 0)) (by exact BK220.out)) : gb220 ≠ gb230)); have n7_ := Aside0.mk ((by rw [hg]; exact Nat.ne_of_gt (blk_lt (g := gb220) (o := .cells #[.string a0_0, .int .i64 a0_1, .int .i64 a0_2, .int .i64 a0_3, .int .i64 a0_4] 60 (0, 0)) (by exact BK220.out)) : gb230 ≠ gb220)); have n8_ := Aside0.mk ((by rw [hg]; exact Nat.ne_of_lt (blk_lt (g := gb225) (o := .cells #[.int .i32 t222, .int .i64 t223, .int .i64 t224] 106 (0, 0)) (by exact BK225.out)) : gb225 ≠ gb230)); have n9_ := Aside0.mk ((by rw [hg]; exact Nat.ne_of_gt (blk_lt (g := gb225) (o := .cells #[.int .i32 t222, .int .i64 t223, .int .i64 t224] 106 (0, 0)) (by exact BK225.out)) : gb230 ≠ gb225)); clear BK220; clear BK225; clear HB; have BK220 := n0_; have BK225 := n1_; have HB := n2_; have BK230 := n3_; have GW230 := n4_; have GE230 := n5_; have NB220_230 := n6_; have NB230_220 := n7_; have NB225_230 := n8_; have NB230_225 := n9_; clear n0_ n1_ n2_ n3_ n4_ n5_ n6_ n7_ n8_ n9_; clear hb hbox hg; have hnb56 := NB230_220.out; have hnc56 := NB220_230.out; have hnb57 := NB230_225.out; have hnc57 := NB225_230.out; obtain ⟨hcz58_0, hcz58_1, hcz58_2, hfz58_0, hfz58_1, hfz58_2⟩ := zq3 (w := w55) BK230) | (go_at_call 75; (with_reducible refine (backseatref01_Width.calls k3 t227 t231 _ A45.out).mono ?_); rintro e w' ⟨rfl, ⟨nd, rfl⟩⟩; (try first | exact ⟨rfl, _, World.drewN_drewN _ _ _⟩ | exact ⟨rfl, _, Eq.trans (World.drewN_drewN _ _ _) (congrArg (World.drewN _) (Nat.add_assoc _ _ _))⟩))))
               go_ret
               exact ⟨ze, zb⟩
             ·rw [if_neg c44] at H
              have c44b0 : (t229 == 0) = false := beq_eq_false_iff_ne.mpr c44
              have c44b1 : (t229 != 0) = true := bne_iff_ne.mpr c44
              obtain rfl := Option.some.inj H
              go_wp2_with (first | (go_at_call 74; (with_reducible refine (backseatref01_First.calls k3 x4_3 t227 t228 t229 _ A43.out).mono ?_); rintro e w59 ⟨rfl, hb⟩; replace BK220 := (zk BK220 hb); replace BK225 := (zk BK225 hb); replace HB := (zs HB hb); (try clear hb)) | ((with_reducible refine gate_dst (N := 6) rfl ?_); refine box_event ?hg (N := 6) ?hd (cs := #[.int .i32 0, .int .i64 0, .int .i64 0]) (t := 106) ?hr ?_; (case hd => rfl); (case hg => rfl); (case hr => exact zo); intro gb230 hg w60 hbox hb; have n0_ := (zk BK220 hb); have n1_ := (zk BK225 hb); have n2_ := (zs HB hb); have n3_ := Aside0.mk (hbox); have n4_ := Aside0.mk ((zg hg : w.heap.size ≤ gb230)); have n5_ := Aside0.mk ((zg hg : w.heap.size ≤ gb230)); have n6_ := Aside0.mk ((by rw [hg]; exact Nat.ne_of_lt (blk_lt (g := gb220) (o := .cells #[.string a0_0, .int .i64 a0_1, .int .i64 a0_2, .int .i64 a0_3, .int .i64 a0_4] 60 (0, 0)) (by exact BK220.out)) : gb220 ≠ gb230)); have n7_ := Aside0.mk ((by rw [hg]; exact Nat.ne_of_gt (blk_lt (g := gb220) (o := .cells #[.string a0_0, .int .i64 a0_1, .int .i64 a0_2, .int .i64 a0_3, .int .i64 a0_4] 60 (0, 0)) (by exact BK220.out)) : gb230 ≠ gb220)); have n8_ := Aside0.mk ((by rw [hg]; exact Nat.ne_of_lt (blk_lt (g := gb225) (o := .cells #[.int .i32 t222, .int .i64 t223, .int .i64 t224] 106 (0, 0)) (by exact BK225.out)) : gb225 ≠ gb230)); have n9_ := Aside0.mk ((by rw [hg]; exact Nat.ne_of_gt (blk_lt (g := gb225) (o := .cells #[.int .i32 t222, .int .i64 t223, .int .i64 t224] 106 (0, 0)) (by exact BK225.out)) : gb230 ≠ gb225)); clear BK220; clear BK225; clear HB; have BK220 := n0_; have BK225 := n1_; have HB := n2_; have BK230 := n3_; have GW230 := n4_; have GE230 := n5_; have NB220_230 := n6_; have NB230_220 := n7_; have NB225_230 := n8_; have NB230_225 := n9_; clear n0_ n1_ n2_ n3_ n4_ n5_ n6_ n7_ n8_ n9_; clear hb hbox hg; have hnb61 := NB230_220.out; have hnc61 := NB220_230.out; have hnb62 := NB230_225.out; have hnc62 := NB225_230.out; obtain ⟨hcz63_0, hcz63_1, hcz63_2, hfz63_0, hfz63_1, hfz63_2⟩ := zq3 (w := w60) BK230))
              repeat (go_quiet (first | (go_at_call 74; (with_reducible refine (backseatref01_First.calls k3 x4_3 t227 t228 t229 _ A43.out).mono ?_); rintro e w59 ⟨rfl, hb⟩; replace BK220 := (zk BK220 hb); replace BK225 := (zk BK225 hb); replace HB := (zs HB hb); (try clear hb)) | ((with_reducible refine gate_dst (N := 6) rfl ?_); refine box_event ?hg (N := 6) ?hd (cs := #[.int .i32 0, .int .i64 0, .int .i64 0]) (t := 106) ?hr ?_; (case hd => rfl); (case hg => rfl); (case hr => exact zo); intro gb230 hg w60 hbox hb; have n0_ := (zk BK220 hb); have n1_ := (zk BK225 hb); have n2_ := (zs HB hb); have n3_ := Aside0.mk (hbox); have n4_ := Aside0.mk ((zg hg : w.heap.size ≤ gb230)); have n5_ := Aside0.mk ((zg hg : w.heap.size ≤ gb230)); have n6_ := Aside0.mk ((by rw [hg]; exact Nat.ne_of_lt (blk_lt (g := gb220) (o := .cells #[.string a0_0, .int .i64 a0_1, .int .i64 a0_2, .int .i64 a0_3, .int .i64 a0_4] 60 (0, 0)) (by exact BK220.out)) : gb220 ≠ gb230)); have n7_ := Aside0.mk ((by rw [hg]; exact Nat.ne_of_gt (blk_lt (g := gb220) (o := .cells #[.string a0_0, .int .i64 a0_1, .int .i64 a0_2, .int .i64 a0_3, .int .i64 a0_4] 60 (0, 0)) (by exact BK220.out)) : gb230 ≠ gb220)); have n8_ := Aside0.mk ((by rw [hg]; exact Nat.ne_of_lt (blk_lt (g := gb225) (o := .cells #[.int .i32 t222, .int .i64 t223, .int .i64 t224] 106 (0, 0)) (by exact BK225.out)) : gb225 ≠ gb230)); have n9_ := Aside0.mk ((by rw [hg]; exact Nat.ne_of_gt (blk_lt (g := gb225) (o := .cells #[.int .i32 t222, .int .i64 t223, .int .i64 t224] 106 (0, 0)) (by exact BK225.out)) : gb230 ≠ gb225)); clear BK220; clear BK225; clear HB; have BK220 := n0_; have BK225 := n1_; have HB := n2_; have BK230 := n3_; have GW230 := n4_; have GE230 := n5_; have NB220_230 := n6_; have NB230_220 := n7_; have NB225_230 := n8_; have NB230_225 := n9_; clear n0_ n1_ n2_ n3_ n4_ n5_ n6_ n7_ n8_ n9_; clear hb hbox hg; have hnb61 := NB230_220.out; have hnc61 := NB220_230.out; have hnb62 := NB230_225.out; have hnc62 := NB225_230.out; obtain ⟨hcz63_0, hcz63_1, hcz63_2, hfz63_0, hfz63_1, hfz63_2⟩ := zq3 (w := w60) BK230)); try go_wp2_with (first | (go_at_call 74; (with_reducible refine (backseatref01_First.calls k3 x4_3 t227 t228 t229 _ A43.out).mono ?_); rintro e w59 ⟨rfl, hb⟩; replace BK220 := (zk BK220 hb); replace BK225 := (zk BK225 hb); replace HB := (zs HB hb); (try clear hb)) | ((with_reducible refine gate_dst (N := 6) rfl ?_); refine box_event ?hg (N := 6) ?hd (cs := #[.int .i32 0, .int .i64 0, .int .i64 0]) (t := 106) ?hr ?_; (case hd => rfl); (case hg => rfl); (case hr => exact zo); intro gb230 hg w60 hbox hb; have n0_ := (zk BK220 hb); have n1_ := (zk BK225 hb); have n2_ := (zs HB hb); have n3_ := Aside0.mk (hbox); have n4_ := Aside0.mk ((zg hg : w.heap.size ≤ gb230)); have n5_ := Aside0.mk ((zg hg : w.heap.size ≤ gb230)); have n6_ := Aside0.mk ((by rw [hg]; exact Nat.ne_of_lt (blk_lt (g := gb220) (o := .cells #[.string a0_0, .int .i64 a0_1, .int .i64 a0_2, .int .i64 a0_3, .int .i64 a0_4] 60 (0, 0)) (by exact BK220.out)) : gb220 ≠ gb230)); have n7_ := Aside0.mk ((by rw [hg]; exact Nat.ne_of_gt (blk_lt (g := gb220) (o := .cells #[.string a0_0, .int .i64 a0_1, .int .i64 a0_2, .int .i64 a0_3, .int .i64 a0_4] 60 (0, 0)) (by exact BK220.out)) : gb230 ≠ gb220)); have n8_ := Aside0.mk ((by rw [hg]; exact Nat.ne_of_lt (blk_lt (g := gb225) (o := .cells #[.int .i32 t222, .int .i64 t223, .int .i64 t224] 106 (0, 0)) (by exact BK225.out)) : gb225 ≠ gb230)); have n9_ := Aside0.mk ((by rw [hg]; exact Nat.ne_of_gt (blk_lt (g := gb225) (o := .cells #[.int .i32 t222, .int .i64 t223, .int .i64 t224] 106 (0, 0)) (by exact BK225.out)) : gb230 ≠ gb225)); clear BK220; clear BK225; clear HB; have BK220 := n0_; have BK225 := n1_; have HB := n2_; have BK230 := n3_; have GW230 := n4_; have GE230 := n5_; have NB220_230 := n6_; have NB230_220 := n7_; have NB225_230 := n8_; have NB230_225 := n9_; clear n0_ n1_ n2_ n3_ n4_ n5_ n6_ n7_ n8_ n9_; clear hb hbox hg; have hnb61 := NB230_220.out; have hnc61 := NB220_230.out; have hnb62 := NB230_225.out; have hnc62 := NB225_230.out; obtain ⟨hcz63_0, hcz63_1, hcz63_2, hfz63_0, hfz63_1, hfz63_2⟩ := zq3 (w := w60) BK230)))
              go_ret
              exact ⟨ze, zb⟩
            ·rw [if_neg c42] at H
             have c42b0 : decide (0 < (x4_3.size : Int)) = false := decide_eq_false c42
             have c42b1 : decide (0 < x4_3.size) = false := decide_eq_false (by omega)
             clear c42
             obtain rfl := Option.some.inj H
             go_wp2
             repeat (go_quiet (fail); try go_wp2)
             go_ret
             exact ⟨ze, zb⟩
         ·rw [if_neg c38] at H
          exact absurd H (by simp)
        ·rw [if_neg c37] at H
         exact absurd H (by simp)
end Go.Proofs.YtckkdaehmccjlaaDoor.P
namespace Go.Proofs.YtckkdaehmccjlaaDoor.P
open Go.RowKit Go.Proofs.YtckkdaehmccjlaaDoorW.PrintWords Go.Proofs.YtckkdaehmccjlaaDoorW.PrintLast Go.Proofs.YtckkdaehmccjlaaDoorW.PrintMore Go.Lib
set_option linter.unusedVariables false
set_option linter.unusedSimpArgs false
theorem toList_nil (s : ByteArray) : s.toList = ([] : List UInt8) ↔ s.size = 0 := by
 rw [ByteArray.toList_eq]
 constructor
 ·intro h; have := congrArg List.length h; rw [Array.length_toList] at this; exact this
 ·intro h; exact List.eq_nil_of_length_eq_zero (by rw [Array.length_toList]; exact h)
theorem cell_in_f (r lo hi : Int) : cell_in.f r lo hi = some (inB r lo hi) := by
 unfold cell_in.f inB
 by_cases h : lo ≤ r <;> simp [h]
theorem ref04_in_f (r lo hi : Int) : backseatref04_in.f r lo hi = some (inB r lo hi) := by
 unfold backseatref04_in.f inB
 by_cases h : lo ≤ r <;> simp [h]
def lookB (x y z : Int) : Bool := inB x 0 256 && (inB y 0 256 && inB z 0 255)
theorem look_f (x y z : Int) : cell_Look.f x y z = some (lookB x y z) := by
 unfold cell_Look.f lookB
 simp only [cell_in_f, Option.bind_some]
 cases inB x 0 256 <;> cases inB y 0 256 <;> simp
theorem ref_look_f (x y z : Int) : backseatref04_Look.f x y z = some (lookB x y z) := by
 unfold backseatref04_Look.f lookB
 simp only [ref04_in_f, Option.bind_some]
 cases inB x 0 256 <;> cases inB y 0 256 <;> simp
theorem inB_iff {r lo hi : Int} : inB r lo hi = true ↔ lo ≤ r ∧ r ≤ hi := by unfold inB; simp
theorem rest_size (s : ByteArray) (n : Nat) (h : n ≤ s.size) : (s.extract n s.size).size = s.size - n := by simp [ByteArray.size_extract]
theorem go_size {s : ByteArray} (h : okD s) : 1 ≤ (decodeGo s).2 ∧ (decodeGo s).2 ≤ s.size := by
 have h0 : s.size ≠ 0 := fun e => empty_not s e h
 exact ⟨by rw [dec_go s h0]; exact decodeN_ge1 _ _ _ _ _, decodeGo_le_size s⟩
def marksI (c : Nat) : Option Nat → Int
 | some m => ((c + m : Nat) : Int)
 | none => -1
def marksB (c : Nat) : Option Nat → Bool
 | some m => decide (((c + m : Nat) : Int) ≤ 2)
 | none => false
theorem marks_same : ∀ (n : Nat) (s : ByteArray) (c : Nat), s.size = n → ((c + n : Nat) : Int) ≤ 9223372036854775806 → ∃ o, Ev (fun k => cell_marks.l0 k s (c : Int)) (marksI c o) ∧ Ev (fun k => backseatref04_Right.l0 k s (c : Int)) (marksB c o) := by
 intro n
 induction n using Nat.strongRecOn with
 | _ n ih =>
  intro s c hn hc
  by_cases h0 : s.size = 0
  ·refine ⟨some 0, Ev.succ ?_, Ev.succ ?_⟩
   ·simp only [cell_marks.l0]
    exact Ev.pos ((toList_nil s).2 h0) (Ev.ret _)
   ·simp only [backseatref04_Right.l0]
    exact Ev.neg (by omega) (Ev.ret _)
  ·obtain ⟨r, hr, hF⟩ := utf_first s (by omega)
   obtain ⟨r', hr', hF'⟩ := ref_first s (by omega)
   have hne : ¬ s.toList = ([] : List UInt8) := fun e => h0 ((toList_nil s).1 e)
   rcases hF with ⟨ok, rfl⟩ | ⟨no, hz⟩
   ·rcases hF' with ⟨_, rfl⟩ | ⟨no, _⟩
    rotate_left
    ·exact absurd ok no
    have hg := go_size ok
    by_cases hw : widthP (decodeGo s).1 = 0
    ·obtain ⟨o, h1, h2⟩ := ih (s.size - (decodeGo s).2) (by omega) (s.extract (decodeGo s).2 s.size) (c + 1) (rest_size s _ hg.2) (by omega)
     have hwr := w64 c (by omega)
     refine ⟨o.map (· + 1), Ev.succ ?_, Ev.succ ?_⟩
     ·simp only [cell_marks.l0]
      refine Ev.neg hne (Ev.bind hr (Ev.pos rfl (Ev.bind (Ev.of (utf_width _)) (Ev.pos hw (Ev.pos (by simp only; omega) (Ev.pos (by simp only; omega) ?_))))))
      rw [hwr]
      have e : marksI c (o.map (· + 1)) = marksI (c + 1) o := by cases o with
       | none => rfl
       | some m => simp only [marksI, Option.map_some]; omega
      rw [e]; exact h1
     ·simp only [backseatref04_Right.l0]
      refine Ev.pos (by omega) (Ev.bind hr' (Ev.pos rfl (Ev.bind (ref_width_ev _) (Ev.pos hw (Ev.pos (by simp only; omega) (Ev.pos (by simp only; omega) ?_))))))
      rw [hwr]
      have e : marksB c (o.map (· + 1)) = marksB (c + 1) o := by cases o with
       | none => rfl
       | some m => simp only [marksB, Option.map_some]; rw [show c + (m + 1) = c + 1 + m by omega]
      rw [e]; exact h2
    ·refine ⟨none, Ev.succ ?_, Ev.succ ?_⟩
     ·simp only [cell_marks.l0]
      exact Ev.neg hne (Ev.bind hr (Ev.pos rfl (Ev.bind (Ev.of (utf_width _)) (Ev.neg hw (Ev.ret _)))))
     ·simp only [backseatref04_Right.l0]
      exact Ev.pos (by omega) (Ev.bind hr' (Ev.pos rfl (Ev.bind (ref_width_ev _) (Ev.neg hw (Ev.ret _)))))
   ·rcases hF' with ⟨ok, rfl⟩ | ⟨_, hz'⟩
    ·exact absurd ok no
    refine ⟨none, Ev.succ ?_, Ev.succ ?_⟩
    ·simp only [cell_marks.l0]
     exact Ev.neg hne (Ev.bind hr (Ev.neg hz (Ev.ret _)))
    ·simp only [backseatref04_Right.l0]
     exact Ev.pos (by omega) (Ev.bind hr' (Ev.neg hz' (Ev.ret _)))
theorem right_same (s : ByteArray) (wd x y z : Int) (hs : (s.size : Int) ≤ 9223372036854775806) : ∃ b, Ev (fun k => cell_Right.f k s wd x y z) b ∧ Ev (fun k => backseatref04_Right.f k s wd x y z) b := by
 have ref0 : Ev (fun k => backseatref04_Right.j0 k true s wd x y z) false := Ev.succ (by simp only [backseatref04_Right.j0]; exact Ev.pos trivial (Ev.ret _))
 have ref1 : ∀ a b c, Ev (fun k => backseatref04_Right.j1 k true s wd x y z a b c) false := fun a b c => Ev.succ (by simp only [backseatref04_Right.j1]; exact Ev.pos trivial (Ev.ret _))
 have prg0 : ∀ n, Ev (fun k => cell_Right.j0 k n true s wd x y z) false := fun n => Ev.succ (by simp only [cell_Right.j0]; exact Ev.pos trivial (Ev.ret _))
 have refNo : (lookB x y z = false ∨ wd < 0 ∨ 2 < wd) → Ev (fun k => backseatref04_Right.f k s wd x y z) false := fun h => by
  unfold backseatref04_Right.f
  refine Ev.bind (Ev.of (ref_look_f x y z)) ?_
  by_cases hl : lookB x y z = true
  ·refine Ev.pos hl ?_
   by_cases h1 : wd < 0
   ·exact Ev.pos h1 ref0
   ·refine Ev.neg h1 ?_
    rw [decide_eq_true (by rcases h with h | h | h <;> first | (rw [h] at hl; cases hl) | omega)]
    exact ref0
  ·exact Ev.neg hl ref0
 have refYes : ∀ b, lookB x y z = true → ¬ wd < 0 → ¬ 2 < wd → Ev (fun k => if s.toList = ([] : List UInt8) then (some (decide (wd < 2))) else ((backseatref01_First.f k s).bind fun bt222 => (if bt222.2.2 = 0 then (if wd = 0 then (backseatref04_Right.j1 k true s wd x y z bt222.1 bt222.2.1 bt222.2.2) else ((backseatref01_Width.f k bt222.1).bind fun t226 => (backseatref04_Right.j1 k (t226 != wd) s wd x y z bt222.1 bt222.2.1 bt222.2.2))) else (backseatref04_Right.j1 k true s wd x y z bt222.1 bt222.2.1 bt222.2.2)))) b → Ev (fun k => backseatref04_Right.f k s wd x y z) b := fun b hl h1 h2 hb => by
  unfold backseatref04_Right.f
  refine Ev.bind (Ev.of (ref_look_f x y z)) (Ev.pos hl (Ev.neg h1 ?_))
  rw [decide_eq_false h2]
  refine Ev.succ ?_
  simp only [backseatref04_Right.j0]
  exact Ev.neg (by decide) hb
 by_cases h0 : s.size = 0
 ·have hE := (toList_nil s).2 h0
  have hp : Ev (fun k => cell_Right.f k s wd x y z) (lookB x y z && inB wd 0 1) := by
   unfold cell_Right.f
   refine Ev.pos hE (Ev.bind (Ev.of (look_f x y z)) ?_)
   cases hl : lookB x y z
   ·exact Ev.neg (by decide) (Ev.ret _)
   ·exact Ev.pos rfl (Ev.bind (Ev.of (cell_in_f _ _ _)) (Ev.ret _))
  refine ⟨_, hp, ?_⟩
  by_cases hl : lookB x y z = true
  ·by_cases h1 : wd < 0
   ·have e : (lookB x y z && inB wd 0 1) = false := by rw [hl]; unfold inB; simp; omega
    rw [e]; exact refNo (Or.inr (Or.inl h1))
   ·by_cases h2 : 2 < wd
    ·have e : (lookB x y z && inB wd 0 1) = false := by rw [hl]; unfold inB; simp; omega
     rw [e]; exact refNo (Or.inr (Or.inr h2))
    ·have e : (lookB x y z && inB wd 0 1) = decide (wd < 2) := by rw [hl]; unfold inB; rw [Bool.true_and, decide_eq_true (by omega), Bool.true_and, decide_eq_decide]; omega
     rw [e]; exact refYes _ hl h1 h2 (Ev.pos hE (Ev.ret _))
  ·have e : (lookB x y z && inB wd 0 1) = false := by rw [Bool.eq_false_iff.2 hl, Bool.false_and]
   rw [e]; exact refNo (Or.inl (Bool.eq_false_iff.2 hl))
 ·have hne : ¬ s.toList = ([] : List UInt8) := fun e => h0 ((toList_nil s).1 e)
  obtain ⟨r, hr, hF⟩ := utf_first s (by omega)
  obtain ⟨r', hr', hF'⟩ := ref_first s (by omega)
  rcases hF with ⟨ok, rfl⟩ | ⟨no, hz⟩
  ·rcases hF' with ⟨_, rfl⟩ | ⟨no, _⟩
   rotate_left
   ·exact absurd ok no
   have hg := go_size ok
   have prgNo : (¬ (1 ≤ wd ∧ wd ≤ 2) ∨ widthP (decodeGo s).1 ≠ wd ∨ lookB x y z = false) → Ev (fun k => cell_Right.f k s wd x y z) false := fun h => by
    unfold cell_Right.f
    refine Ev.neg hne (Ev.bind hr (Ev.pos rfl (Ev.bind (Ev.of (cell_in_f _ _ _)) ?_)))
    by_cases hw : inB wd 1 2 = true
    ·refine Ev.pos hw (Ev.bind (Ev.of (utf_width _)) ?_)
     by_cases hq : widthP (decodeGo s).1 = wd
     ·have hl : lookB x y z = false := by
       rcases h with h | h | h
       ·exact absurd (inB_iff.1 hw) h
       ·exact absurd hq h
       ·exact h
      simp only [hq, bne_self_eq_false]
      refine Ev.succ ?_
      simp only [cell_Right.j0]
      refine Ev.neg (by decide) (Ev.bind (Ev.of (look_f x y z)) ?_)
      rw [hl]; exact Ev.neg (by decide) (Ev.ret _)
     ·have : (widthP (decodeGo s).1 != wd) = true := bne_iff_ne.2 hq
      simp only [this]; exact prg0 _
    ·exact Ev.neg hw (prg0 _)
   by_cases hl : lookB x y z = true
   ·by_cases hw : (1 ≤ wd ∧ wd ≤ 2) ∧ widthP (decodeGo s).1 = wd
    ·obtain ⟨o, m1, m2⟩ := marks_same _ (s.extract (decodeGo s).2 s.size) 0 rfl (by rw [rest_size s _ hg.2]; omega)
     have hbne : (widthP (decodeGo s).1 != wd) = false := by rw [hw.2]; exact bne_self_eq_false _
     refine ⟨marksB 0 o, ?_, ?_⟩
     ·unfold cell_Right.f
      refine Ev.neg hne (Ev.bind hr (Ev.pos rfl (Ev.bind (Ev.of (cell_in_f _ _ _)) (Ev.pos (inB_iff.2 hw.1) (Ev.bind (Ev.of (utf_width _)) ?_)))))
      simp only [hbne]
      refine Ev.succ ?_
      simp only [cell_Right.j0]
      refine Ev.neg (by decide) (Ev.bind (Ev.of (look_f x y z)) (Ev.pos hl (Ev.pos (by omega) (Ev.pos (by omega) ?_))))
      rw [Int.toNat_natCast]
      refine Ev.bind (v := marksI 0 o) ?_ (Ev.bind (Ev.of (cell_in_f _ _ _)) (Ev.of ?_))
      ·unfold cell_marks.f; exact m1
      ·cases o with
       | none => rfl
       | some m => simp only [marksI, marksB, inB]; congr 1
     ·refine refYes _ hl (by omega) (by omega) (Ev.neg hne (Ev.bind hr' (Ev.pos rfl (Ev.neg (by omega) (Ev.bind (ref_width_ev _) ?_)))))
      simp only [hbne]
      refine Ev.succ ?_
      simp only [backseatref04_Right.j1]
      refine Ev.neg (by decide) (Ev.pos (by omega) (Ev.pos (by omega) ?_))
      rw [Int.toNat_natCast]
      exact m2
    ·refine ⟨false, prgNo ((Classical.em (1 ≤ wd ∧ wd ≤ 2)).elim (fun h => Or.inr (Or.inl fun e => hw ⟨h, e⟩)) Or.inl), ?_⟩
     by_cases h1 : wd < 0
     ·exact refNo (Or.inr (Or.inl h1))
     by_cases h2 : 2 < wd
     ·exact refNo (Or.inr (Or.inr h2))
     refine refYes _ hl h1 h2 (Ev.neg hne (Ev.bind hr' (Ev.pos rfl ?_)))
     by_cases h3 : wd = 0
     ·exact Ev.pos h3 (ref1 _ _ _)
     ·refine Ev.neg h3 (Ev.bind (ref_width_ev _) ?_)
      have : (widthP (decodeGo s).1 != wd) = true := bne_iff_ne.2 (fun e => hw ⟨by omega, e⟩)
      simp only [this]; exact ref1 _ _ _
   ·exact ⟨false, prgNo (Or.inr (Or.inr (Bool.eq_false_iff.2 hl))), refNo (Or.inl (Bool.eq_false_iff.2 hl))⟩
  ·rcases hF' with ⟨ok, rfl⟩ | ⟨_, hz'⟩
   ·exact absurd ok no
   refine ⟨false, ?_, ?_⟩
   ·unfold cell_Right.f
    exact Ev.neg hne (Ev.bind hr (Ev.neg hz (prg0 _)))
   ·by_cases hl : lookB x y z = true
    ·by_cases h1 : wd < 0
     ·exact refNo (Or.inr (Or.inl h1))
     by_cases h2 : 2 < wd
     ·exact refNo (Or.inr (Or.inr h2))
     exact refYes _ hl h1 h2 (Ev.neg hne (Ev.bind hr' (Ev.neg hz' (ref1 _ _ _))))
    ·exact refNo (Or.inl (Bool.eq_false_iff.2 hl))
end Go.Proofs.YtckkdaehmccjlaaDoor.P
namespace Go.Proofs.YtckkdaehmccjlaaDoor.P
open Go.RowKit Go.Proofs.YtckkdaehmccjlaaDoorW.PrintWords Go.Proofs.YtckkdaehmccjlaaDoorW.PrintLast Go.Proofs.YtckkdaehmccjlaaDoorW.PrintMore
attribute [local go_sem] max2_int min2_int max_two min_two max_three min_three max_four min_four   -- for this text's walks alone
set_option linter.unusedVariables false
set_option linter.unusedSimpArgs false
def backseatref06_half.f (l0 : List (S60)) (a1 : Int) : Option (Bool) := if 0 ≤ a1 then (if a1 < (l0.length : Int) then (if ((rd_T60 l0 a1).f1) = 2 then (if (wrap64 (a1 + 1)) = (l0.length : Int) then (some true) else (if 0 ≤ (wrap64 (a1 + 1)) then (if (wrap64 (a1 + 1)) < (l0.length : Int) then (some (((rd_T60 l0 (wrap64 (a1 + 1))).f1) != 0)) else (none)) else (none))) else (if ((rd_T60 l0 a1).f1) = 0 then (if a1 = 0 then (some true) else (if 0 ≤ (wrap64 (a1 - 1)) then (if (wrap64 (a1 - 1)) < (l0.length : Int) then (some (((rd_T60 l0 (wrap64 (a1 - 1))).f1) != 2)) else (none)) else (none))) else (some false))) else (none)) else (none)
set_option maxHeartbeats 8000000 in
set_option maxRecDepth 100000 in
theorem backseatref06_half.calls (A0 : Option Addr) (c0 : Nat) (l0 : List (S60)) (a1 : Int) (r : Bool) (w : World) (hr0 : Kd.C k60 w A0 l0.length l0) (hc0 : l0.length ≤ c0) (h : backseatref06_half.f l0 a1 = some r) :
  Calls Tryd.prog 54 #[.slice A0 l0.length c0, .int .i64 a1] w fun e w' => e = .returned (.bool r) ∧ Drawn0 w w' := by
 have HR0 := Aside0.mk hr0
 have HC0 := Aside0.mk hc0
 clear hr0 hc0
 have H : (if 0 ≤ a1 then (if a1 < (l0.length : Int) then (if ((rd_T60 l0 a1).f1) = 2 then (if (wrap64 (a1 + 1)) = (l0.length : Int) then (some true) else (if 0 ≤ (wrap64 (a1 + 1)) then (if (wrap64 (a1 + 1)) < (l0.length : Int) then (some (((rd_T60 l0 (wrap64 (a1 + 1))).f1) != 0)) else (none)) else (none))) else (if ((rd_T60 l0 a1).f1) = 0 then (if a1 = 0 then (some true) else (if 0 ≤ (wrap64 (a1 - 1)) then (if (wrap64 (a1 - 1)) < (l0.length : Int) then (some (((rd_T60 l0 (wrap64 (a1 - 1))).f1) != 2)) else (none)) else (none))) else (some false))) else (none)) else (none)) = some r := h
 clear h
 by_cases c3 : 0 ≤ a1
 ·rw [if_pos c3] at H
  have c3b0 : decide (0 ≤ a1) = true := decide_eq_true c3
  clear c3
  by_cases c4 : a1 < (l0.length : Int)
  ·rw [if_pos c4] at H
   have c4b0 : decide (a1 < (l0.length : Int)) = true := decide_eq_true c4
   clear c4
   by_cases c5 : ((rd_T60 l0 a1).f1) = 2
   ·rw [if_pos c5] at H
    have c5b0 : (((rd_T60 l0 a1).f1) == 2) = true := beq_iff_eq.mpr c5
    have c5b1 : (((rd_T60 l0 a1).f1) != 2) = false := bne_eq_false_iff_eq.mpr c5
    clear c5
    by_cases c6 : (wrap64 (a1 + 1)) = (l0.length : Int)
    ·rw [if_pos c6] at H
     have c6b0 : ((wrap64 (a1 + 1)) == (l0.length : Int)) = true := beq_iff_eq.mpr c6
     have c6b1 : ((wrap64 (a1 + 1)) != (l0.length : Int)) = false := bne_eq_false_iff_eq.mpr c6
     clear c6
     obtain rfl := Option.some.inj H
     have p232 : 0 ≤ (a1 : Int) := of_decide_eq_true za
     have q232 : a1 < (l0.length : Int) := of_decide_eq_true za
     obtain ⟨ad232, e232, hx232_0, hx232_1, hx232_2, hx232_3, hx232_4⟩ := at_T60 HR0.out a1 p232 q232
     cases e232
     replace p232 := eq_true p232
     replace q232 := eq_true q232
     go_enter Tryd.func54, Tryd.ntmps54
     go_wp2
     go_ret
     exact ⟨by first | rfl | (simp; done) | (simp [*]; done), by repeat (first | exact Drawn0.refl _ | apply Drawn0.step)⟩
    ·rw [if_neg c6] at H
     have c6b0 : ((wrap64 (a1 + 1)) == (l0.length : Int)) = false := beq_eq_false_iff_ne.mpr c6
     have c6b1 : ((wrap64 (a1 + 1)) != (l0.length : Int)) = true := bne_iff_ne.mpr c6
     obtain ⟨ji7, hji7⟩ : ∃ j_ : Int, (wrap64 (a1 + 1)) = j_ := ⟨_, rfl⟩
     replace H : (if 0 ≤ (ji7) then (if (ji7) < (l0.length : Int) then (some (((rd_T60 l0 (ji7)).f1) != 0)) else (none)) else (none)) = some r := by first | (rw [hji7] at H; exact H) | (simp only [hji7] at H ⊢; exact H)
     (try rw [hji7] at c6b0)
     (try rw [hji7] at c6b1)
     have hji7w : (IntKind.i64.wrap (a1 + 1)) = ji7 := (i64_w _).trans hji7
     by_cases c8 : 0 ≤ (ji7)
     ·rw [if_pos c8] at H
      have c8b0 : decide (0 ≤ (ji7)) = true := decide_eq_true c8
      clear c8
      by_cases c9 : (ji7) < (l0.length : Int)
      ·rw [if_pos c9] at H
       have c9b0 : decide ((ji7) < (l0.length : Int)) = true := decide_eq_true c9
       clear c9
       obtain rfl := Option.some.inj H
       have p232 : 0 ≤ (a1 : Int) := of_decide_eq_true za
       have q232 : a1 < (l0.length : Int) := of_decide_eq_true za
       obtain ⟨ad232, e232, hx232_0, hx232_1, hx232_2, hx232_3, hx232_4⟩ := at_T60 HR0.out a1 p232 q232
       cases e232
       replace p232 := eq_true p232
       replace q232 := eq_true q232
       have p233 : 0 ≤ ((ji7) : Int) := of_decide_eq_true za
       have q233 : (ji7) < (l0.length : Int) := of_decide_eq_true za
       obtain ⟨ad233, e233, hx233_0, hx233_1, hx233_2, hx233_3, hx233_4⟩ := at_T60 HR0.out (ji7) p233 q233
       obtain rfl : ad232 = ad233 := (by injection e233)
       replace p233 := eq_true p233
       replace q233 := eq_true q233
       go_enter Tryd.func54, Tryd.ntmps54
       go_wp2
       go_ret
       exact ⟨by first | rfl | (simp; done) | (simp only [← hji7] <;> (first | rfl | (simp; done))) | (simp [*]; done) | (simp; simp only [decide_eq_true_eq, eq_iff_iff, iff_true] at *; omega), by repeat (first | exact Drawn0.refl _ | apply Drawn0.step)⟩
      ·rw [if_neg c9] at H
       exact absurd H (by simp)
     ·rw [if_neg c8] at H
      exact absurd H (by simp)
   ·rw [if_neg c5] at H
    have c5b0 : (((rd_T60 l0 a1).f1) == 2) = false := beq_eq_false_iff_ne.mpr c5
    have c5b1 : (((rd_T60 l0 a1).f1) != 2) = true := bne_iff_ne.mpr c5
    by_cases c10 : ((rd_T60 l0 a1).f1) = 0
    ·rw [if_pos c10] at H
     have c10b0 : (((rd_T60 l0 a1).f1) == 0) = true := beq_iff_eq.mpr c10
     have c10b1 : (((rd_T60 l0 a1).f1) != 0) = false := bne_eq_false_iff_eq.mpr c10
     clear c10
     by_cases c11 : a1 = 0
     ·rw [if_pos c11] at H
      have c11b0 : (a1 == 0) = true := beq_iff_eq.mpr c11
      have c11b1 : (a1 != 0) = false := bne_eq_false_iff_eq.mpr c11
      clear c11
      obtain rfl := Option.some.inj H
      have p232 : 0 ≤ (a1 : Int) := of_decide_eq_true za
      have q232 : a1 < (l0.length : Int) := of_decide_eq_true za
      obtain ⟨ad232, e232, hx232_0, hx232_1, hx232_2, hx232_3, hx232_4⟩ := at_T60 HR0.out a1 p232 q232
      cases e232
      replace p232 := eq_true p232
      replace q232 := eq_true q232
      have p234 : 0 ≤ (a1 : Int) := of_decide_eq_true za
      have q234 : a1 < (l0.length : Int) := of_decide_eq_true za
      obtain ⟨ad234, e234, hx234_0, hx234_1, hx234_2, hx234_3, hx234_4⟩ := at_T60 HR0.out a1 p234 q234
      obtain rfl : ad232 = ad234 := (by injection e234)
      replace p234 := eq_true p234
      replace q234 := eq_true q234
      go_enter Tryd.func54, Tryd.ntmps54
      go_wp2
      go_ret
      exact ⟨by first | rfl | (simp; done) | (simp [*]; done), by repeat (first | exact Drawn0.refl _ | apply Drawn0.step)⟩
     ·rw [if_neg c11] at H
      have c11b0 : (a1 == 0) = false := beq_eq_false_iff_ne.mpr c11
      have c11b1 : (a1 != 0) = true := bne_iff_ne.mpr c11
      obtain ⟨ji12, hji12⟩ : ∃ j_ : Int, (wrap64 (a1 - 1)) = j_ := ⟨_, rfl⟩
      replace H : (if 0 ≤ (ji12) then (if (ji12) < (l0.length : Int) then (some (((rd_T60 l0 (ji12)).f1) != 2)) else (none)) else (none)) = some r := by first | (rw [hji12] at H; exact H) | (simp only [hji12] at H ⊢; exact H)
      have hji12w : (IntKind.i64.wrap (a1 - 1)) = ji12 := (i64_w _).trans hji12
      by_cases c13 : 0 ≤ (ji12)
      ·rw [if_pos c13] at H
       have c13b0 : decide (0 ≤ (ji12)) = true := decide_eq_true c13
       clear c13
       by_cases c14 : (ji12) < (l0.length : Int)
       ·rw [if_pos c14] at H
        have c14b0 : decide ((ji12) < (l0.length : Int)) = true := decide_eq_true c14
        clear c14
        obtain rfl := Option.some.inj H
        have p232 : 0 ≤ (a1 : Int) := of_decide_eq_true za
        have q232 : a1 < (l0.length : Int) := of_decide_eq_true za
        obtain ⟨ad232, e232, hx232_0, hx232_1, hx232_2, hx232_3, hx232_4⟩ := at_T60 HR0.out a1 p232 q232
        cases e232
        replace p232 := eq_true p232
        replace q232 := eq_true q232
        have p234 : 0 ≤ (a1 : Int) := of_decide_eq_true za
        have q234 : a1 < (l0.length : Int) := of_decide_eq_true za
        obtain ⟨ad234, e234, hx234_0, hx234_1, hx234_2, hx234_3, hx234_4⟩ := at_T60 HR0.out a1 p234 q234
        obtain rfl : ad232 = ad234 := (by injection e234)
        replace p234 := eq_true p234
        replace q234 := eq_true q234
        have p235 : 0 ≤ ((ji12) : Int) := of_decide_eq_true za
        have q235 : (ji12) < (l0.length : Int) := of_decide_eq_true za
        obtain ⟨ad235, e235, hx235_0, hx235_1, hx235_2, hx235_3, hx235_4⟩ := at_T60 HR0.out (ji12) p235 q235
        obtain rfl : ad232 = ad235 := (by injection e235)
        replace p235 := eq_true p235
        replace q235 := eq_true q235
        go_enter Tryd.func54, Tryd.ntmps54
        go_wp2
        go_ret
        exact ⟨by first | rfl | (simp; done) | (simp only [← hji12] <;> (first | rfl | (simp; done))) | (simp [*]; done) | (simp; simp only [decide_eq_true_eq, eq_iff_iff, iff_true] at *; omega), by repeat (first | exact Drawn0.refl _ | apply Drawn0.step)⟩
       ·rw [if_neg c14] at H
        exact absurd H (by simp)
      ·rw [if_neg c13] at H
       exact absurd H (by simp)
    ·rw [if_neg c10] at H
     have c10b0 : (((rd_T60 l0 a1).f1) == 0) = false := beq_eq_false_iff_ne.mpr c10
     have c10b1 : (((rd_T60 l0 a1).f1) != 0) = true := bne_iff_ne.mpr c10
     obtain rfl := Option.some.inj H
     have p232 : 0 ≤ (a1 : Int) := of_decide_eq_true za
     have q232 : a1 < (l0.length : Int) := of_decide_eq_true za
     obtain ⟨ad232, e232, hx232_0, hx232_1, hx232_2, hx232_3, hx232_4⟩ := at_T60 HR0.out a1 p232 q232
     cases e232
     replace p232 := eq_true p232
     replace q232 := eq_true q232
     have p234 : 0 ≤ (a1 : Int) := of_decide_eq_true za
     have q234 : a1 < (l0.length : Int) := of_decide_eq_true za
     obtain ⟨ad234, e234, hx234_0, hx234_1, hx234_2, hx234_3, hx234_4⟩ := at_T60 HR0.out a1 p234 q234
     obtain rfl : ad232 = ad234 := (by injection e234)
     replace p234 := eq_true p234
     replace q234 := eq_true q234
     go_enter Tryd.func54, Tryd.ntmps54
     go_wp2
     go_ret
     exact ⟨by first | rfl | (simp; done) | (simp [*]; done), by repeat (first | exact Drawn0.refl _ | apply Drawn0.step)⟩
  ·rw [if_neg c4] at H
   exact absurd H (by simp)
 ·rw [if_neg c3] at H
  exact absurd H (by simp)
end Go.Proofs.YtckkdaehmccjlaaDoor.P
