/- Texts of this session put together by a program, part 3: PJoin, PFew, PFind, PAlive, PureFindBack, FindBackRow. -/
import Derived.Test.YtckkdaehmccjlaaDoorFBm2
import Derived.KernelRfl
import Derived.Test.YtckkdaehmccjlaaDoorRows
import Derived.Test.YtckkdaehmccjlaaDoorCards
import Derived.Test.YtckkdaehmccjlaaDoorTie
import Derived.WalkKit
import Derived.ProofKit
import Derived.ChangeOld
import Derived.Below
import Derived.PinnedBridge
import Derived.Lay
import Derived.LaidOnce
import Derived.Lib.LaidU8
import Derived.SevenTiedAt
namespace Go.Proofs.YtckkdaehmccjlaaDoor.P
open Go.RowKit Go.Proofs.YtckkdaehmccjlaaDoorW.PrintWords Go.Proofs.YtckkdaehmccjlaaDoorW.PrintLast Go.Proofs.YtckkdaehmccjlaaDoorW.PrintMore Go.Lib
set_option linter.unusedVariables false
set_option linter.unusedSimpArgs false
def EvP {α : Type} (f : Nat → Option α) (P : α → Prop) : Prop := ∃ v, P v ∧ Ev f v
section
variable {α β : Type} {f g : Nat → Option α} {P : α → Prop}
theorem EvP.ite {c : Prop} [Decidable c] (hf : c → EvP f P) (hg : ¬ c → EvP g P) : EvP (fun k => if c then f k else g k) P := by
 by_cases h : c
 ·obtain ⟨v, a, b⟩ := hf h; exact ⟨v, a, Ev.pos h b⟩
 ·obtain ⟨v, a, b⟩ := hg h; exact ⟨v, a, Ev.neg h b⟩
theorem EvP.succ (h : EvP (fun k => f (k + 1)) P) : EvP f P := let ⟨v, a, b⟩ := h; ⟨v, a, Ev.succ b⟩
theorem EvP.ret {v : α} (h : P v) : EvP (fun _ => some v) P := ⟨v, h, Ev.ret v⟩
theorem EvP.bind {e : Nat → Option β} {Q : β → Prop} {g : Nat → β → Option α} (h : EvP e Q) (hg : ∀ v, Q v → EvP (fun k => g k v) P) : EvP (fun k => (e k).bind (g k)) P := by
 obtain ⟨v, a, b⟩ := h
 obtain ⟨u, c, d⟩ := hg v a
 exact ⟨u, c, Ev.bind b d⟩
end
theorem none_some : ∃ v, flow_none.f = some v := ⟨_, rfl⟩
theorem trimmed_ev (n : Nat) : ∀ (l : List CellT), l.length = n → (n : Int) ≤ 1000000000000 → EvP (fun k => flow_trimmed.l0 k l) (fun _ => True) := by
 induction n with
 | zero => exact fun l h _ => EvP.succ (by simp only [flow_trimmed.l0]; exact EvP.ite (fun h' => by omega) (fun _ => EvP.ret trivial))
 | succ n ih0 =>
  intro l h hn
  have hw := w64m l.length (by omega) (by omega)
  have ih := ih0 (l.take n) (by rw [List.length_take]; omega) (by omega)
  obtain ⟨nv, hnv⟩ := none_some
  refine EvP.succ ?_
  simp only [flow_trimmed.l0, hw, hnv, Option.bind_some]
  refine EvP.ite (fun _ => EvP.ite (fun _ => EvP.ite (fun _ => ?_) (fun h' => by omega)) (fun h' => by omega)) (fun _ => EvP.ret trivial)
  refine EvP.ite (fun _ => EvP.ite (fun _ => ?_) (fun h' => by omega)) (fun _ => EvP.ret trivial)
  rw [Int.toNat_natCast, show l.length - 1 = n by omega]
  exact ih
theorem join_loop (l : List LineT) (hl : l.length ≤ 1000) (hx : ∀ x ∈ l, x.f0.length ≤ 1000) : ∀ m i (acc : List (List CellT)) (cur : List CellT), i + m = l.length → acc.length ≤ i → cur.length ≤ 1000 * i →
  EvP (fun k => flow_Join.l0 k l acc cur l (l.length : Int) (i : Nat)) (fun v => v.2 = 0)
 | 0, i, acc, cur, hi, ha, hc => EvP.succ (by simp only [flow_Join.l0]; exact EvP.ite (fun h' => by omega) (fun _ => EvP.ret rfl))
 | m + 1, i, acc, cur, hi, ha, hc => by
  have hlt : i < l.length := by omega
  have hw := w64 i (by omega)
  have hrow := hx _ (List.getElem_mem hlt)
  have htr : EvP (fun k => flow_trimmed.f k (cur ++ l[i].f0)) (fun _ => True) := by
   unfold flow_trimmed.f
   exact trimmed_ev _ _ rfl (by rw [List.length_append]; omega)
  refine EvP.succ ?_
  simp only [flow_Join.l0]
  rw [rd_line hlt, hw]
  refine EvP.ite (fun _ => EvP.ite (fun _ => EvP.ite (fun _ => EvP.ite (fun _ => ?_) (fun h' => by omega)) (fun h' => by omega)) (fun h' => by omega)) (fun h' => by omega)
  refine EvP.bind (e := fun _ => some (cur ++ l[i].f0)) (Q := fun v => v = cur ++ l[i].f0) ⟨_, rfl, Ev.ret _⟩ (fun v hv => ?_)
  subst hv
  have hput : EvP (fun k => (flow_trimmed.f k (cur ++ l[i].f0)).bind fun t => if acc.length < 5864062014805 then flow_Join.l0 k l (acc ++ [t]) ([] : List CellT) l (l.length : Int) ((i + 1 : Nat) : Int) else none) (fun v => v.2 = 0) :=
   EvP.bind htr fun t _ => EvP.ite (fun _ => join_loop l hl hx m (i + 1) _ _ (by omega) (by rw [List.length_append]; simp; omega) (by simp)) (fun h' => by omega)
  exact EvP.ite (fun _ => EvP.ite (fun _ => hput) (fun _ => join_loop l hl hx m (i + 1) acc _ (by omega) (by omega) (by rw [List.length_append]; omega))) (fun _ => hput)
theorem findmay_ev (l : List LineT) (hs : SmallL l) (hl : l.length ≤ 1000) (hx : ∀ x ∈ l, x.f0.length ≤ 1000) : Ev (fun k => find_may.f k l) (!l.any oddB && decide (l.length ≤ 200)) := by
 unfold find_may.f flow_Join.f
 have hm := may_ev l hs
 cases hb : (!l.any oddB && decide (l.length ≤ 200))
 ·rw [hb] at hm
  exact Ev.bind (v := (([] : List (List CellT)), (1 : Int))) (Ev.bind hm (Ev.neg (by decide) (Ev.ret _))) (Ev.ret _)
 ·rw [hb] at hm
  obtain ⟨⟨v, e⟩, h0, hv⟩ := join_loop l hl hx l.length 0 [] [] (by omega) (by simp) (by simp)
  simp only at h0
  subst h0
  exact Ev.bind (v := (v, (0 : Int))) (Ev.bind hm (Ev.pos rfl hv)) (Ev.ret _)
def TinyC (l : List CellT) : Prop := ∀ c ∈ l, c.f0.size ≤ 20
def Tiny (l : List LineT) : Prop := ∀ x ∈ l, x.f0.length ≤ 82 ∧ TinyC x.f0
theorem mn_facts (a : Nat) (b : Int) (hb : 0 ≤ b := by decide) : 0 ≤ mn (a : Int) b ∧ mn (a : Int) b ≤ (a : Int) ∧ mn (a : Int) b ≤ b := by
 unfold mn; split <;> omega
theorem ext_le (s : ByteArray) (i : Int) (h : i ≤ 20) : (s.extract 0 i.toNat).size ≤ 20 := by
 simp [ByteArray.size_extract]; omega
theorem few1 {P : List LineT → Prop} (out : List LineT) (y : List LineT) (n i : Int) (cells : List CellT) (soft : Bool) (hout : out.length ≤ 1000) (hcl : cells.length ≤ 82)
  (hnext : ∀ acc : List CellT, acc.length ≤ 82 → TinyC acc → EvP (fun k => backseatlaw10_few.l0 k (out ++ [⟨acc, soft⟩]) y n (wrap64 (i + 1))) P) (m : Nat) : ∀ (j : Nat) (acc : List CellT), j + m = cells.length → acc.length ≤ j → TinyC acc →
  EvP (fun k => backseatlaw10_few.l1 k out y n i cells (cells.length : Int) (j : Nat) acc soft) P := by
 induction m with
 | zero =>
  intro j acc hj ha ht
  refine EvP.succ ?_
  simp only [backseatlaw10_few.l1]
  exact EvP.ite (fun h' => by omega) (fun _ => EvP.ite (fun _ => hnext acc (by omega) ht) (fun h' => by omega))
 | succ m ih =>
  intro j acc hj ha ht
  have hw := w64 j (by omega)
  obtain ⟨m1, m2, m3⟩ := mn_facts (rd_T60 cells (j : Nat)).f0.size 20
  refine EvP.succ ?_
  simp only [backseatlaw10_few.l1, hw]
  refine EvP.ite (fun _ => EvP.ite (fun _ => EvP.ite (fun _ => EvP.ite (fun _ => EvP.ite (fun _ => EvP.ite (fun _ => ?_) (fun h' => by omega)) (fun h' => h' m2 |>.elim)) (fun h' => h' m1 |>.elim)) (fun h' => by omega)) (fun h' => by omega)) (fun h' => by omega)
  refine ih (j + 1) _ (by omega) (by rw [List.length_append]; simp; omega) ?_
  intro c hc
  rcases List.mem_append.1 hc with hc | hc
  ·exact ht c hc
  ·rw [List.mem_singleton.1 hc]; exact ext_le _ _ m3
theorem few0 (y : List LineT) (hy : y.length ≤ 30) (m : Nat) : ∀ (i : Nat) (out : List LineT), i + m = y.length → out.length ≤ i → Tiny out →
  EvP (fun k => backseatlaw10_few.l0 k out y (y.length : Int) (i : Nat)) (fun L => L.length ≤ 30 ∧ Tiny L) := by
 induction m with
 | zero =>
  intro i out hi ho ht
  refine EvP.succ ?_
  simp only [backseatlaw10_few.l0]
  exact EvP.ite (fun h' => by omega) (fun _ => EvP.ret ⟨by omega, ht⟩)
 | succ m ih =>
  intro i out hi ho ht
  have hw := w64 i (by omega)
  obtain ⟨m1, m2, m3⟩ := mn_facts (rd_T38 y (i : Nat)).f0.length 82
  refine EvP.succ ?_
  simp only [backseatlaw10_few.l0]
  refine EvP.ite (fun _ => EvP.ite (fun _ => EvP.ite (fun _ => EvP.ite (fun _ => EvP.ite (fun _ => ?_) (fun h' => h' m2 |>.elim)) (fun h' => h' m1 |>.elim)) (fun h' => by omega)) (fun h' => by omega)) (fun h' => by omega)
  refine EvP.bind (e := fun _ => some _) (Q := fun v => v = (rd_T38 y (i : Nat)).f0.take (mn ((rd_T38 y (i : Nat)).f0.length : Int) 82).toNat) ⟨_, rfl, Ev.ret _⟩ (fun v hv => ?_)
  have hvl : v.length ≤ 82 := by rw [hv, List.length_take]; omega
  exact few1 out y _ _ v _ (by omega) hvl (fun acc ha hta => by
   rw [hw]
   refine ih (i + 1) _ (by omega) (by rw [List.length_append]; simp; omega) ?_
   intro x hx
   rcases List.mem_append.1 hx with hx | hx
   ·exact ht x hx
   ·rw [List.mem_singleton.1 hx]; exact ⟨ha, hta⟩) v.length 0 [] (by omega) (by simp) (fun c hc => by cases hc)
theorem few_ev (l : List LineT) (hl : (l.length : Int) ≤ 9223372036854775807) : EvP (fun k => backseatlaw10_few.f k l) (fun L => L.length ≤ 30 ∧ Tiny L) := by
 obtain ⟨m1, m2, m3⟩ := mn_facts l.length 30
 unfold backseatlaw10_few.f
 refine EvP.ite (fun _ => EvP.ite (fun _ => ?_) (fun h' => h' m2 |>.elim)) (fun h' => h' m1 |>.elim)
 refine EvP.bind (e := fun _ => some _) (Q := fun v => v = l.take (mn (l.length : Int) 30).toNat) ⟨_, rfl, Ev.ret _⟩ (fun v hv => ?_)
 exact few0 v (by rw [hv, List.length_take]; omega) v.length 0 [] (by omega) (by simp) (fun x hx => by cases hx)
theorem tiny_small {l : List LineT} (h : l.length ≤ 30) (ht : Tiny l) : SmallL l := by
 refine ⟨by omega, fun x hx => ⟨by have := (ht x hx).1; omega, fun c hc => by have := (ht x hx).2 c hc; omega⟩⟩
theorem sayL_len : ∀ (l : List CellT), TinyC l → (sayL l).length ≤ 21 * l.length
 | [], _ => by simp [sayL]
 | c :: t, h => by
  have h1 := h c (by simp)
  have h2 := sayL_len t (fun x hx => h x (by simp [hx]))
  have h3 : (sayC c).length ≤ 21 := by
   unfold sayC
   have h4 : (if c.f0.toList = ([] : List UInt8) then if c.f1 = 1 then ([32] : List UInt8) else [] else []).length ≤ 1 := by
    split <;> (try split) <;> simp
   rw [List.length_append, ← size_list]
   omega
  simp only [sayL, List.length_append, List.length_cons]; omega
theorem tiny_ok {l : List LineT} (ht : Tiny l) : okL l = true := by
 unfold okL
 rw [List.all_eq_true]
 intro x hx
 have h1 := sayL_len x.f0 (ht x hx).2
 have h2 := (ht x hx).1
 exact decide_eq_true (by omega)
theorem right_wide {s : ByteArray} {wd x y z : Int} (h : Ev (fun k => backseatref04_Right.f k s wd x y z) true) : 0 ≤ wd := by
 by_cases h1 : wd < 0
 ·have : Ev (fun k => backseatref04_Right.f k s wd x y z) false := by
   have ref0 : Ev (fun k => backseatref04_Right.j0 k true s wd x y z) false := Ev.succ (by simp only [backseatref04_Right.j0]; exact Ev.pos trivial (Ev.ret _))
   unfold backseatref04_Right.f
   refine Ev.bind (Ev.of (ref_look_f x y z)) ?_
   by_cases hl : lookB x y z = true
   ·exact Ev.pos hl (Ev.pos h1 ref0)
   ·exact Ev.neg hl ref0
  exact absurd (Ev.same h this) (by decide)
 ·omega
theorem fits_wide (l : List CellT) (b0 : Bool) (n : Int) (hs : SmallC l) : ∀ m i, i + m = l.length → Ev (fun k => backseatref06_Fits.l0 k n l (l.length : Int) (i : Nat) l b0) true → ∀ j, i ≤ j → j < l.length → 0 ≤ (rd_T60 l (j : Nat)).f1
 | 0, i, hi, _, j, h1, h2 => by omega
 | m + 1, i, hi, h, j, h1, h2 => by
  have hlt : i < l.length := by omega
  have hw := w64 i (by have := hs.1; omega)
  obtain ⟨b, _, hb2⟩ := fits_loop l b0 n hs m (i + 1) (by omega)
  obtain ⟨c, _, hc2⟩ := right_same (rd_T60 l i).f0 (rd_T60 l i).f1 (rd_T60 l i).f2.f0 (rd_T60 l i).f2.f1 (rd_T60 l i).f2.f2 (hs.2 _ (rd_mem hlt))
  obtain ⟨d, _, hd2⟩ := whole_half l i hlt hs.1
  cases c with
  | false =>
   have : Ev (fun k => backseatref06_Fits.l0 k n l (l.length : Int) (i : Nat) l b0) false := Ev.succ (by
    simp only [backseatref06_Fits.l0]; exact Ev.pos (by omega) (Ev.pos (by omega) (Ev.pos (by omega) (Ev.bind hc2 (Ev.neg (by decide) (Ev.ret _))))))
   exact absurd (Ev.same h this) (by decide)
  | true =>
   cases d with
   | false =>
    have : Ev (fun k => backseatref06_Fits.l0 k n l (l.length : Int) (i : Nat) l b0) false := Ev.succ (by
     simp only [backseatref06_Fits.l0]; exact Ev.pos (by omega) (Ev.pos (by omega) (Ev.pos (by omega) (Ev.bind hc2 (Ev.pos rfl (Ev.bind (Ev.of hd2) (Ev.pos rfl (Ev.ret _))))))))
    exact absurd (Ev.same h this) (by decide)
   | true =>
    have : Ev (fun k => backseatref06_Fits.l0 k n l (l.length : Int) (i : Nat) l b0) b := Ev.succ (by
     simp only [backseatref06_Fits.l0]; refine Ev.pos (by omega) (Ev.pos (by omega) (Ev.pos (by omega) (Ev.bind hc2 (Ev.pos rfl (Ev.bind (Ev.of hd2) (Ev.neg (by decide) ?_)))))); rw [hw]; exact hb2)
    have e := Ev.same h this
    subst e
    by_cases hj : j = i
    ·subst hj; exact right_wide hc2
    ·exact fits_wide l b0 n hs m (i + 1) (by omega) hb2 j (by omega) h2
theorem find_ok {l : List LineT} (h : l.length ≤ 30) (ht : Tiny l) (hm : (!l.any oddB && decide (l.length ≤ 200)) = true) : FindOK l := by
 have hs := tiny_small h ht
 refine ⟨by omega, fun x hx => by have := (ht x hx).1; omega, tiny_ok ht, fun p h1 h2 => ?_⟩
 rw [wideAt_eq h2, rd_line h1]
 have hodd : oddB l[p.1] = false := by
  rw [Bool.and_eq_true, Bool.not_eq_true', List.any_eq_false] at hm
  exact Bool.eq_false_iff.2 (hm.1 _ (List.getElem_mem h1))
 obtain ⟨_, ho, _⟩ := odd_ev l[p.1] (hs.2 _ (List.getElem_mem h1))
 have hf := (ho hodd).2.2
 unfold backseatref06_Fits.f at hf
 exact fits_wide _ _ _ (hs.2 _ (List.getElem_mem h1)) l[p.1].f0.length 0 (by omega) hf p.2 (Nat.zero_le _) (by rw [lenAt_eq h1] at h2; exact h2)
end Go.Proofs.YtckkdaehmccjlaaDoor.P
namespace Go.Proofs.YtckkdaehmccjlaaDoor.P
open Go.RowKit Go.Proofs.YtckkdaehmccjlaaDoorW.PrintWords Go.Proofs.YtckkdaehmccjlaaDoorW.PrintLast Go.Proofs.YtckkdaehmccjlaaDoorW.PrintMore
set_option linter.unusedVariables false
set_option linter.unusedSimpArgs false
def thereB (l : List LineT) (a b : Int) : Bool := if a ≥ 0 then if a < (l.length : Int) then if b ≥ 0 then decide (b < ((rd_T38 l a).f0.length : Int)) else false else false else false
theorem find_there_f (l : List LineT) (a b : Int) : find_there.f l a b = some (thereB l a b) := by
 unfold find_there.f thereB
 by_cases h1 : a ≥ 0
 ·have h1' : 0 ≤ a := h1
  by_cases h2 : a < (l.length : Int)
  ·by_cases h3 : b ≥ 0
   ·simp only [if_pos h1, if_pos h2, if_pos h3, if_pos h1']
   ·simp only [if_pos h1, if_pos h2, if_neg h3]
  ·simp only [if_pos h1, if_neg h2]
 ·simp only [if_neg h1]
theorem ref_there_f (l : List LineT) (a b : Int) : backseatref10_There.f l a b = some (thereB l a b) := (show backseatref10_There.f l a b = find_there.f l a b from rfl).trans (find_there_f l a b)
noncomputable def mayB (L : List LineT) : Bool := !L.any oddB && decide (L.length ≤ 200)
noncomputable def goodB (L : List LineT) (s : ByteArray) (a b : Int) : Bool := mayB L && thereB L a b && decide (s.toList ≠ ([] : List UInt8)) && decide ((s.size : Int) ≤ 64)
noncomputable def findA (L : List LineT) (s : ByteArray) (a b : Int) (back : Bool) : Int × Int × Int :=
 if goodB L s a b = true then (if (foundR L s a b back).1 < 0 then (0, 0, 5) else ((foundR L s a b back).1, (foundR L s a b back).2, 0)) else (0, 0, 1)
theorem find_ev {L : List LineT} (hL : L.length ≤ 30) (hT : Tiny L) (s : ByteArray) (a b : Int) (back : Bool) : Ev (fun k => find_Find.f k L s a b back) (findA L s a b back) := by
 have hM := findmay_ev L (tiny_small hL hT) (by omega) (fun x hx => by have := (hT x hx).1; omega)
 unfold findA
 cases hb : mayB L
 ·rw [if_neg (by unfold goodB; rw [hb]; simp)]
  unfold mayB at hb
  rw [hb] at hM
  unfold find_Find.f; exact Ev.bind hM (Ev.neg (by decide) (Ev.ret _))
 ·have hg : goodB L s a b = (thereB L a b && decide (s.toList ≠ ([] : List UInt8)) && decide ((s.size : Int) ≤ 64)) := by unfold goodB; rw [hb]; rfl
  rw [hg]
  have hok := find_ok hL hT hb
  unfold mayB at hb
  rw [hb] at hM
  have ht1 := find_there_f L a b
  cases ht : thereB L a b
  ·rw [ht] at ht1
   rw [if_neg (by simp)]
   unfold find_Find.f; exact Ev.bind hM (Ev.pos rfl (Ev.bind (Ev.of ht1) (Ev.neg (by decide) (Ev.ret _))))
  ·rw [ht] at ht1
   by_cases he : s.toList = ([] : List UInt8)
   ·rw [if_neg (by simp [he])]
    unfold find_Find.f; exact Ev.bind hM (Ev.pos rfl (Ev.bind (Ev.of ht1) (Ev.pos rfl (Ev.pos he (Ev.ret _)))))
   ·by_cases hz : (s.size : Int) ≤ 64
    ·rw [if_pos (by simp [he, hz])]
     unfold find_Find.f
     refine Ev.bind hM (Ev.pos rfl (Ev.bind (Ev.of ht1) (Ev.pos rfl (Ev.neg he (Ev.pos hz (Ev.pos hok.say (Ev.of ?_)))))))
     exact seek_is s hok a b back
    ·rw [if_neg (by simp [hz])]
     unfold find_Find.f; exact Ev.bind hM (Ev.pos rfl (Ev.bind (Ev.of ht1) (Ev.pos rfl (Ev.neg he (Ev.neg hz (Ev.ret _))))))
theorem goodB_parts {L : List LineT} {s : ByteArray} {a b : Int} (h : goodB L s a b = true) : mayB L = true ∧ thereB L a b = true ∧ s.toList ≠ ([] : List UInt8) ∧ (s.size : Int) ≤ 64 := by
 unfold goodB at h
 simp only [Bool.and_eq_true, decide_eq_true_eq] at h
 exact ⟨h.1.1.1, h.1.1.2, h.1.2, h.2⟩
theorem goodB_mk {L : List LineT} {s : ByteArray} {a b : Int} (h1 : mayB L = true) (h2 : thereB L a b = true) (h3 : s.toList ≠ ([] : List UInt8)) (h4 : (s.size : Int) ≤ 64) : goodB L s a b = true := by
 unfold goodB
 simp only [Bool.and_eq_true, decide_eq_true_eq]
 exact ⟨⟨⟨h1, h2⟩, h3⟩, h4⟩
def ltP (p q : Nat × Nat) : Prop := p.1 < q.1 ∨ (p.1 = q.1 ∧ p.2 < q.2)
theorem restP_sorted (l : List LineT) : ∀ n r, (restP l r n).Pairwise ltP ∧ ∀ q ∈ restP l r n, r ≤ q.1
 | 0, r => by unfold restP; simp
 | n + 1, r => by
  have e : restP l r (n + 1) = ((List.range' 0 (lenAt l r)).map fun c => (r, c)) ++ restP l (r + 1) n := by
   unfold restP; rw [List.range'_succ, List.flatMap_cons]
  obtain ⟨h1, h2⟩ := restP_sorted l n (r + 1)
  rw [e]
  refine ⟨List.pairwise_append.2 ⟨?_, h1, ?_⟩, ?_⟩
  ·rw [List.pairwise_map]
   exact (List.pairwise_lt_range' (s := 0) (n := lenAt l r)).imp (fun h => Or.inr ⟨rfl, h⟩)
  ·intro a ha b hb
   obtain ⟨c, _, rfl⟩ := List.mem_map.1 ha
   have := h2 b hb
   exact Or.inl (by show r < b.1; omega)
  ·intro q hq
   rcases List.mem_append.1 hq with hq | hq
   ·obtain ⟨c, _, rfl⟩ := List.mem_map.1 hq; exact Nat.le_refl _
   ·have := h2 q hq; omega
theorem plc_sorted (l : List LineT) : (plc l false).Pairwise ltP := by rw [plc_false]; exact (restP_sorted l _ _).1
theorem plc_sorted_back (l : List LineT) : (plc l true).Pairwise (fun p q => ltP q p) := by rw [plc_true]; exact List.pairwise_reverse.2 (plc_sorted l)
theorem first_is {α : Type} {R : α → α → Prop} {f : α → Bool} : ∀ {l : List α} {p q : α}, l.Pairwise R → l.find? f = some p → q ∈ l → f q = true → q = p ∨ R p q
 | x :: t, p, q, hs, hp, hq, hf => by
  rw [List.find?_cons] at hp
  rw [List.pairwise_cons] at hs
  cases hx : f x
  ·rw [hx] at hp
   rcases List.mem_cons.1 hq with rfl | hq
   ·rw [hx] at hf; cases hf
   ·exact first_is hs.2 hp hq hf
  ·rw [hx] at hp
   obtain rfl := Option.some.inj hp
   rcases List.mem_cons.1 hq with rfl | hq
   ·exact Or.inl rfl
   ·exact Or.inr (hs.1 q hq)
theorem plc_in {l : List LineT} {p : Nat × Nat} (back : Bool) (h1 : p.1 < l.length) (h2 : p.2 < lenAt l p.1) : p ∈ plc l back := by
 have h : p ∈ plc l false := by
  rw [plc_false]; unfold restP
  refine List.mem_flatMap.2 ⟨p.1, by rw [List.mem_range'_1]; omega, List.mem_map.2 ⟨p.2, by rw [List.mem_range'_1]; omega, rfl⟩⟩
 cases back with
 | false => exact h
 | true => rw [plc_true]; exact List.mem_reverse.2 h
theorem found_cases (l : List LineT) (s : ByteArray) (a b : Int) (back : Bool) :
  ((foundR l s a b back).1 < 0 ∧ ∀ q ∈ plc l back, hitB l s a b back q = false) ∨
  (∃ p ∈ plc l back, foundR l s a b back = ((p.1 : Int), (p.2 : Int)) ∧ hitB l s a b back p = true ∧ (plc l back).find? (hitB l s a b back) = some p) := by
 unfold foundR
 cases h : (plc l back).find? (hitB l s a b back) with
 | none => exact Or.inl ⟨by simp, fun q hq => by have := List.find?_eq_none.1 h q hq; simpa using this⟩
 | some p => exact Or.inr ⟨p, List.mem_of_find?_eq_some h, rfl, List.find?_some h, rfl⟩
theorem beh_iff {a b c d : Int} : behB a b c d = true ↔ (a > c ∨ (a = c ∧ b > d)) := by
 unfold behB
 by_cases h1 : a > c
 ·simp [h1]
 ·by_cases h2 : a = c
  ·simp [h1, h2]
  ·simp [h1, h2]
theorem beh_false {a b c d : Int} (h : ¬ (a > c ∨ (a = c ∧ b > d))) : behB a b c d = false := Bool.eq_false_iff.2 (fun h' => h (beh_iff.1 h'))
end Go.Proofs.YtckkdaehmccjlaaDoor.P
namespace Go.Proofs.YtckkdaehmccjlaaDoor.P
open Go.RowKit Go.Proofs.YtckkdaehmccjlaaDoorW.PrintWords Go.Proofs.YtckkdaehmccjlaaDoorW.PrintLast Go.Proofs.YtckkdaehmccjlaaDoorW.PrintMore
theorem alive_k (k : Nat) : backseatlaw10_alive.f (k + 20) = some true := by kernel_rfl
theorem alive_ev : Ev (fun k => backseatlaw10_alive.f k) true := ⟨20, fun k hk => by
 obtain ⟨j, rfl⟩ : ∃ j, k = j + 20 := ⟨k - 20, by omega⟩
 exact alive_k j⟩
end Go.Proofs.YtckkdaehmccjlaaDoor.P
namespace Go.Proofs.YtckkdaehmccjlaaDoor.P
open Go.RowKit Go.Proofs.YtckkdaehmccjlaaDoorW.PrintWords Go.Proofs.YtckkdaehmccjlaaDoorW.PrintLast Go.Proofs.YtckkdaehmccjlaaDoorW.PrintMore
set_option linter.unusedVariables false
set_option linter.unusedSimpArgs false
theorem hit_behind {l : List LineT} {s : ByteArray} {a b : Int} {q : Nat × Nat} (h : hitB l s a b false q = true) : behB q.1 q.2 a b = true ∧ standB l s q = true := by
 unfold hitB at h; simpa using h
theorem hit_ahead {l : List LineT} {s : ByteArray} {a b : Int} {q : Nat × Nat} (h : hitB l s a b true q = true) : behB a b q.1 q.2 = true ∧ standB l s q = true := by
 unfold hitB at h; simpa using h
theorem there_at {l : List LineT} {p : Nat × Nat} (h1 : p.1 < l.length) (h2 : p.2 < lenAt l p.1) : thereB l (p.1 : Nat) (p.2 : Nat) = true := by
 unfold thereB
 have e : ((rd_T38 l (p.1 : Nat)).f0.length : Int) = (lenAt l p.1 : Nat) := rfl
 rw [if_pos (by omega), if_pos (by omega), if_pos (by omega), e]
 exact decide_eq_true (by omega)
theorem back_last {L : List LineT} (hL : L.length ≤ 30) (hT : Tiny L) (s : ByteArray) (hm : mayB L = true) (hs1 : s.toList ≠ ([] : List UInt8)) (hs2 : (s.size : Int) ≤ 64) (p : Nat × Nat) (hp1 : p.1 < L.length) (hp2 : p.2 < lenAt L p.1) (hst : standB L s p = true) :
  Ev (fun k => backseatlaw10_FindBack.j1 k L s (p.1 : Nat) (p.2 : Nat) false) true := by
 have hok := find_ok hL hT hm
 have hw : wrap64 ((L.length : Int) - 1) = ((L.length - 1 : Nat) : Int) := by unfold wrap64; omega
 have hlast : L.length - 1 < L.length := by omega
 have hmem := List.getElem_mem hlast
 have h82 := (hT _ hmem).1
 have hle := lenAt_eq hlast
 have hodd : oddB L[L.length - 1] = false := by
  unfold mayB at hm
  simp only [Bool.and_eq_true, Bool.not_eq_true'] at hm
  exact Bool.eq_false_iff.2 (fun h => by have := List.any_eq_true.2 ⟨_, hmem, h⟩; rw [hm.1] at this; cases this)
 have hne : 1 ≤ lenAt L (L.length - 1) := by
  have := ((odd_ev L[L.length - 1] ((tiny_small hL hT).2 _ hmem)).2.1 hodd).1
  omega
 have hw2 : wrap64 ((((rd_T38 L ((L.length - 1 : Nat) : Int)).f0).length : Int) - 1) = ((lenAt L (L.length - 1) - 1 : Nat) : Int) := by
  have e : ((rd_T38 L ((L.length - 1 : Nat) : Int)).f0.length : Int) = (lenAt L (L.length - 1) : Nat) := rfl
  rw [e]; unfold wrap64; omega
 have hthere := there_at (l := L) (p := (L.length - 1, lenAt L (L.length - 1) - 1)) hlast (by show lenAt L (L.length - 1) - 1 < lenAt L (L.length - 1); omega)
 have hg := goodB_mk hm hthere hs1 hs2
 have hF := find_ev hL hT s ((L.length - 1 : Nat) : Int) ((lenAt L (L.length - 1) - 1 : Nat) : Int) true
 unfold findA at hF
 rw [if_pos hg] at hF
 refine Ev.succ ?_
 simp only [backseatlaw10_FindBack.j1]
 rw [hw, hw2]
 refine Ev.neg (by decide) (Ev.pos (by omega) (Ev.pos (by omega) (Ev.bind hF ?_)))
 by_cases hx : (p.1 : Int) = ((L.length - 1 : Nat) : Int) ∧ (p.2 : Int) = ((lenAt L (L.length - 1) - 1 : Nat) : Int)
 ·refine Ev.pos hx.1 (Ev.succ ?_)
  rw [show (((p.2 : Nat) : Int) == ((lenAt L (L.length - 1) - 1 : Nat) : Int)) = true from beq_iff_eq.2 hx.2]
  simp only [backseatlaw10_FindBack.j2]
  exact Ev.pos trivial (Ev.ret _)
 ·have key : Ev (fun k => backseatlaw10_FindBack.j2 k L s (p.1 : Nat) (p.2 : Nat) (if (foundR L s ((L.length - 1 : Nat) : Int) ((lenAt L (L.length - 1) - 1 : Nat) : Int) true).1 < 0 then ((0, 0, 5) : Int × Int × Int) else ((foundR L s ((L.length - 1 : Nat) : Int) ((lenAt L (L.length - 1) - 1 : Nat) : Int) true).1, (foundR L s ((L.length - 1 : Nat) : Int) ((lenAt L (L.length - 1) - 1 : Nat) : Int) true).2, 0)).1 (if (foundR L s ((L.length - 1 : Nat) : Int) ((lenAt L (L.length - 1) - 1 : Nat) : Int) true).1 < 0 then ((0, 0, 5) : Int × Int × Int) else ((foundR L s ((L.length - 1 : Nat) : Int) ((lenAt L (L.length - 1) - 1 : Nat) : Int) true).1, (foundR L s ((L.length - 1 : Nat) : Int) ((lenAt L (L.length - 1) - 1 : Nat) : Int) true).2, 0)).2.1 (if (foundR L s ((L.length - 1 : Nat) : Int) ((lenAt L (L.length - 1) - 1 : Nat) : Int) true).1 < 0 then ((0, 0, 5) : Int × Int × Int) else ((foundR L s ((L.length - 1 : Nat) : Int) ((lenAt L (L.length - 1) - 1 : Nat) : Int) true).1, (foundR L s ((L.length - 1 : Nat) : Int) ((lenAt L (L.length - 1) - 1 : Nat) : Int) true).2, 0)).2.2 false) true := by
   have hpl : p ∈ plc L true := plc_in true hp1 hp2
   have hhit : hitB L s ((L.length - 1 : Nat) : Int) ((lenAt L (L.length - 1) - 1 : Nat) : Int) true p = true := by
    unfold hitB
    rw [if_pos rfl, hst, Bool.and_true]
    refine beh_iff.2 ?_
    by_cases e : p.1 = L.length - 1
    ·rw [e] at hp2
     exact Or.inr ⟨by omega, by have : p.2 ≠ lenAt L (L.length - 1) - 1 := fun h => hx ⟨by omega, by omega⟩; omega⟩
    ·exact Or.inl (by omega)
   rcases found_cases L s ((L.length - 1 : Nat) : Int) ((lenAt L (L.length - 1) - 1 : Nat) : Int) true with ⟨_, hn⟩ | ⟨q, hq, he, hqh, hqf⟩
   ·rw [hn p hpl] at hhit; cases hhit
   ·rw [he, if_neg (by simp only; omega)]
    have hb : behB (p.1 : Nat) (p.2 : Nat) (q.1 : Nat) (q.2 : Nat) = false := by
     refine beh_false ?_
     rcases first_is (plc_sorted_back L) hqf hpl hhit with h | h
     ·subst h; omega
     ·rcases h with h | h <;> omega
    obtain ⟨q1, q2⟩ := plc_mem hq
    have hS := stands_ev s hok q q1 q2
    rw [(hit_ahead hqh).2] at hS
    refine Ev.succ ?_
    simp only [backseatlaw10_FindBack.j2]
    refine Ev.neg (by decide) (Ev.pos trivial (Ev.bind (Ev.of (beh_f _ _ _ _)) ?_))
    rw [hb]
    exact Ev.neg (by decide) (Ev.bind hS (Ev.ret _))
  by_cases h1 : (p.1 : Int) = ((L.length - 1 : Nat) : Int)
  ·refine Ev.pos h1 ?_
   rw [show (((p.2 : Nat) : Int) == ((lenAt L (L.length - 1) - 1 : Nat) : Int)) = false from beq_eq_false_iff_ne.2 (fun h => hx ⟨h1, h⟩)]
   exact key
  ·exact Ev.neg h1 key
theorem findBack_pure (l0 : List S38) (a1 : ByteArray) (a2 a3 : Int) (h2 : -9223372036854775808 ≤ a2 ∧ a2 ≤ 9223372036854775807) (h3 : -9223372036854775808 ≤ a3 ∧ a3 ≤ 9223372036854775807) (hl : l0.length ≤ 9223372036854775807) :
  ∃ k, backseatlaw10_FindBack.f k l0 a1 a2 a3 = some true := by
 obtain ⟨L, ⟨hL, hT⟩, hfew⟩ := few_ev l0 (by omega)
 obtain ⟨m1, m2, m3⟩ := mn_facts a1.size 66
 refine Ev.ex (f := fun k => backseatlaw10_FindBack.f k l0 a1 a2 a3) ?_
 unfold backseatlaw10_FindBack.f
 refine Ev.bind hfew (Ev.pos m1 (Ev.pos m2 ?_))
 generalize a1.extract 0 ((mn (a1.size : Int) 66) : Int).toNat = s
 have hF := find_ev hL hT s a2 a3 false
 cases hg : goodB L s a2 a3
 ·have e : findA L s a2 a3 false = (0, 0, 1) := by unfold findA; rw [if_neg (by rw [hg]; decide)]
  rw [e] at hF
  exact Ev.bind hF (Ev.neg (by decide) (Ev.bind alive_ev (Ev.pos rfl (Ev.neg (by decide) (Ev.of rfl)))))
 ·obtain ⟨hm, _, hs1, hs2⟩ := goodB_parts hg
  have hok := find_ok hL hT hm
  unfold findA at hF
  rw [if_pos hg] at hF
  rcases found_cases L s a2 a3 false with ⟨hn, _⟩ | ⟨p, hp, he, hph, hpf⟩
  ·rw [if_pos hn] at hF
   exact Ev.bind hF (Ev.neg (by decide) (Ev.bind alive_ev (Ev.pos rfl (Ev.pos rfl (Ev.ret _)))))
  ·rw [he, if_neg (by simp only; omega)] at hF
   obtain ⟨hp1, hp2⟩ := plc_mem hp
   obtain ⟨hb, hst⟩ := hit_behind hph
   have hth := there_at hp1 hp2
   have hS := stands_ev s hok p hp1 hp2
   rw [hst] at hS
   refine Ev.bind hF (Ev.pos rfl (Ev.bind (Ev.of ((ref_there_f _ _ _).trans (congrArg some hth))) (Ev.pos rfl (Ev.bind hS (Ev.pos rfl (Ev.bind (Ev.of ((beh_f _ _ _ _).trans (congrArg some hb))) (Ev.pos rfl (Ev.bind alive_ev (Ev.succ ?_)))))))))
   simp only [backseatlaw10_FindBack.j0]
   have hF2 := find_ev hL hT s ((p.1 : Nat) : Int) ((p.2 : Nat) : Int) true
   unfold findA at hF2
   rw [if_pos (goodB_mk hm hth hs1 hs2)] at hF2
   have hend := back_last hL hT s hm hs1 hs2 p hp1 hp2 hst
   refine Ev.neg (by decide) (Ev.bind hF2 ?_)
   rcases found_cases L s ((p.1 : Nat) : Int) ((p.2 : Nat) : Int) true with ⟨hn, _⟩ | ⟨q, hq, hqe, hqh, hqf⟩
   ·rw [if_pos hn]
    exact Ev.neg (by decide) hend
   ·rw [hqe, if_neg (by simp only; omega)]
    have hbq : behB (q.1 : Nat) (q.2 : Nat) a2 a3 = false := by
     refine Bool.eq_false_iff.2 (fun h => ?_)
     obtain ⟨hq1, hq2⟩ := plc_mem hq
     obtain ⟨hqa, hqs⟩ := hit_ahead hqh
     have hh : hitB L s a2 a3 false q = true := by unfold hitB; rw [if_neg (by decide), h, hqs]; rfl
     have hqa' := beh_iff.1 hqa
     rcases first_is (plc_sorted L) hpf (plc_in false hq1 hq2) hh with e | e
     ·subst e; omega
     ·rcases e with e | e <;> omega
    refine Ev.pos rfl (Ev.bind (Ev.of ((beh_f _ _ _ _).trans (congrArg some hbq))) hend)
end Go.Proofs.YtckkdaehmccjlaaDoor.P
namespace Go.Proofs.YtckkdaehmccjlaaDoor.findBack
open Go.ChangeShapes Go.WideShapes Go.ChangeAt Go.RowKit Go.Shelf Go.Lib
open Go.ChangeMaps (open_string shut_string)
open Go.Proofs.YtckkdaehmccjlaaDoor.P
set_option linter.unusedVariables false
theorem own : ownKnob Tryd.prog.godebug = none := by kernel_rfl
theorem laidOut : laidOutB Tryd.prog = true := by kernel_rfl
theorem tabs_of {w : World} (hL : laidMet Tryd.prog Rows.findBackRow.laid w) : Tabs w :=
 ⟨utf8Tabs_of_reads (ρ := Tryd.lays197_ren) { Tryd.lays197 with } ⟨by kernel_rfl, by kernel_rfl, by kernel_rfl, by kernel_rfl, by kernel_rfl, by kernel_rfl, by kernel_rfl⟩ (Pinned.utf8First_eq ▸ Lib.laidMet.reads hL (.tail _ (.head _))) (Lib.laidMet.reads hL (.head _))⟩
set_option maxRecDepth 100000 in
theorem lifted (os : Os) (started : os.Started) (H : Type) (enc : TypeId × Value → H) :
  ReturnsInHanded {} Tryd.checked os 4 .any (fun w args => (Rows.findBackSpec.pre enc Tryd.prog Tryd.f4 [] false w args ∧ laidMetH Tryd.prog Rows.findBackRow.laid w) ∧ sizedMet enc Tryd.prog Tryd.f4 (OpenSpec.ofChange Rows.findBackSpec) false w args)
   (Rows.findBackSpec.post enc Tryd.prog Tryd.f4 false true false false) := by
 refine returnsInHanded_of_change_and (C := Tryd.checked) (X := fun w _ => laidMetH Tryd.prog Rows.findBackRow.laid w) (fun _ _ _ hh h => h.of_heap hh) own started (by kernel_rfl) Tryd.func4
  (ChangeSpec.witness_shaped (enc := enc) (C := Tryd.checked) (os := os) (X := fun w _ => laidMetH Tryd.prog Rows.findBackRow.laid w) false (World.laidAll Tryd.prog os Rows.findBackRow.laid) #[.slice none 0 0, .string ByteArray.empty, .int .i64 0, .int .i64 0] 8 (World.laidAll_os _ _ _)
   (World.shaped_of_ZipB (by kernel_rfl) (by kernel_rfl)) (by kernel_rfl) (by kernel_rfl) (by kernel_rfl)
   (by rw [MakeChecks.laidMetH_plain _ _ _ (by kernel_rfl)]; exact laidMet_laidAll _ (by kernel_rfl) (by kernel_rfl))) ?_
 intro W base args ds gs before hval0 hW _ _ hL _
 have hval : ∀ (j : Nat) t v, Tryd.f4.params[j]? = some t → args[j]? = some v → Value.okWide Tryd.prog W .any base t v := hval0
 have hW' := hW
 obtain ⟨p, q, hA0, hV, rfl, hfz, hnd⟩ := hW
 have hA : DataW.TrodAll enc Tryd.prog W 0 (fun _ => true) true Tryd.f4.params.toList args.toList ds p := hA0
 rw [Tryd.params4] at hA hval
 obtain ⟨v0, vs0, d0, ds0, p0, q0, hargs, rfl, rfl, h0, r0⟩ := trodAll_cons hA
 obtain ⟨v1, vs1, d1, ds1, p1, q1, rfl, rfl, rfl, h1, r1⟩ := trodAll_cons r0
 obtain ⟨v2, vs2, d2, ds2, p2, q2, rfl, rfl, rfl, h2, r2⟩ := trodAll_cons r1
 obtain ⟨v3, vs3, d3, ds3, p3, q3, rfl, rfl, rfl, h3, r3⟩ := trodAll_cons r2
 obtain ⟨rfl, rfl, rfl⟩ := trodAll_nil r3
 obtain rfl : args = #[v0, v1, v2, v3] := by cases args; simp_all
 obtain ⟨rfl, rfl⟩ := trodVars_none hV
 obtain ⟨a0, len0, cap0, rfl⟩ := okWide_slice Tryd.underlying22 (hval 0 22 v0 rfl rfl)
 have k0 := h0
 have lt0 : ∀ x ∈ p0, x.block < W.heap.size := by obtain ⟨m, hm⟩ := k0; exact DataW.trod_lt m _ _ _ hm
 obtain ⟨fuel0, hf0⟩ := h0
 obtain ⟨l0, hlen0, hc0, hC0⟩ := lines_of_trod (c := cap0) hf0
 obtain ⟨a1, rfl, rfl, rfl, y1⟩ := open_string Tryd.underlying9 (hval 1 9 v1 rfl rfl) h1
 obtain ⟨a2, rfl, rfl, rfl, w2⟩ := open_int Tryd.underlying3 (hval 2 3 v2 rfl rfl) h2
 obtain ⟨a3, rfl, rfl, rfl, w3⟩ := open_int Tryd.underlying3 (hval 3 3 v3 rfl rfl) h3
 rw [MakeChecks.laidMetH_plain _ _ _ (by kernel_rfl)] at hL
 have hT : Tabs W := tabs_of hL
 have x2 : -9223372036854775808 ≤ a2 ∧ a2 ≤ 9223372036854775807 := by simpa [Lit.wf, IntKind.min, IntKind.max, IntKind.signed, IntKind.bits] using w2
 have x3 : -9223372036854775808 ≤ a3 ∧ a3 ≤ 9223372036854775807 := by simpa [Lit.wf, IntKind.min, IntKind.max, IntKind.signed, IntKind.bits] using w3
 subst hlen0
 obtain ⟨k, hk⟩ := findBack_pure l0 a1 a2 a3 x2 x3 (Go.Proofs.YtckkdaehmccjlaaDoorW.PrintWords.Kd.C_max hC0)
 clear hA0 hval0 hf0
 refine (backseatlaw10_FindBack.calls k a0 cap0 l0 a1 a2 a3 true W hC0 hc0 hk hT).mono fun e W' ⟨he, bel⟩ => ?_
 subst he
 exact ⟨_, rfl, _, _, _, [], _, [], hW', trodAll_mk1 (shut_bool Tryd.underlying4 _), (trodAll_cons_mk (Below.trod laidOut (by kernel_rfl) (of_decide_eq_true (by kernel_rfl)) k0 bel lt0) (trodAll_cons_mk (shut_string Tryd.underlying9 y1) (trodAll_cons_mk (shut_int Tryd.underlying3 w2) (trodAll_cons_mk (shut_int Tryd.underlying3 w3) trodAll_mk0)))), rfl, bel.frame _, fun h => by cases h⟩
theorem row_holds : Rows.FindBackSaid :=
 OpenClaim.holds_of_wide 4 Tryd.f4 rfl rfl rfl rfl rfl rfl rfl ⟨rfl, rfl, rfl, rfl, rfl⟩ rfl rfl rfl rfl rfl (by kernel_rfl) Tryd.func4 (by kernel_rfl)
  (of_decide_eq_true (by kernel_rfl)) (by unfold Func.isWrapper; first | (rw [if_pos (by decide +kernel)]; kernel_rfl) | (rw [if_neg (by decide +kernel)]; exact ⟨rfl, rfl⟩))
  (fun os started H enc _ => lifted os started H enc)
theorem card_holds : Rows.FindBackCardSaid :=
 Claim7.holds_tied_plain_at .later [] [.data, .pinned] true (true, "56f34029b3037d658335f65c104c5fb094e35f5c91688626dc0cdcff1830fce7") false row_holds (fun _ h => by cases h) (by kernel_rfl) (fun _ h => by cases h) findBack_row_tie rfl ⟨rfl, rfl⟩ (by kernel_rfl) rfl
  (fun f fn hf hfn => by
   obtain rfl : f = 4 := Option.some.inj ((show Tryd.prog.funcNamed "backseat/backseatlaw10.FindBack" = some 4 by kernel_rfl).symm.trans hf) |>.symm
   obtain rfl : fn = Tryd.f4 := (Option.some.inj (Tryd.func4.symm.trans hfn)).symm
   exact ⟨by kernel_rfl, fun j t ht => by
    rw [Tryd.params4] at ht
    have hm : t ∈ [22, 9, 3, 3] := by simpa using Array.mem_of_getElem? ht
    have hall : ([22, 9, 3, 3].all fun u => !Tryd.prog.wantsStandIn u) = true := by kernel_rfl
    exact (show Tryd.prog.wantsStandIn t = false by simpa using List.all_eq_true.1 hall t hm)⟩)
  (by kernel_rfl)
end Go.Proofs.YtckkdaehmccjlaaDoor.findBack
