/- Texts of this session put together by a program, part 3: PWidth, PCell, PMay, PSay, PSeek, PJoin, PFew, PAlive, PureFindLooks, FindLooksRow. -/
import Derived.Test.YtckkdaehmccjlaaDoorFLm2
import Derived.Laws.Strings
import Derived.Lib.TrimU
import Derived.Shelf.Unicode.DecodeLastEight
import Derived.KernelRfl
import Derived.Test.YtckkdaehmccjlaaDoorRows
import Derived.Test.YtckkdaehmccjlaaDoorCards
import Derived.Test.YtckkdaehmccjlaaDoorTie
import Derived.WalkKit
import Derived.ProofKit
import Derived.ChangeOld
import Derived.Below
import Derived.PinnedBridge
import Derived.Lay
import Derived.LaidOnce
import Derived.Lib.LaidU8
import Derived.SevenTiedAt
namespace Go.Proofs.YtckkdaehmccjlaaDoor.P
set_option linter.unusedVariables false
set_option linter.unusedSimpArgs false
def inB (r lo hi : Int) : Bool := decide (lo ≤ r) && decide (r ≤ hi)
theorem in_f (r lo hi : Int) : backseatref01_in.f r lo hi = some (inB r lo hi) := by
 unfold backseatref01_in.f inB
 by_cases h : lo ≤ r <;> simp [h]
theorem is_f (r : Int) : backseatref01_Is.f r = some (Lib.validRune r) := by
 unfold backseatref01_Is.f Lib.validRune
 by_cases h0 : r ≥ 0
 ·by_cases h1 : r ≤ 1114111
  ·by_cases h2 : r < 55296
   ·rw [if_pos h0, if_pos h1, if_pos h2, decide_eq_true (by omega)]
   ·rw [if_pos h0, if_pos h1, if_neg h2]; congr 1; rw [decide_eq_decide]; omega
  ·rw [if_pos h0, if_neg h1, decide_eq_false (by omega)]
 ·rw [if_neg h0, decide_eq_false (by omega)]
def widthP (r : Int) : Int := if noLetter r = true then -1 else if inAny r zeroSpans = true then 0 else if inAny r wideSpans = true then 2 else 1
theorem utf_width (r : Int) : utf_Width.f r = some (widthP r) := rfl
theorem ref_width (r : Int) (k : Nat) : backseatref01_Width.f (k + 3) r = some (widthP r) := by
 have hz : inAny r zeroSpans = (inB r 768 879 || inB r 8203 8205 || inB r 65024 65039) := by simp [inAny, zeroSpans, inB, Bool.or_assoc]
 have hw : inAny r wideSpans = (inB r 4352 4447 || inB r 12353 19903 || inB r 19968 40959 || inB r 44032 55203 || inB r 63744 64255 || inB r 65281 65376 || inB r 127744 129791 || inB r 131072 262141) := by simp [inAny, wideSpans, inB, Bool.or_assoc]
 have hn : noLetter r = (!Lib.validRune r || decide (r < 32) || inB r 127 159) := by
  unfold noLetter inB
  congr 2
  rw [decide_eq_decide]; omega
 unfold widthP
 rw [hz, hw, hn]
 unfold backseatref01_Width.f
 simp only [is_f, in_f, Option.bind_some]
 have j0t : ∀ k, backseatref01_Width.j0 (k + 1) r true = some (-1) := fun k => by simp [backseatref01_Width.j0]
 have j1t : ∀ k, backseatref01_Width.j1 (k + 1) r true = some 0 := fun k => by simp [backseatref01_Width.j1]
 have j2t : ∀ k, backseatref01_Width.j2 (k + 1) r true = some 2 := fun k => by simp [backseatref01_Width.j2]
 have j2f : ∀ k, backseatref01_Width.j2 (k + 1) r false = some (if (inB r 63744 64255 || inB r 65281 65376 || inB r 127744 129791 || inB r 131072 262141) = true then 2 else 1) := fun k => by
  simp only [backseatref01_Width.j2, in_f, Option.bind_some]
  cases inB r 63744 64255 <;> cases inB r 65281 65376 <;> cases inB r 127744 129791 <;> cases inB r 131072 262141 <;> rfl
 have j1f : ∀ k, backseatref01_Width.j1 (k + 2) r false = some (if (inB r 4352 4447 || inB r 12353 19903 || inB r 19968 40959 || inB r 44032 55203 || inB r 63744 64255 || inB r 65281 65376 || inB r 127744 129791 || inB r 131072 262141) = true then 2 else 1) := fun k => by
  simp only [backseatref01_Width.j1, in_f, Option.bind_some]
  cases inB r 4352 4447 <;> cases inB r 12353 19903 <;> cases inB r 19968 40959 <;> cases inB r 44032 55203 <;> simp [j2t, j2f]
 have j0f : ∀ k, backseatref01_Width.j0 (k + 3) r false = some (if (inB r 768 879 || inB r 8203 8205 || inB r 65024 65039) = true then 0 else if (inB r 4352 4447 || inB r 12353 19903 || inB r 19968 40959 || inB r 44032 55203 || inB r 63744 64255 || inB r 65281 65376 || inB r 127744 129791 || inB r 131072 262141) = true then 2 else 1) := fun k => by
  simp only [backseatref01_Width.j0, in_f, Option.bind_some]
  cases inB r 768 879 <;> cases inB r 8203 8205 <;> cases inB r 65024 65039 <;> simp [j1t, j1f]
 cases Lib.validRune r
 ·simp [j0t]
 ·by_cases h : r < 32
  ·simp [h, j0t]
  ·simp only [h, if_true, if_false, decide_false, Bool.not_true, Bool.false_or]
   cases inB r 127 159
   ·rw [j0f]; simp
   ·rw [j0t]; simp
theorem ref_width_ev (r : Int) : Ev (fun k => backseatref01_Width.f k r) (widthP r) := ⟨3, fun k hk => by
 obtain ⟨j, rfl⟩ : ∃ j, k = j + 3 := ⟨k - 3, by omega⟩
 exact ref_width r j⟩
end Go.Proofs.YtckkdaehmccjlaaDoor.P
namespace Go.Proofs.YtckkdaehmccjlaaDoor.P
open Go.RowKit Go.Proofs.YtckkdaehmccjlaaDoorW.PrintWords Go.Proofs.YtckkdaehmccjlaaDoorW.PrintLast Go.Proofs.YtckkdaehmccjlaaDoorW.PrintMore Go.Lib
set_option linter.unusedVariables false
set_option linter.unusedSimpArgs false
theorem toList_nil (s : ByteArray) : s.toList = ([] : List UInt8) ↔ s.size = 0 := by
 rw [ByteArray.toList_eq]
 constructor
 ·intro h; have := congrArg List.length h; rw [Array.length_toList] at this; exact this
 ·intro h; exact List.eq_nil_of_length_eq_zero (by rw [Array.length_toList]; exact h)
theorem cell_in_f (r lo hi : Int) : cell_in.f r lo hi = some (inB r lo hi) := by
 unfold cell_in.f inB
 by_cases h : lo ≤ r <;> simp [h]
theorem ref04_in_f (r lo hi : Int) : backseatref04_in.f r lo hi = some (inB r lo hi) := by
 unfold backseatref04_in.f inB
 by_cases h : lo ≤ r <;> simp [h]
def lookB (x y z : Int) : Bool := inB x 0 256 && (inB y 0 256 && inB z 0 255)
theorem look_f (x y z : Int) : cell_Look.f x y z = some (lookB x y z) := by
 unfold cell_Look.f lookB
 simp only [cell_in_f, Option.bind_some]
 cases inB x 0 256 <;> cases inB y 0 256 <;> simp
theorem ref_look_f (x y z : Int) : backseatref04_Look.f x y z = some (lookB x y z) := by
 unfold backseatref04_Look.f lookB
 simp only [ref04_in_f, Option.bind_some]
 cases inB x 0 256 <;> cases inB y 0 256 <;> simp
theorem inB_iff {r lo hi : Int} : inB r lo hi = true ↔ lo ≤ r ∧ r ≤ hi := by unfold inB; simp
theorem rest_size (s : ByteArray) (n : Nat) (h : n ≤ s.size) : (s.extract n s.size).size = s.size - n := by simp [ByteArray.size_extract]
theorem go_size {s : ByteArray} (h : okD s) : 1 ≤ (decodeGo s).2 ∧ (decodeGo s).2 ≤ s.size := by
 have h0 : s.size ≠ 0 := fun e => empty_not s e h
 exact ⟨by rw [dec_go s h0]; exact decodeN_ge1 _ _ _ _ _, decodeGo_le_size s⟩
def marksI (c : Nat) : Option Nat → Int
 | some m => ((c + m : Nat) : Int)
 | none => -1
def marksB (c : Nat) : Option Nat → Bool
 | some m => decide (((c + m : Nat) : Int) ≤ 2)
 | none => false
theorem marks_same : ∀ (n : Nat) (s : ByteArray) (c : Nat), s.size = n → ((c + n : Nat) : Int) ≤ 9223372036854775806 → ∃ o, Ev (fun k => cell_marks.l0 k s (c : Int)) (marksI c o) ∧ Ev (fun k => backseatref04_Right.l0 k s (c : Int)) (marksB c o) := by
 intro n
 induction n using Nat.strongRecOn with
 | _ n ih =>
  intro s c hn hc
  by_cases h0 : s.size = 0
  ·refine ⟨some 0, Ev.succ ?_, Ev.succ ?_⟩
   ·simp only [cell_marks.l0]
    exact Ev.pos ((toList_nil s).2 h0) (Ev.ret _)
   ·simp only [backseatref04_Right.l0]
    exact Ev.neg (by omega) (Ev.ret _)
  ·obtain ⟨r, hr, hF⟩ := utf_first s (by omega)
   obtain ⟨r', hr', hF'⟩ := ref_first s (by omega)
   have hne : ¬ s.toList = ([] : List UInt8) := fun e => h0 ((toList_nil s).1 e)
   rcases hF with ⟨ok, rfl⟩ | ⟨no, hz⟩
   ·rcases hF' with ⟨_, rfl⟩ | ⟨no, _⟩
    rotate_left
    ·exact absurd ok no
    have hg := go_size ok
    by_cases hw : widthP (decodeGo s).1 = 0
    ·obtain ⟨o, h1, h2⟩ := ih (s.size - (decodeGo s).2) (by omega) (s.extract (decodeGo s).2 s.size) (c + 1) (rest_size s _ hg.2) (by omega)
     have hwr := w64 c (by omega)
     refine ⟨o.map (· + 1), Ev.succ ?_, Ev.succ ?_⟩
     ·simp only [cell_marks.l0]
      refine Ev.neg hne (Ev.bind hr (Ev.pos rfl (Ev.bind (Ev.of (utf_width _)) (Ev.pos hw (Ev.pos (by simp only; omega) (Ev.pos (by simp only; omega) ?_))))))
      rw [hwr]
      have e : marksI c (o.map (· + 1)) = marksI (c + 1) o := by cases o with
       | none => rfl
       | some m => simp only [marksI, Option.map_some]; omega
      rw [e]; exact h1
     ·simp only [backseatref04_Right.l0]
      refine Ev.pos (by omega) (Ev.bind hr' (Ev.pos rfl (Ev.bind (ref_width_ev _) (Ev.pos hw (Ev.pos (by simp only; omega) (Ev.pos (by simp only; omega) ?_))))))
      rw [hwr]
      have e : marksB c (o.map (· + 1)) = marksB (c + 1) o := by cases o with
       | none => rfl
       | some m => simp only [marksB, Option.map_some]; rw [show c + (m + 1) = c + 1 + m by omega]
      rw [e]; exact h2
    ·refine ⟨none, Ev.succ ?_, Ev.succ ?_⟩
     ·simp only [cell_marks.l0]
      exact Ev.neg hne (Ev.bind hr (Ev.pos rfl (Ev.bind (Ev.of (utf_width _)) (Ev.neg hw (Ev.ret _)))))
     ·simp only [backseatref04_Right.l0]
      exact Ev.pos (by omega) (Ev.bind hr' (Ev.pos rfl (Ev.bind (ref_width_ev _) (Ev.neg hw (Ev.ret _)))))
   ·rcases hF' with ⟨ok, rfl⟩ | ⟨_, hz'⟩
    ·exact absurd ok no
    refine ⟨none, Ev.succ ?_, Ev.succ ?_⟩
    ·simp only [cell_marks.l0]
     exact Ev.neg hne (Ev.bind hr (Ev.neg hz (Ev.ret _)))
    ·simp only [backseatref04_Right.l0]
     exact Ev.pos (by omega) (Ev.bind hr' (Ev.neg hz' (Ev.ret _)))
theorem right_same (s : ByteArray) (wd x y z : Int) (hs : (s.size : Int) ≤ 9223372036854775806) : ∃ b, Ev (fun k => cell_Right.f k s wd x y z) b ∧ Ev (fun k => backseatref04_Right.f k s wd x y z) b := by
 have ref0 : Ev (fun k => backseatref04_Right.j0 k true s wd x y z) false := Ev.succ (by simp only [backseatref04_Right.j0]; exact Ev.pos trivial (Ev.ret _))
 have ref1 : ∀ a b c, Ev (fun k => backseatref04_Right.j1 k true s wd x y z a b c) false := fun a b c => Ev.succ (by simp only [backseatref04_Right.j1]; exact Ev.pos trivial (Ev.ret _))
 have prg0 : ∀ n, Ev (fun k => cell_Right.j0 k n true s wd x y z) false := fun n => Ev.succ (by simp only [cell_Right.j0]; exact Ev.pos trivial (Ev.ret _))
 have refNo : (lookB x y z = false ∨ wd < 0 ∨ 2 < wd) → Ev (fun k => backseatref04_Right.f k s wd x y z) false := fun h => by
  unfold backseatref04_Right.f
  refine Ev.bind (Ev.of (ref_look_f x y z)) ?_
  by_cases hl : lookB x y z = true
  ·refine Ev.pos hl ?_
   by_cases h1 : wd < 0
   ·exact Ev.pos h1 ref0
   ·refine Ev.neg h1 ?_
    rw [decide_eq_true (by rcases h with h | h | h <;> first | (rw [h] at hl; cases hl) | omega)]
    exact ref0
  ·exact Ev.neg hl ref0
 have refYes : ∀ b, lookB x y z = true → ¬ wd < 0 → ¬ 2 < wd → Ev (fun k => if s.toList = ([] : List UInt8) then (some (decide (wd < 2))) else ((backseatref01_First.f k s).bind fun bt222 => (if bt222.2.2 = 0 then (if wd = 0 then (backseatref04_Right.j1 k true s wd x y z bt222.1 bt222.2.1 bt222.2.2) else ((backseatref01_Width.f k bt222.1).bind fun t226 => (backseatref04_Right.j1 k (t226 != wd) s wd x y z bt222.1 bt222.2.1 bt222.2.2))) else (backseatref04_Right.j1 k true s wd x y z bt222.1 bt222.2.1 bt222.2.2)))) b → Ev (fun k => backseatref04_Right.f k s wd x y z) b := fun b hl h1 h2 hb => by
  unfold backseatref04_Right.f
  refine Ev.bind (Ev.of (ref_look_f x y z)) (Ev.pos hl (Ev.neg h1 ?_))
  rw [decide_eq_false h2]
  refine Ev.succ ?_
  simp only [backseatref04_Right.j0]
  exact Ev.neg (by decide) hb
 by_cases h0 : s.size = 0
 ·have hE := (toList_nil s).2 h0
  have hp : Ev (fun k => cell_Right.f k s wd x y z) (lookB x y z && inB wd 0 1) := by
   unfold cell_Right.f
   refine Ev.pos hE (Ev.bind (Ev.of (look_f x y z)) ?_)
   cases hl : lookB x y z
   ·exact Ev.neg (by decide) (Ev.ret _)
   ·exact Ev.pos rfl (Ev.bind (Ev.of (cell_in_f _ _ _)) (Ev.ret _))
  refine ⟨_, hp, ?_⟩
  by_cases hl : lookB x y z = true
  ·by_cases h1 : wd < 0
   ·have e : (lookB x y z && inB wd 0 1) = false := by rw [hl]; unfold inB; simp; omega
    rw [e]; exact refNo (Or.inr (Or.inl h1))
   ·by_cases h2 : 2 < wd
    ·have e : (lookB x y z && inB wd 0 1) = false := by rw [hl]; unfold inB; simp; omega
     rw [e]; exact refNo (Or.inr (Or.inr h2))
    ·have e : (lookB x y z && inB wd 0 1) = decide (wd < 2) := by rw [hl]; unfold inB; rw [Bool.true_and, decide_eq_true (by omega), Bool.true_and, decide_eq_decide]; omega
     rw [e]; exact refYes _ hl h1 h2 (Ev.pos hE (Ev.ret _))
  ·have e : (lookB x y z && inB wd 0 1) = false := by rw [Bool.eq_false_iff.2 hl, Bool.false_and]
   rw [e]; exact refNo (Or.inl (Bool.eq_false_iff.2 hl))
 ·have hne : ¬ s.toList = ([] : List UInt8) := fun e => h0 ((toList_nil s).1 e)
  obtain ⟨r, hr, hF⟩ := utf_first s (by omega)
  obtain ⟨r', hr', hF'⟩ := ref_first s (by omega)
  rcases hF with ⟨ok, rfl⟩ | ⟨no, hz⟩
  ·rcases hF' with ⟨_, rfl⟩ | ⟨no, _⟩
   rotate_left
   ·exact absurd ok no
   have hg := go_size ok
   have prgNo : (¬ (1 ≤ wd ∧ wd ≤ 2) ∨ widthP (decodeGo s).1 ≠ wd ∨ lookB x y z = false) → Ev (fun k => cell_Right.f k s wd x y z) false := fun h => by
    unfold cell_Right.f
    refine Ev.neg hne (Ev.bind hr (Ev.pos rfl (Ev.bind (Ev.of (cell_in_f _ _ _)) ?_)))
    by_cases hw : inB wd 1 2 = true
    ·refine Ev.pos hw (Ev.bind (Ev.of (utf_width _)) ?_)
     by_cases hq : widthP (decodeGo s).1 = wd
     ·have hl : lookB x y z = false := by
       rcases h with h | h | h
       ·exact absurd (inB_iff.1 hw) h
       ·exact absurd hq h
       ·exact h
      simp only [hq, bne_self_eq_false]
      refine Ev.succ ?_
      simp only [cell_Right.j0]
      refine Ev.neg (by decide) (Ev.bind (Ev.of (look_f x y z)) ?_)
      rw [hl]; exact Ev.neg (by decide) (Ev.ret _)
     ·have : (widthP (decodeGo s).1 != wd) = true := bne_iff_ne.2 hq
      simp only [this]; exact prg0 _
    ·exact Ev.neg hw (prg0 _)
   by_cases hl : lookB x y z = true
   ·by_cases hw : (1 ≤ wd ∧ wd ≤ 2) ∧ widthP (decodeGo s).1 = wd
    ·obtain ⟨o, m1, m2⟩ := marks_same _ (s.extract (decodeGo s).2 s.size) 0 rfl (by rw [rest_size s _ hg.2]; omega)
     have hbne : (widthP (decodeGo s).1 != wd) = false := by rw [hw.2]; exact bne_self_eq_false _
     refine ⟨marksB 0 o, ?_, ?_⟩
     ·unfold cell_Right.f
      refine Ev.neg hne (Ev.bind hr (Ev.pos rfl (Ev.bind (Ev.of (cell_in_f _ _ _)) (Ev.pos (inB_iff.2 hw.1) (Ev.bind (Ev.of (utf_width _)) ?_)))))
      simp only [hbne]
      refine Ev.succ ?_
      simp only [cell_Right.j0]
      refine Ev.neg (by decide) (Ev.bind (Ev.of (look_f x y z)) (Ev.pos hl (Ev.pos (by omega) (Ev.pos (by omega) ?_))))
      rw [Int.toNat_natCast]
      refine Ev.bind (v := marksI 0 o) ?_ (Ev.bind (Ev.of (cell_in_f _ _ _)) (Ev.of ?_))
      ·unfold cell_marks.f; exact m1
      ·cases o with
       | none => rfl
       | some m => simp only [marksI, marksB, inB]; congr 1
     ·refine refYes _ hl (by omega) (by omega) (Ev.neg hne (Ev.bind hr' (Ev.pos rfl (Ev.neg (by omega) (Ev.bind (ref_width_ev _) ?_)))))
      simp only [hbne]
      refine Ev.succ ?_
      simp only [backseatref04_Right.j1]
      refine Ev.neg (by decide) (Ev.pos (by omega) (Ev.pos (by omega) ?_))
      rw [Int.toNat_natCast]
      exact m2
    ·refine ⟨false, prgNo ((Classical.em (1 ≤ wd ∧ wd ≤ 2)).elim (fun h => Or.inr (Or.inl fun e => hw ⟨h, e⟩)) Or.inl), ?_⟩
     by_cases h1 : wd < 0
     ·exact refNo (Or.inr (Or.inl h1))
     by_cases h2 : 2 < wd
     ·exact refNo (Or.inr (Or.inr h2))
     refine refYes _ hl h1 h2 (Ev.neg hne (Ev.bind hr' (Ev.pos rfl ?_)))
     by_cases h3 : wd = 0
     ·exact Ev.pos h3 (ref1 _ _ _)
     ·refine Ev.neg h3 (Ev.bind (ref_width_ev _) ?_)
      have : (widthP (decodeGo s).1 != wd) = true := bne_iff_ne.2 (fun e => hw ⟨by omega, e⟩)
      simp only [this]; exact ref1 _ _ _
   ·exact ⟨false, prgNo (Or.inr (Or.inr (Bool.eq_false_iff.2 hl))), refNo (Or.inl (Bool.eq_false_iff.2 hl))⟩
  ·rcases hF' with ⟨ok, rfl⟩ | ⟨_, hz'⟩
   ·exact absurd ok no
   refine ⟨false, ?_, ?_⟩
   ·unfold cell_Right.f
    exact Ev.neg hne (Ev.bind hr (Ev.neg hz (prg0 _)))
   ·by_cases hl : lookB x y z = true
    ·by_cases h1 : wd < 0
     ·exact refNo (Or.inr (Or.inl h1))
     by_cases h2 : 2 < wd
     ·exact refNo (Or.inr (Or.inr h2))
     exact refYes _ hl h1 h2 (Ev.neg hne (Ev.bind hr' (Ev.neg hz' (ref1 _ _ _))))
    ·exact refNo (Or.inl (Bool.eq_false_iff.2 hl))
abbrev CellT := S60
abbrev LineT := S38
theorem w64m (n : Nat) (h : 1 ≤ n) (h' : (n : Int) ≤ 9223372036854775806) : wrap64 ((n : Int) - 1) = ((n - 1 : Nat) : Int) := by
 rw [IntWalk.wrap64_in _ (by omega)]; omega
theorem whole_half (l : List CellT) (i : Nat) (h : i < l.length) (hl : (l.length : Int) ≤ 9223372036854775806) : ∃ b, grid_whole.f l i = some b ∧ backseatref06_half.f l i = some (!b) := by
 unfold grid_whole.f backseatref06_half.f
 have p0 : (0 : Int) ≤ (i : Int) := by omega
 have p1 : (i : Int) < (l.length : Int) := by omega
 rw [w64 i (by omega), if_pos p0, if_pos p1, if_pos p0, if_pos p1]
 by_cases h2 : (rd_T60 l i).f1 = 2
 ·rw [if_pos h2, if_pos h2]
  by_cases h3 : ((i + 1 : Nat) : Int) < (l.length : Int)
  ·rw [if_pos h3, if_pos (by omega), if_neg (by omega), if_pos (by omega), if_pos h3]
   exact ⟨_, rfl, by simp [bne]⟩
  ·rw [if_neg h3, if_pos (by omega)]; exact ⟨_, rfl, rfl⟩
 ·rw [if_neg h2, if_neg h2]
  by_cases h4 : (rd_T60 l i).f1 = 0
  ·rw [if_pos h4, if_pos h4]
   by_cases h5 : (i : Int) > 0
   ·have q0 : (0 : Int) ≤ ((i - 1 : Nat) : Int) := by omega
    have q1 : ((i - 1 : Nat) : Int) < (l.length : Int) := by omega
    rw [if_pos h5, if_neg (show ¬ (i : Int) = 0 by omega), w64m i (by omega) (by omega), if_pos q0, if_pos q1, if_pos q0, if_pos q1]
    exact ⟨_, rfl, by simp [bne]⟩
   ·rw [if_neg h5, if_pos (by omega)]; exact ⟨_, rfl, rfl⟩
  ·rw [if_neg h4, if_neg h4]; exact ⟨_, rfl, rfl⟩
def SmallC (l : List CellT) : Prop := (l.length : Int) ≤ 9223372036854775806 ∧ ∀ c ∈ l, (c.f0.size : Int) ≤ 9223372036854775806
theorem rd_mem {l : List CellT} {i : Nat} (h : i < l.length) : rd_T60 l i ∈ l := by
 have e : rd_T60 l i = l[i] := by unfold rd_T60; simp [List.getD_eq_getElem?_getD, h]
 rw [e]; exact List.getElem_mem h
theorem fits_loop (l : List CellT) (b0 : Bool) (n : Int) (hs : SmallC l) : ∀ m i, i + m = l.length → ∃ b, Ev (fun k => grid_Fits.l0 k n l (l.length : Int) (i : Nat) l b0) b ∧ Ev (fun k => backseatref06_Fits.l0 k n l (l.length : Int) (i : Nat) l b0) b
 | 0, i, hi => ⟨((l.length : Int) == n), Ev.succ (by simp only [grid_Fits.l0]; exact Ev.neg (by omega) (Ev.ret _)), Ev.succ (by simp only [backseatref06_Fits.l0]; exact Ev.neg (by omega) (Ev.ret _))⟩
 | m + 1, i, hi => by
  have hlt : i < l.length := by omega
  have hw := w64 i (by have := hs.1; omega)
  obtain ⟨b, hb1, hb2⟩ := fits_loop l b0 n hs m (i + 1) (by omega)
  obtain ⟨c, hc1, hc2⟩ := right_same (rd_T60 l i).f0 (rd_T60 l i).f1 (rd_T60 l i).f2.f0 (rd_T60 l i).f2.f1 (rd_T60 l i).f2.f2 (hs.2 _ (rd_mem hlt))
  obtain ⟨d, hd1, hd2⟩ := whole_half l i hlt hs.1
  cases c with
  | false =>
   refine ⟨false, Ev.succ ?_, Ev.succ ?_⟩
   ·simp only [grid_Fits.l0]; exact Ev.pos (by omega) (Ev.pos (by omega) (Ev.pos (by omega) (Ev.bind hc1 (Ev.neg (by decide) (Ev.ret _)))))
   ·simp only [backseatref06_Fits.l0]; exact Ev.pos (by omega) (Ev.pos (by omega) (Ev.pos (by omega) (Ev.bind hc2 (Ev.neg (by decide) (Ev.ret _)))))
  | true =>
   cases d with
   | false =>
    refine ⟨false, Ev.succ ?_, Ev.succ ?_⟩
    ·simp only [grid_Fits.l0]; exact Ev.pos (by omega) (Ev.pos (by omega) (Ev.pos (by omega) (Ev.bind hc1 (Ev.pos rfl (Ev.bind (Ev.of hd1) (Ev.neg (by decide) (Ev.ret _)))))))
    ·simp only [backseatref06_Fits.l0]; exact Ev.pos (by omega) (Ev.pos (by omega) (Ev.pos (by omega) (Ev.bind hc2 (Ev.pos rfl (Ev.bind (Ev.of hd2) (Ev.pos rfl (Ev.ret _)))))))
   | true =>
    refine ⟨b, Ev.succ ?_, Ev.succ ?_⟩
    ·simp only [grid_Fits.l0]; refine Ev.pos (by omega) (Ev.pos (by omega) (Ev.pos (by omega) (Ev.bind hc1 (Ev.pos rfl (Ev.bind (Ev.of hd1) (Ev.pos rfl ?_)))))); rw [hw]; exact hb1
    ·simp only [backseatref06_Fits.l0]; refine Ev.pos (by omega) (Ev.pos (by omega) (Ev.pos (by omega) (Ev.bind hc2 (Ev.pos rfl (Ev.bind (Ev.of hd2) (Ev.neg (by decide) ?_)))))); rw [hw]; exact hb2
theorem fits_same (l : List CellT) (b0 : Bool) (n : Int) (hs : SmallC l) : ∃ b, Ev (fun k => grid_Fits.f k l b0 n) b ∧ Ev (fun k => backseatref06_Fits.f k l b0 n) b := by
 have := fits_loop l b0 n hs l.length 0 (by omega)
 simpa [grid_Fits.f, backseatref06_Fits.f] using this
noncomputable def oddB (x : LineT) : Bool := open Classical in if h : ∃ b, Ev (fun k => back_odd.f k x.f0 x.f1) b then Classical.choose h else false
theorem odd_ev (x : LineT) (hs : SmallC x.f0) : Ev (fun k => back_odd.f k x.f0 x.f1) (oddB x) ∧
  (oddB x = false → ¬ (x.f0.length : Int) < 1 ∧ ¬ (x.f0.length : Int) > 80 ∧ Ev (fun k => backseatref06_Fits.f k x.f0 x.f1 (x.f0.length : Int)) true) ∧
  (oddB x = true → (x.f0.length : Int) < 1 ∨ (x.f0.length : Int) > 80 ∨ Ev (fun k => backseatref06_Fits.f k x.f0 x.f1 (x.f0.length : Int)) false) := by
 obtain ⟨b, h1, h2⟩ := fits_same x.f0 x.f1 (x.f0.length : Int) hs
 have key : ∃ o, Ev (fun k => back_odd.f k x.f0 x.f1) o ∧ (o = false → ¬ (x.f0.length : Int) < 1 ∧ ¬ (x.f0.length : Int) > 80 ∧ b = true) ∧ (o = true → (x.f0.length : Int) < 1 ∨ (x.f0.length : Int) > 80 ∨ b = false) := by
  unfold back_odd.f
  by_cases c1 : (x.f0.length : Int) < 1
  ·exact ⟨true, Ev.pos c1 (Ev.ret _), (fun h => by cases h), fun _ => Or.inl c1⟩
  by_cases c2 : (x.f0.length : Int) > 80
  ·exact ⟨true, Ev.neg c1 (Ev.pos c2 (Ev.ret _)), (fun h => by cases h), fun _ => Or.inr (Or.inl c2)⟩
  ·exact ⟨!b, Ev.neg c1 (Ev.neg c2 (Ev.bind h1 (Ev.ret _))), fun h => ⟨c1, c2, by simpa using h⟩, fun h => Or.inr (Or.inr (by simpa using h))⟩
 obtain ⟨o, k1, k2, k3⟩ := key
 have e : oddB x = o := by
  unfold oddB
  rw [dif_pos ⟨o, k1⟩]
  exact Ev.same (Classical.choose_spec (⟨o, k1⟩ : ∃ b, Ev (fun k => back_odd.f k x.f0 x.f1) b)) k1
 rw [e]
 refine ⟨k1, fun h => ⟨(k2 h).1, (k2 h).2.1, ?_⟩, fun h => ?_⟩
 ·rw [← (k2 h).2.2]; exact h2
 ·rcases k3 h with h | h | h
  ·exact Or.inl h
  ·exact Or.inr (Or.inl h)
  ·exact Or.inr (Or.inr (by rw [← h]; exact h2))
def SmallL (l : List LineT) : Prop := (l.length : Int) ≤ 1000000000000 ∧ ∀ x ∈ l, SmallC x.f0
theorem oddIn_ev : ∀ l : List LineT, (∀ x ∈ l, SmallC x.f0) → Ev (fun k => oddIn k l) (l.any oddB)
 | [], _ => Ev.ret _
 | x :: t, h => by
  unfold oddIn
  refine Ev.bind (odd_ev x (h x (by simp))).1 ?_
  cases hx : oddB x
  ·simp only [List.any_cons, hx, Bool.false_or]
   exact Ev.neg (by decide) (oddIn_ev t (fun y hy => h y (by simp [hy])))
  ·simp only [List.any_cons, hx, Bool.true_or]
   exact Ev.pos trivial (Ev.ret _)
theorem right_ev (p : List LineT) (hp : p.length ≤ 40) (h : ∀ x ∈ p, SmallC x.f0) : Ev (fun k => back_Right.f k 40 p) (!p.any oddB) := by
 unfold back_Right.f
 exact Ev.pos (by decide) (Ev.pos (by decide) (Ev.pos (by omega) (Ev.bind (oddIn_ev p h) (Ev.ret _))))
theorem ask_ev (l : List LineT) (h : ∀ x ∈ l, SmallC x.f0) : ∀ j, Ev (fun k => askN k l j) (!(l.take (40 * j)).any oddB)
 | 0 => by simp [askN]; exact Ev.ret _
 | j + 1 => by
  have e : l.take (40 * (j + 1)) = l.take (40 * j) ++ piece l j := by
   unfold piece; rw [show 40 * (j + 1) = 40 * j + 40 by omega, List.take_add]
  unfold askN
  refine Ev.bind (ask_ev l h j) (Ev.bind (right_ev (piece l j) (by unfold piece; rw [List.length_take]; omega) (fun x hx => h x (List.mem_of_mem_drop (List.mem_of_mem_take hx)))) ?_)
  rw [e, List.any_append, Bool.not_or]; exact Ev.ret _
theorem may_ev (l : List LineT) (hs : SmallL l) : Ev (fun k => flow_may.f k l) (!l.any oddB && decide (l.length ≤ 200)) := by
 unfold flow_may.f
 refine Ev.pos (by have := hs.1; omega) (Ev.bind (ask_ev l hs.2 (pieces l)) ?_)
 rw [List.take_of_length_le (by unfold pieces; omega)]
 exact Ev.ret _
theorem rd_line {l : List LineT} {i : Nat} (h : i < l.length) : rd_T38 l i = l[i] := by unfold rd_T38; simp [List.getD_eq_getElem?_getD, h]
theorem refmay_loop (l : List LineT) (hs : SmallL l) : ∀ m i, i + m = l.length → Ev (fun k => backseatref08_May.l0 k l l (l.length : Int) (i : Nat)) (!(l.drop i).any oddB && decide (l.length ≤ 200))
 | 0, i, hi => Ev.succ (by
  simp only [backseatref08_May.l0]
  rw [List.drop_eq_nil_of_le (by omega)]
  refine Ev.neg (by omega) ?_
  have e : decide ((l.length : Int) ≤ 200) = (!([] : List LineT).any oddB && decide (l.length ≤ 200)) := by
   rw [List.any_nil, Bool.not_false, Bool.true_and, decide_eq_decide]; omega
  rw [e]; exact Ev.ret _)
 | m + 1, i, hi => by
  have hlt : i < l.length := by omega
  have hw := w64 i (by have := hs.1; omega)
  have hr := refmay_loop l hs m (i + 1) (by omega)
  obtain ⟨h1, h2, h3⟩ := odd_ev l[i] (hs.2 _ (List.getElem_mem hlt))
  rw [List.drop_eq_getElem_cons hlt, List.any_cons]
  refine Ev.succ ?_
  simp only [backseatref08_May.l0]
  rw [rd_line hlt]
  refine Ev.pos (by omega) (Ev.pos (by omega) (Ev.pos (by omega) ?_))
  cases ho : oddB l[i]
  ·obtain ⟨c1, c2, c3⟩ := h2 ho
   rw [Bool.false_or]
   refine Ev.neg c1 (Ev.neg c2 (Ev.bind c3 (Ev.pos rfl ?_)))
   rw [hw]; exact hr
  ·rw [Bool.true_or, Bool.not_true, Bool.false_and]
   by_cases c1 : (l[i].f0.length : Int) < 1
   ·exact Ev.pos c1 (Ev.ret _)
   by_cases c2 : (l[i].f0.length : Int) > 80
   ·exact Ev.neg c1 (Ev.pos c2 (Ev.ret _))
   have c3 := (h3 ho).resolve_left c1 |>.resolve_left c2
   exact Ev.neg c1 (Ev.neg c2 (Ev.bind c3 (Ev.neg (by decide) (Ev.ret _))))
theorem refmay_ev (l : List LineT) (hs : SmallL l) : Ev (fun k => backseatref08_May.f k l) (!l.any oddB && decide (l.length ≤ 200)) := by
 have := refmay_loop l hs l.length 0 (by omega)
 simpa [backseatref08_May.f] using this
theorem size_list (s : ByteArray) : s.size = s.data.toList.length := by rw [Array.length_toList]; rfl
theorem app_list (a b : ByteArray) : (a ++ b).data.toList = a.data.toList ++ b.data.toList := by simp [ByteArray.data_append]
theorem eq_list {a : ByteArray} {l : List UInt8} (h : a.data.toList = l) : a = ⟨l.toArray⟩ := by
 obtain ⟨⟨x⟩⟩ := a
 subst h; rfl
theorem rd_cell {l : List CellT} {i : Nat} (h : i < l.length) : rd_T60 l i = l[i] := by unfold rd_T60; simp [List.getD_eq_getElem?_getD, h]
theorem say_loop (l : List CellT) (hl : (l.length : Int) ≤ 1000000000000) (hz : (sayL l).length ≤ 140737488355328) : ∀ m i (acc : ByteArray), i + m = l.length → acc.data.toList = sayL (l.take i) →
  Ev (fun k => backseatref08_Say.l0 k acc l (l.length : Int) (i : Nat)) ⟨(sayL l).toArray⟩
 | 0, i, acc, hi, ha => Ev.succ (by
  simp only [backseatref08_Say.l0]
  refine Ev.neg (by omega) ?_
  rw [List.take_of_length_le (by omega)] at ha
  rw [← eq_list ha]; exact Ev.ret _)
 | m + 1, i, acc, hi, ha => by
  have hlt : i < l.length := by omega
  have hw := w64 i (by omega)
  have ht : sayL (l.take (i + 1)) = sayL (l.take i) ++ sayC l[i] := by
   rw [List.take_succ_eq_append_getElem hlt, sayL_append]; simp [sayL]
  have hb : (sayL (l.take i)).length + (sayC l[i]).length ≤ 140737488355328 := by
   have e := congrArg (fun x => (sayL x).length) (List.take_append_drop (i + 1) l)
   simp only [sayL_append, List.length_append, ht] at e
   omega
  have hs : acc.size = (sayL (l.take i)).length := by rw [size_list, ha]
  have hc : l[i].f0.size ≤ (sayC l[i]).length := by rw [size_list]; unfold sayC; rw [List.length_append]; omega
  refine Ev.succ ?_
  simp only [backseatref08_Say.l0]
  rw [rd_cell hlt]
  refine Ev.pos (by omega) (Ev.pos (by omega) (Ev.pos (by omega) ?_))
  by_cases he : l[i].f0.toList = ([] : List UInt8)
  ·refine Ev.pos he ?_
   by_cases h1 : l[i].f1 = 1
   ·have hsc : sayC l[i] = l[i].f0.data.toList ++ [32] := by unfold sayC; rw [if_pos he, if_pos h1]
    have hz0 : l[i].f0.data.toList = [] := by rw [← ByteArray.toList_eq]; exact he
    have h2 := app_list acc (⟨#[32]⟩ : ByteArray)
    have h3 : (acc ++ (⟨#[32]⟩ : ByteArray)).size = acc.size + 1 := by rw [size_list, h2, size_list]; simp
    rw [hsc, List.length_append, ← size_list] at hb
    simp at hb
    refine Ev.pos h1 (Ev.pos (by omega) (Ev.pos (by omega) ?_))
    rw [hw]
    refine say_loop l hl hz m (i + 1) _ (by omega) ?_
    rw [app_list, h2, ht, hsc, ha, hz0]; simp
   ·have hsc : sayC l[i] = l[i].f0.data.toList := by unfold sayC; rw [if_pos he, if_neg h1, List.append_nil]
    refine Ev.neg h1 (Ev.pos (by omega) ?_)
    rw [hw]
    refine say_loop l hl hz m (i + 1) _ (by omega) ?_
    rw [app_list, ht, hsc, ha]
  ·have hsc : sayC l[i] = l[i].f0.data.toList := by unfold sayC; rw [if_neg he, List.append_nil]
   refine Ev.neg he (Ev.pos (by omega) ?_)
   rw [hw]
   refine say_loop l hl hz m (i + 1) _ (by omega) ?_
   rw [app_list, ht, hsc, ha]
theorem say_ev (l : List CellT) (hl : (l.length : Int) ≤ 1000000000000) (hz : (sayL l).length ≤ 140737488355328) : Ev (fun k => backseatref08_Say.f k l) ⟨(sayL l).toArray⟩ := by
 unfold backseatref08_Say.f
 exact say_loop l hl hz l.length 0 _ (by omega) rfl
def preB (t s : ByteArray) : Bool := if (t.size : Int) ≥ (s.size : Int) then ((t.extract 0 ((s.size : Int) : Int).toNat).toList == s.toList) else false
theorem pre_f (t s : ByteArray) : strings_HasPrefix.f t s = some (preB t s) := by
 unfold strings_HasPrefix.f stringslite_HasPrefix.f preB
 by_cases h : (t.size : Int) ≥ (s.size : Int)
 ·rw [if_pos h, if_pos h, if_pos (by omega), if_pos (by omega)]; rfl
 ·rw [if_neg h, if_neg h]; rfl
def textAt (l : List LineT) (p : Nat × Nat) : ByteArray := ⟨(sayL (cellsAt l p)).toArray⟩
def standB (l : List LineT) (s : ByteArray) (p : Nat × Nat) : Bool := if wideAt l p = 0 then false else preB (textAt l p) s
def behB (a b c d : Int) : Bool := if a > c then true else if a = c then decide (b > d) else false
theorem beh_f (a b c d : Int) : backseatref10_Behind.f a b c d = some (behB a b c d) := by
 unfold backseatref10_Behind.f behB
 split
 ·rfl
 ·split <;> rfl
structure FindOK (l : List LineT) : Prop where
 len : (l.length : Int) ≤ 1000000000000
 row : ∀ x ∈ l, (x.f0.length : Int) ≤ 1000000000000
 say : okL l = true
 wide : ∀ p : Nat × Nat, p.1 < l.length → p.2 < lenAt l p.1 → 0 ≤ wideAt l p
theorem say_le {l : List LineT} (h : okL l = true) (p : Nat × Nat) (hp : p.1 < l.length) : (sayL (cellsAt l p)).length ≤ 140737488355328 := by
 obtain ⟨t, ht⟩ := say_at h p hp
 unfold find_say.f at ht
 split at ht
 ·assumption
 ·cases ht
theorem say_is {l : List LineT} (h : okL l = true) (p : Nat × Nat) (hp : p.1 < l.length) : find_say.f (cellsAt l p) = some (textAt l p) := by
 unfold find_say.f; rw [if_pos (say_le h p hp)]; rfl
theorem lenAt_eq {l : List LineT} {r : Nat} (h : r < l.length) : lenAt l r = l[r].f0.length := by unfold lenAt; rw [rd_line h]
theorem wideAt_eq {l : List LineT} {p : Nat × Nat} (h : p.2 < lenAt l p.1) : wideAt l p = (rd_T60 (rd_T38 l p.1).f0 p.2).f1 := by
 unfold lenAt at h
 unfold wideAt cellsAt rd_T60
 simp [List.getD_eq_getElem?_getD]
theorem stands_ev {l : List LineT} (s : ByteArray) (H : FindOK l) (p : Nat × Nat) (h1 : p.1 < l.length) (h2 : p.2 < lenAt l p.1) : Ev (fun k => backseatref10_Stands.f k l s p.1 p.2) (standB l s p) := by
 have hr := H.row _ (List.getElem_mem h1)
 have hle := lenAt_eq h1
 have h2' : p.2 < (rd_T38 l p.1).f0.length := h2
 unfold backseatref10_Stands.f standB
 refine Ev.pos (by omega) (Ev.pos (by omega) (Ev.pos (by omega) (Ev.pos (by omega) ?_)))
 rw [← wideAt_eq h2]
 by_cases hw : wideAt l p = 0
 ·rw [if_pos hw]; exact Ev.pos hw (Ev.ret _)
 ·rw [if_neg hw]
  refine Ev.neg hw (Ev.pos (by omega) (Ev.bind (v := textAt l p) ?_ ?_))
  ·rw [Int.toNat_natCast]
   exact say_ev (cellsAt l p) (by unfold cellsAt; rw [List.length_drop, rd_line h1]; omega) (say_le H.say p h1)
  ·by_cases hp : ((textAt l p).size : Int) ≥ (s.size : Int)
   ·have e : preB (textAt l p) s = (((textAt l p).extract 0 ((s.size : Int) : Int).toNat).toList == s.toList) := by unfold preB; rw [if_pos hp]
    rw [e]; exact Ev.pos hp (Ev.pos (by omega) (Ev.pos (by omega) (Ev.ret _)))
   ·have e : preB (textAt l p) s = false := by unfold preB; rw [if_neg hp]
    rw [e]; exact Ev.neg hp (Ev.ret _)
def hitB (l : List LineT) (s : ByteArray) (row col : Int) (back : Bool) (p : Nat × Nat) : Bool :=
 (if back = true then behB row col p.1 p.2 else behB p.1 p.2 row col) && standB l s p
theorem hit_is {l : List LineT} (s : ByteArray) (H : FindOK l) (row col : Int) (back : Bool) (p : Nat × Nat) (h1 : p.1 < l.length) (h2 : p.2 < lenAt l p.1) : hitO l s row col (sideB back) p = some (hitB l s row col back p) := by
 have hw := H.wide p h1 h2
 unfold hitO hitB standB
 rw [say_is H.say p h1, Option.bind_some, pre_f]
 have e : (orI (cmpI p.1 row) (cmpI p.2 col) = sideB back) ↔ (if back = true then behB row col p.1 p.2 else behB p.1 p.2 row col) = true := by
  unfold orI cmpI sideB behB
  cases back <;> simp <;> repeat' split
  all_goals (simp <;> omega)
 by_cases hc : orI (cmpI p.1 row) (cmpI p.2 col) = sideB back
 ·rw [if_pos hc, e.1 hc, Bool.true_and]
  by_cases h0 : 0 < wideAt l p
  ·rw [if_pos h0, if_neg (by omega)]
  ·rw [if_neg h0, if_pos (by omega)]
 ·have : (if back = true then behB row col p.1 p.2 else behB p.1 p.2 row col) = false := Bool.eq_false_iff.2 (fun h => hc (e.2 h))
  rw [if_neg hc, this, Bool.false_and]
theorem seek_find {l : List LineT} (s : ByteArray) (H : FindOK l) (row col : Int) (back : Bool) : ∀ ps : List (Nat × Nat), (∀ p ∈ ps, p.1 < l.length ∧ p.2 < lenAt l p.1) →
  seekO l s row col (sideB back) ps = some (match ps.find? (hitB l s row col back) with | some p => ((p.1 : Int), (p.2 : Int), (0 : Int)) | none => (0, 0, 5))
 | [], _ => rfl
 | p :: t, h => by
  obtain ⟨a, b⟩ := h p (by simp)
  unfold seekO
  rw [hit_is s H row col back p a b, Option.bind_some, List.find?_cons]
  cases hb : hitB l s row col back p
  ·rw [if_neg (by decide)]; exact seek_find s H row col back t (fun q hq => h q (by simp [hq]))
  ·rfl
def stepR (l : List LineT) (s : ByteArray) (row col : Int) (back : Bool) (p : Int × Int) (q : Nat × Nat) : Int × Int :=
 if (back = true ∨ p.1 < 0) ∧ hitB l s row col back q = true then ((q.1 : Int), (q.2 : Int)) else p
theorem cols_ev {l : List LineT} (s : ByteArray) (H : FindOK l) (row col : Int) (back : Bool) (r : Nat) (hr : r < l.length) (v : Int × Int) : ∀ m c (p : Int × Int), c + m = lenAt l r →
  Ev (fun k => backseatref10_Find.l0 k l s row col back ((r + 1 : Nat) : Int) (((List.range' c m).map fun c => (r, c)).foldl (stepR l s row col back) p).1 (((List.range' c m).map fun c => (r, c)).foldl (stepR l s row col back) p).2) v →
  Ev (fun k => backseatref10_Find.l1 k l s row col back (r : Nat) (c : Nat) p.1 p.2) v
 | 0, c, p, hc, h => by
  have hw := w64 r (by have := H.len; omega)
  have hx : ¬ (c : Int) < ((rd_T38 l r).f0.length : Int) := by have : lenAt l r = (rd_T38 l r).f0.length := rfl; omega
  refine Ev.succ ?_
  simp only [backseatref10_Find.l1]
  refine Ev.pos (by omega) (Ev.pos (by omega) (Ev.neg hx ?_))
  rw [hw]; exact h
 | m + 1, c, p, hc, h => by
  have hlt : c < lenAt l r := by omega
  have hrow := H.row _ (List.getElem_mem hr)
  have hle := lenAt_eq hr
  have hw := w64 c (by omega)
  have hx : (c : Int) < ((rd_T38 l r).f0.length : Int) := by have : lenAt l r = (rd_T38 l r).f0.length := rfl; omega
  have hst := stands_ev s H (r, c) hr hlt
  have ih := cols_ev s H row col back r hr v m (c + 1) (stepR l s row col back p (r, c)) (by omega) h
  refine Ev.succ ?_
  simp only [backseatref10_Find.l1]
  refine Ev.pos (by omega) (Ev.pos (by omega) (Ev.pos hx (Ev.bind hst ?_)))
  cases hs : standB l s (r, c)
  ·refine Ev.neg (by decide) ?_
   have e : stepR l s row col back p (r, c) = p := by unfold stepR hitB; rw [hs, Bool.and_false, if_neg (by simp)]
   rw [hw]; rw [e] at ih; exact ih
  ·refine Ev.pos rfl ?_
   cases back with
   | true =>
    refine Ev.pos rfl (Ev.bind (Ev.of (beh_f _ _ _ _)) (Ev.succ ?_))
    simp only [backseatref10_Find.j2]
    cases hb : behB row col (r : Nat) (c : Nat)
    ·have e : stepR l s row col true p (r, c) = p := by unfold stepR hitB; simp [hb]
     refine Ev.neg (by decide) (Ev.pos trivial ?_)
     rw [hw]; rw [e] at ih; exact ih
    ·have e : stepR l s row col true p (r, c) = ((r : Int), (c : Int)) := by unfold stepR hitB; simp [hb, hs]
     refine Ev.pos rfl (Ev.pos trivial ?_)
     rw [hw]; rw [e] at ih; exact ih
   | false =>
    refine Ev.neg (by decide) (Ev.succ ?_)
    simp only [backseatref10_Find.j2]
    refine Ev.neg (by decide) (Ev.neg (by decide) ?_)
    by_cases hp : p.1 < 0
    ·refine Ev.pos hp (Ev.bind (Ev.of (beh_f _ _ _ _)) ?_)
     cases hb : behB (r : Nat) (c : Nat) row col
     ·have e : stepR l s row col false p (r, c) = p := by unfold stepR hitB; simp [hb]
      refine Ev.neg (by decide) ?_
      rw [hw]; rw [e] at ih; exact ih
     ·have e : stepR l s row col false p (r, c) = ((r : Int), (c : Int)) := by unfold stepR hitB; simp [hb, hs, hp]
      refine Ev.pos rfl ?_
      rw [hw]; rw [e] at ih; exact ih
    ·have e : stepR l s row col false p (r, c) = p := by unfold stepR; rw [if_neg (by simp [hp])]
     refine Ev.neg hp ?_
     rw [hw]; rw [e] at ih; exact ih
def restP (l : List LineT) (r n : Nat) : List (Nat × Nat) := (List.range' r n).flatMap fun r => (List.range' 0 (lenAt l r)).map fun c => (r, c)
theorem rows_ev {l : List LineT} (s : ByteArray) (H : FindOK l) (row col : Int) (back : Bool) : ∀ n r (p : Int × Int), r + n = l.length →
  Ev (fun k => backseatref10_Find.l0 k l s row col back (r : Nat) p.1 p.2) ((restP l r n).foldl (stepR l s row col back) p)
 | 0, r, p, hr => Ev.succ (by simp only [backseatref10_Find.l0]; exact Ev.neg (by omega) (Ev.ret _))
 | n + 1, r, p, hr => by
  refine Ev.succ ?_
  simp only [backseatref10_Find.l0]
  refine Ev.pos (by omega) ?_
  have ih := rows_ev s H row col back n (r + 1) (((List.range' 0 (lenAt l r)).map fun c => (r, c)).foldl (stepR l s row col back) p) (by omega)
  have e : restP l r (n + 1) = ((List.range' 0 (lenAt l r)).map fun c => (r, c)) ++ restP l (r + 1) n := by
   unfold restP; rw [List.range'_succ, List.flatMap_cons]
  rw [e, List.foldl_append]
  exact cols_ev s H row col back r (by omega) _ (lenAt l r) 0 p (by omega) ih
theorem plc_false (l : List LineT) : plc l false = restP l 0 l.length := by
 unfold plc restP
 rw [List.range_eq_range']
 congr 1
 funext i
 unfold plcRow atB
 rw [List.range_eq_range']; rfl
theorem rev_range (n : Nat) : (List.range n).reverse = (List.range n).map fun i => n - 1 - i := by
 refine List.ext_getElem (by simp) (fun i h1 h2 => ?_)
 simp at h1 ⊢
theorem plc_true (l : List LineT) : plc l true = (plc l false).reverse := by
 unfold plc
 rw [List.reverse_flatMap, rev_range, List.flatMap_map]
 congr 1
 funext i
 unfold plcRow atB
 simp only [Function.comp, if_true, Bool.false_eq_true, if_false]
 rw [← List.map_reverse, rev_range, List.map_map]; rfl
theorem plc_mem {l : List LineT} {back : Bool} {p : Nat × Nat} (h : p ∈ plc l back) : p.1 < l.length ∧ p.2 < lenAt l p.1 := by
 unfold plc at h
 obtain ⟨i, hi, h⟩ := List.mem_flatMap.1 h
 unfold plcRow at h
 obtain ⟨k, hk, rfl⟩ := List.mem_map.1 h
 exact ⟨atB_lt (List.mem_range.1 hi), atB_lt (List.mem_range.1 hk)⟩
theorem fold_false (l : List LineT) (s : ByteArray) (row col : Int) : ∀ (ps : List (Nat × Nat)) (p : Int × Int),
  ps.foldl (stepR l s row col false) p = if p.1 < 0 then (match ps.find? (hitB l s row col false) with | some q => ((q.1 : Int), (q.2 : Int)) | none => p) else p
 | [], p => by simp
 | q :: t, p => by
  rw [List.foldl_cons, fold_false l s row col t, List.find?_cons]
  by_cases hp : p.1 < 0
  ·cases hq : hitB l s row col false q
   ·have e : stepR l s row col false p q = p := by unfold stepR; simp [hq]
    rw [e]
   ·have e : stepR l s row col false p q = ((q.1 : Int), (q.2 : Int)) := by unfold stepR; simp [hq, hp]
    rw [e, if_neg (by simp only; omega), if_pos hp]
  ·have e : stepR l s row col false p q = p := by unfold stepR; simp [hp]
   rw [e, if_neg hp, if_neg hp]
theorem fold_true (l : List LineT) (s : ByteArray) (row col : Int) : ∀ (ps : List (Nat × Nat)) (p : Int × Int),
  ps.foldl (stepR l s row col true) p = match ps.reverse.find? (hitB l s row col true) with | some q => ((q.1 : Int), (q.2 : Int)) | none => p
 | [], p => by simp
 | q :: t, p => by
  rw [List.foldl_cons, fold_true l s row col t, List.reverse_cons, List.find?_append]
  cases hf : t.reverse.find? (hitB l s row col true) with
  | some x => simp
  | none =>
   cases hq : hitB l s row col true q
   ·simp [stepR, hq]
   ·simp [stepR, hq]
def foundR (l : List LineT) (s : ByteArray) (row col : Int) (back : Bool) : Int × Int :=
 match (plc l back).find? (hitB l s row col back) with | some q => ((q.1 : Int), (q.2 : Int)) | none => (-1, 0)
theorem ref_find_ev {l : List LineT} (s : ByteArray) (H : FindOK l) (row col : Int) (back : Bool) : Ev (fun k => backseatref10_Find.f k l s row col back) (foundR l s row col back) := by
 have h := rows_ev s H row col back l.length 0 (-1, 0) (by omega)
 rw [← plc_false] at h
 unfold backseatref10_Find.f foundR
 cases back with
 | false => rw [fold_false, if_pos (by decide)] at h; exact h
 | true => rw [fold_true, ← plc_true] at h; exact h
theorem seek_is {l : List LineT} (s : ByteArray) (H : FindOK l) (row col : Int) (back : Bool) : seekO l s row col (sideB back) (plc l back) = some (if (foundR l s row col back).1 < 0 then (0, 0, 5) else ((foundR l s row col back).1, (foundR l s row col back).2, 0)) := by
 rw [seek_find s H row col back _ (fun p hp => plc_mem hp)]
 unfold foundR
 cases (plc l back).find? (hitB l s row col back) with
 | none => rfl
 | some q => simp only; rw [if_neg (by omega)]
def EvP {α : Type} (f : Nat → Option α) (P : α → Prop) : Prop := ∃ v, P v ∧ Ev f v
section
variable {α β : Type} {f g : Nat → Option α} {P : α → Prop}
theorem EvP.ite {c : Prop} [Decidable c] (hf : c → EvP f P) (hg : ¬ c → EvP g P) : EvP (fun k => if c then f k else g k) P := by
 by_cases h : c
 ·obtain ⟨v, a, b⟩ := hf h; exact ⟨v, a, Ev.pos h b⟩
 ·obtain ⟨v, a, b⟩ := hg h; exact ⟨v, a, Ev.neg h b⟩
theorem EvP.succ (h : EvP (fun k => f (k + 1)) P) : EvP f P := let ⟨v, a, b⟩ := h; ⟨v, a, Ev.succ b⟩
theorem EvP.ret {v : α} (h : P v) : EvP (fun _ => some v) P := ⟨v, h, Ev.ret v⟩
theorem EvP.bind {e : Nat → Option β} {Q : β → Prop} {g : Nat → β → Option α} (h : EvP e Q) (hg : ∀ v, Q v → EvP (fun k => g k v) P) : EvP (fun k => (e k).bind (g k)) P := by
 obtain ⟨v, a, b⟩ := h
 obtain ⟨u, c, d⟩ := hg v a
 exact ⟨u, c, Ev.bind b d⟩
end
theorem none_some : ∃ v, flow_none.f = some v := ⟨_, rfl⟩
theorem trimmed_ev (n : Nat) : ∀ (l : List CellT), l.length = n → (n : Int) ≤ 1000000000000 → EvP (fun k => flow_trimmed.l0 k l) (fun _ => True) := by
 induction n with
 | zero => exact fun l h _ => EvP.succ (by simp only [flow_trimmed.l0]; exact EvP.ite (fun h' => by omega) (fun _ => EvP.ret trivial))
 | succ n ih0 =>
  intro l h hn
  have hw := w64m l.length (by omega) (by omega)
  have ih := ih0 (l.take n) (by rw [List.length_take]; omega) (by omega)
  obtain ⟨nv, hnv⟩ := none_some
  refine EvP.succ ?_
  simp only [flow_trimmed.l0, hw, hnv, Option.bind_some]
  refine EvP.ite (fun _ => EvP.ite (fun _ => EvP.ite (fun _ => ?_) (fun h' => by omega)) (fun h' => by omega)) (fun _ => EvP.ret trivial)
  refine EvP.ite (fun _ => EvP.ite (fun _ => ?_) (fun h' => by omega)) (fun _ => EvP.ret trivial)
  rw [Int.toNat_natCast, show l.length - 1 = n by omega]
  exact ih
theorem join_loop (l : List LineT) (hl : l.length ≤ 1000) (hx : ∀ x ∈ l, x.f0.length ≤ 1000) : ∀ m i (acc : List (List CellT)) (cur : List CellT), i + m = l.length → acc.length ≤ i → cur.length ≤ 1000 * i →
  EvP (fun k => flow_Join.l0 k l acc cur l (l.length : Int) (i : Nat)) (fun v => v.2 = 0)
 | 0, i, acc, cur, hi, ha, hc => EvP.succ (by simp only [flow_Join.l0]; exact EvP.ite (fun h' => by omega) (fun _ => EvP.ret rfl))
 | m + 1, i, acc, cur, hi, ha, hc => by
  have hlt : i < l.length := by omega
  have hw := w64 i (by omega)
  have hrow := hx _ (List.getElem_mem hlt)
  have htr : EvP (fun k => flow_trimmed.f k (cur ++ l[i].f0)) (fun _ => True) := by
   unfold flow_trimmed.f
   exact trimmed_ev _ _ rfl (by rw [List.length_append]; omega)
  refine EvP.succ ?_
  simp only [flow_Join.l0]
  rw [rd_line hlt, hw]
  refine EvP.ite (fun _ => EvP.ite (fun _ => EvP.ite (fun _ => EvP.ite (fun _ => ?_) (fun h' => by omega)) (fun h' => by omega)) (fun h' => by omega)) (fun h' => by omega)
  refine EvP.bind (e := fun _ => some (cur ++ l[i].f0)) (Q := fun v => v = cur ++ l[i].f0) ⟨_, rfl, Ev.ret _⟩ (fun v hv => ?_)
  subst hv
  have hput : EvP (fun k => (flow_trimmed.f k (cur ++ l[i].f0)).bind fun t => if acc.length < 5864062014805 then flow_Join.l0 k l (acc ++ [t]) ([] : List CellT) l (l.length : Int) ((i + 1 : Nat) : Int) else none) (fun v => v.2 = 0) :=
   EvP.bind htr fun t _ => EvP.ite (fun _ => join_loop l hl hx m (i + 1) _ _ (by omega) (by rw [List.length_append]; simp; omega) (by simp)) (fun h' => by omega)
  exact EvP.ite (fun _ => EvP.ite (fun _ => hput) (fun _ => join_loop l hl hx m (i + 1) acc _ (by omega) (by omega) (by rw [List.length_append]; omega))) (fun _ => hput)
theorem findmay_ev (l : List LineT) (hs : SmallL l) (hl : l.length ≤ 1000) (hx : ∀ x ∈ l, x.f0.length ≤ 1000) : Ev (fun k => find_may.f k l) (!l.any oddB && decide (l.length ≤ 200)) := by
 unfold find_may.f flow_Join.f
 have hm := may_ev l hs
 cases hb : (!l.any oddB && decide (l.length ≤ 200))
 ·rw [hb] at hm
  exact Ev.bind (v := (([] : List (List CellT)), (1 : Int))) (Ev.bind hm (Ev.neg (by decide) (Ev.ret _))) (Ev.ret _)
 ·rw [hb] at hm
  obtain ⟨⟨v, e⟩, h0, hv⟩ := join_loop l hl hx l.length 0 [] [] (by omega) (by simp) (by simp)
  simp only at h0
  subst h0
  exact Ev.bind (v := (v, (0 : Int))) (Ev.bind hm (Ev.pos rfl hv)) (Ev.ret _)
def TinyC (l : List CellT) : Prop := ∀ c ∈ l, c.f0.size ≤ 20
def Tiny (l : List LineT) : Prop := ∀ x ∈ l, x.f0.length ≤ 82 ∧ TinyC x.f0
theorem mn_facts (a : Nat) (b : Int) (hb : 0 ≤ b := by decide) : 0 ≤ mn (a : Int) b ∧ mn (a : Int) b ≤ (a : Int) ∧ mn (a : Int) b ≤ b := by
 unfold mn; split <;> omega
theorem ext_le (s : ByteArray) (i : Int) (h : i ≤ 20) : (s.extract 0 i.toNat).size ≤ 20 := by
 simp [ByteArray.size_extract]; omega
theorem few1 {P : List LineT → Prop} (out : List LineT) (y : List LineT) (n i : Int) (cells : List CellT) (soft : Bool) (hout : out.length ≤ 1000) (hcl : cells.length ≤ 82)
  (hnext : ∀ acc : List CellT, acc.length ≤ 82 → TinyC acc → EvP (fun k => backseatlaw10_few.l0 k (out ++ [⟨acc, soft⟩]) y n (wrap64 (i + 1))) P) (m : Nat) : ∀ (j : Nat) (acc : List CellT), j + m = cells.length → acc.length ≤ j → TinyC acc →
  EvP (fun k => backseatlaw10_few.l1 k out y n i cells (cells.length : Int) (j : Nat) acc soft) P := by
 induction m with
 | zero =>
  intro j acc hj ha ht
  refine EvP.succ ?_
  simp only [backseatlaw10_few.l1]
  exact EvP.ite (fun h' => by omega) (fun _ => EvP.ite (fun _ => hnext acc (by omega) ht) (fun h' => by omega))
 | succ m ih =>
  intro j acc hj ha ht
  have hw := w64 j (by omega)
  obtain ⟨m1, m2, m3⟩ := mn_facts (rd_T60 cells (j : Nat)).f0.size 20
  refine EvP.succ ?_
  simp only [backseatlaw10_few.l1, hw]
  refine EvP.ite (fun _ => EvP.ite (fun _ => EvP.ite (fun _ => EvP.ite (fun _ => EvP.ite (fun _ => EvP.ite (fun _ => ?_) (fun h' => by omega)) (fun h' => h' m2 |>.elim)) (fun h' => h' m1 |>.elim)) (fun h' => by omega)) (fun h' => by omega)) (fun h' => by omega)
  refine ih (j + 1) _ (by omega) (by rw [List.length_append]; simp; omega) ?_
  intro c hc
  rcases List.mem_append.1 hc with hc | hc
  ·exact ht c hc
  ·rw [List.mem_singleton.1 hc]; exact ext_le _ _ m3
theorem few0 (y : List LineT) (hy : y.length ≤ 30) (m : Nat) : ∀ (i : Nat) (out : List LineT), i + m = y.length → out.length ≤ i → Tiny out →
  EvP (fun k => backseatlaw10_few.l0 k out y (y.length : Int) (i : Nat)) (fun L => L.length ≤ 30 ∧ Tiny L) := by
 induction m with
 | zero =>
  intro i out hi ho ht
  refine EvP.succ ?_
  simp only [backseatlaw10_few.l0]
  exact EvP.ite (fun h' => by omega) (fun _ => EvP.ret ⟨by omega, ht⟩)
 | succ m ih =>
  intro i out hi ho ht
  have hw := w64 i (by omega)
  obtain ⟨m1, m2, m3⟩ := mn_facts (rd_T38 y (i : Nat)).f0.length 82
  refine EvP.succ ?_
  simp only [backseatlaw10_few.l0]
  refine EvP.ite (fun _ => EvP.ite (fun _ => EvP.ite (fun _ => EvP.ite (fun _ => EvP.ite (fun _ => ?_) (fun h' => h' m2 |>.elim)) (fun h' => h' m1 |>.elim)) (fun h' => by omega)) (fun h' => by omega)) (fun h' => by omega)
  refine EvP.bind (e := fun _ => some _) (Q := fun v => v = (rd_T38 y (i : Nat)).f0.take (mn ((rd_T38 y (i : Nat)).f0.length : Int) 82).toNat) ⟨_, rfl, Ev.ret _⟩ (fun v hv => ?_)
  have hvl : v.length ≤ 82 := by rw [hv, List.length_take]; omega
  exact few1 out y _ _ v _ (by omega) hvl (fun acc ha hta => by
   rw [hw]
   refine ih (i + 1) _ (by omega) (by rw [List.length_append]; simp; omega) ?_
   intro x hx
   rcases List.mem_append.1 hx with hx | hx
   ·exact ht x hx
   ·rw [List.mem_singleton.1 hx]; exact ⟨ha, hta⟩) v.length 0 [] (by omega) (by simp) (fun c hc => by cases hc)
theorem few_ev (l : List LineT) (hl : (l.length : Int) ≤ 9223372036854775807) : EvP (fun k => backseatlaw10_few.f k l) (fun L => L.length ≤ 30 ∧ Tiny L) := by
 obtain ⟨m1, m2, m3⟩ := mn_facts l.length 30
 unfold backseatlaw10_few.f
 refine EvP.ite (fun _ => EvP.ite (fun _ => ?_) (fun h' => h' m2 |>.elim)) (fun h' => h' m1 |>.elim)
 refine EvP.bind (e := fun _ => some _) (Q := fun v => v = l.take (mn (l.length : Int) 30).toNat) ⟨_, rfl, Ev.ret _⟩ (fun v hv => ?_)
 exact few0 v (by rw [hv, List.length_take]; omega) v.length 0 [] (by omega) (by simp) (fun x hx => by cases hx)
theorem tiny_small {l : List LineT} (h : l.length ≤ 30) (ht : Tiny l) : SmallL l := by
 refine ⟨by omega, fun x hx => ⟨by have := (ht x hx).1; omega, fun c hc => by have := (ht x hx).2 c hc; omega⟩⟩
theorem sayL_len : ∀ (l : List CellT), TinyC l → (sayL l).length ≤ 21 * l.length
 | [], _ => by simp [sayL]
 | c :: t, h => by
  have h1 := h c (by simp)
  have h2 := sayL_len t (fun x hx => h x (by simp [hx]))
  have h3 : (sayC c).length ≤ 21 := by
   unfold sayC
   have h4 : (if c.f0.toList = ([] : List UInt8) then if c.f1 = 1 then ([32] : List UInt8) else [] else []).length ≤ 1 := by
    split <;> (try split) <;> simp
   rw [List.length_append, ← size_list]
   omega
  simp only [sayL, List.length_append, List.length_cons]; omega
theorem tiny_ok {l : List LineT} (ht : Tiny l) : okL l = true := by
 unfold okL
 rw [List.all_eq_true]
 intro x hx
 have h1 := sayL_len x.f0 (ht x hx).2
 have h2 := (ht x hx).1
 exact decide_eq_true (by omega)
theorem right_wide {s : ByteArray} {wd x y z : Int} (h : Ev (fun k => backseatref04_Right.f k s wd x y z) true) : 0 ≤ wd := by
 by_cases h1 : wd < 0
 ·have : Ev (fun k => backseatref04_Right.f k s wd x y z) false := by
   have ref0 : Ev (fun k => backseatref04_Right.j0 k true s wd x y z) false := Ev.succ (by simp only [backseatref04_Right.j0]; exact Ev.pos trivial (Ev.ret _))
   unfold backseatref04_Right.f
   refine Ev.bind (Ev.of (ref_look_f x y z)) ?_
   by_cases hl : lookB x y z = true
   ·exact Ev.pos hl (Ev.pos h1 ref0)
   ·exact Ev.neg hl ref0
  exact absurd (Ev.same h this) (by decide)
 ·omega
theorem fits_wide (l : List CellT) (b0 : Bool) (n : Int) (hs : SmallC l) : ∀ m i, i + m = l.length → Ev (fun k => backseatref06_Fits.l0 k n l (l.length : Int) (i : Nat) l b0) true → ∀ j, i ≤ j → j < l.length → 0 ≤ (rd_T60 l (j : Nat)).f1
 | 0, i, hi, _, j, h1, h2 => by omega
 | m + 1, i, hi, h, j, h1, h2 => by
  have hlt : i < l.length := by omega
  have hw := w64 i (by have := hs.1; omega)
  obtain ⟨b, _, hb2⟩ := fits_loop l b0 n hs m (i + 1) (by omega)
  obtain ⟨c, _, hc2⟩ := right_same (rd_T60 l i).f0 (rd_T60 l i).f1 (rd_T60 l i).f2.f0 (rd_T60 l i).f2.f1 (rd_T60 l i).f2.f2 (hs.2 _ (rd_mem hlt))
  obtain ⟨d, _, hd2⟩ := whole_half l i hlt hs.1
  cases c with
  | false =>
   have : Ev (fun k => backseatref06_Fits.l0 k n l (l.length : Int) (i : Nat) l b0) false := Ev.succ (by
    simp only [backseatref06_Fits.l0]; exact Ev.pos (by omega) (Ev.pos (by omega) (Ev.pos (by omega) (Ev.bind hc2 (Ev.neg (by decide) (Ev.ret _))))))
   exact absurd (Ev.same h this) (by decide)
  | true =>
   cases d with
   | false =>
    have : Ev (fun k => backseatref06_Fits.l0 k n l (l.length : Int) (i : Nat) l b0) false := Ev.succ (by
     simp only [backseatref06_Fits.l0]; exact Ev.pos (by omega) (Ev.pos (by omega) (Ev.pos (by omega) (Ev.bind hc2 (Ev.pos rfl (Ev.bind (Ev.of hd2) (Ev.pos rfl (Ev.ret _))))))))
    exact absurd (Ev.same h this) (by decide)
   | true =>
    have : Ev (fun k => backseatref06_Fits.l0 k n l (l.length : Int) (i : Nat) l b0) b := Ev.succ (by
     simp only [backseatref06_Fits.l0]; refine Ev.pos (by omega) (Ev.pos (by omega) (Ev.pos (by omega) (Ev.bind hc2 (Ev.pos rfl (Ev.bind (Ev.of hd2) (Ev.neg (by decide) ?_)))))); rw [hw]; exact hb2)
    have e := Ev.same h this
    subst e
    by_cases hj : j = i
    ·subst hj; exact right_wide hc2
    ·exact fits_wide l b0 n hs m (i + 1) (by omega) hb2 j (by omega) h2
theorem find_ok {l : List LineT} (h : l.length ≤ 30) (ht : Tiny l) (hm : (!l.any oddB && decide (l.length ≤ 200)) = true) : FindOK l := by
 have hs := tiny_small h ht
 refine ⟨by omega, fun x hx => by have := (ht x hx).1; omega, tiny_ok ht, fun p h1 h2 => ?_⟩
 rw [wideAt_eq h2, rd_line h1]
 have hodd : oddB l[p.1] = false := by
  rw [Bool.and_eq_true, Bool.not_eq_true', List.any_eq_false] at hm
  exact Bool.eq_false_iff.2 (hm.1 _ (List.getElem_mem h1))
 obtain ⟨_, ho, _⟩ := odd_ev l[p.1] (hs.2 _ (List.getElem_mem h1))
 have hf := (ho hodd).2.2
 unfold backseatref06_Fits.f at hf
 exact fits_wide _ _ _ (hs.2 _ (List.getElem_mem h1)) l[p.1].f0.length 0 (by omega) hf p.2 (Nat.zero_le _) (by rw [lenAt_eq h1] at h2; exact h2)
end Go.Proofs.YtckkdaehmccjlaaDoor.P
namespace Go.Proofs.YtckkdaehmccjlaaDoor.P
open Go.RowKit Go.Proofs.YtckkdaehmccjlaaDoorW.PrintWords Go.Proofs.YtckkdaehmccjlaaDoorW.PrintLast Go.Proofs.YtckkdaehmccjlaaDoorW.PrintMore
theorem alive_k (k : Nat) : backseatlaw10_alive.f (k + 20) = some true := by kernel_rfl
theorem alive_ev : Ev (fun k => backseatlaw10_alive.f k) true := ⟨20, fun k hk => by
 obtain ⟨j, rfl⟩ : ∃ j, k = j + 20 := ⟨k - 20, by omega⟩
 exact alive_k j⟩
end Go.Proofs.YtckkdaehmccjlaaDoor.P
namespace Go.Proofs.YtckkdaehmccjlaaDoor.P
open Go.RowKit Go.Proofs.YtckkdaehmccjlaaDoorW.PrintWords Go.Proofs.YtckkdaehmccjlaaDoorW.PrintLast Go.Proofs.YtckkdaehmccjlaaDoorW.PrintMore
set_option linter.unusedVariables false
set_option linter.unusedSimpArgs false
theorem there_some (l : List LineT) (a b : Int) : ∃ t, find_there.f l a b = some t ∧ backseatref10_There.f l a b = some t := by
 have e : backseatref10_There.f l a b = find_there.f l a b := rfl
 rw [e]
 unfold find_there.f
 by_cases h1 : a ≥ 0
 ·rw [if_pos h1]
  by_cases h2 : a < (l.length : Int)
  ·rw [if_pos h2]
   by_cases h3 : b ≥ 0
   ·rw [if_pos h3, if_pos (show 0 ≤ a from h1)]; exact ⟨_, rfl, rfl⟩
   ·rw [if_neg h3]; exact ⟨_, rfl, rfl⟩
  ·rw [if_neg h2]; exact ⟨_, rfl, rfl⟩
 ·rw [if_neg h1]; exact ⟨_, rfl, rfl⟩
theorem looks_refused (l : List LineT) (s : ByteArray) (a2 a3 : Int) (a4 : Bool) : Ev (fun k => backseatlaw10_FindLooks.j0 k l s a2 a3 a4 0 0 1 true) true := Ev.succ (by
 simp only [backseatlaw10_FindLooks.j0]
 exact Ev.pos trivial (Ev.bind alive_ev (Ev.pos rfl (Ev.pos trivial (Ev.pos trivial (Ev.of rfl))))))
theorem looks_found (l : List LineT) (s : ByteArray) (a2 a3 : Int) (a4 : Bool) (p : Int × Int) (hp : Ev (fun k => backseatref10_Find.f k l s a2 a3 a4) p) (r : Int × Int × Int) (hr : r = if p.1 < 0 then (0, 0, 5) else (p.1, p.2, 0)) : Ev (fun k => backseatlaw10_FindLooks.j0 k l s a2 a3 a4 r.1 r.2.1 r.2.2 false) true := Ev.succ (by
 simp only [backseatlaw10_FindLooks.j0]
 refine Ev.neg (by decide) (Ev.bind hp ?_)
 by_cases h : p.1 < 0
 ·rw [if_pos h] at hr
  subst hr
  exact Ev.pos h (Ev.bind alive_ev (Ev.pos rfl (Ev.pos rfl (Ev.pos rfl (Ev.of rfl)))))
 ·rw [if_neg h] at hr
  subst hr
  exact Ev.neg h (Ev.bind alive_ev (Ev.pos rfl (Ev.pos rfl (Ev.pos rfl (Ev.of (by simp)))))))
theorem findLooks_pure (l0 : List S38) (a1 : ByteArray) (a2 a3 : Int) (a4 : Bool) (h2 : -9223372036854775808 ≤ a2 ∧ a2 ≤ 9223372036854775807) (h3 : -9223372036854775808 ≤ a3 ∧ a3 ≤ 9223372036854775807) (hl : l0.length ≤ 9223372036854775807) :
  ∃ k, backseatlaw10_FindLooks.f k l0 a1 a2 a3 a4 = some true := by
 obtain ⟨L, ⟨hL, hT⟩, hfew⟩ := few_ev l0 (by omega)
 obtain ⟨m1, m2, m3⟩ := mn_facts a1.size 66
 refine Ev.ex (f := fun k => backseatlaw10_FindLooks.f k l0 a1 a2 a3 a4) ?_
 unfold backseatlaw10_FindLooks.f
 refine Ev.bind hfew (Ev.pos m1 (Ev.pos m2 ?_))
 generalize a1.extract 0 ((mn (a1.size : Int) 66) : Int).toNat = s
 have hM := findmay_ev L (tiny_small hL hT) (by omega) (fun x hx => by have := (hT x hx).1; omega)
 have hR := refmay_ev L (tiny_small hL hT)
 obtain ⟨t, ht1, ht2⟩ := there_some L a2 a3
 cases hb : (!L.any oddB && decide (L.length ≤ 200))
 ·rw [hb] at hM hR
  have hF : Ev (fun k => find_Find.f k L s a2 a3 a4) (0, 0, 1) := by unfold find_Find.f; exact Ev.bind hM (Ev.neg (by decide) (Ev.ret _))
  exact Ev.bind hF (Ev.bind hR (Ev.neg (by decide) (looks_refused _ _ _ _ _)))
 ·have hok := find_ok hL hT hb
  rw [hb] at hM hR
  cases t with
  | false =>
   have hF : Ev (fun k => find_Find.f k L s a2 a3 a4) (0, 0, 1) := by unfold find_Find.f; exact Ev.bind hM (Ev.pos rfl (Ev.bind (Ev.of ht1) (Ev.neg (by decide) (Ev.ret _))))
   exact Ev.bind hF (Ev.bind hR (Ev.pos rfl (Ev.bind (Ev.of ht2) (Ev.neg (by decide) (looks_refused _ _ _ _ _)))))
  | true =>
   by_cases he : s.toList = ([] : List UInt8)
   ·have hF : Ev (fun k => find_Find.f k L s a2 a3 a4) (0, 0, 1) := by unfold find_Find.f; exact Ev.bind hM (Ev.pos rfl (Ev.bind (Ev.of ht1) (Ev.pos rfl (Ev.pos he (Ev.ret _)))))
    exact Ev.bind hF (Ev.bind hR (Ev.pos rfl (Ev.bind (Ev.of ht2) (Ev.pos rfl (Ev.pos he (looks_refused _ _ _ _ _))))))
   ·by_cases hz : (s.size : Int) ≤ 64
    ·have hF : Ev (fun k => find_Find.f k L s a2 a3 a4) (if (foundR L s a2 a3 a4).1 < 0 then (0, 0, 5) else ((foundR L s a2 a3 a4).1, (foundR L s a2 a3 a4).2, 0)) := by
      unfold find_Find.f
      refine Ev.bind hM (Ev.pos rfl (Ev.bind (Ev.of ht1) (Ev.pos rfl (Ev.neg he (Ev.pos hz (Ev.pos hok.say (Ev.of ?_)))))))
      exact seek_is s hok a2 a3 a4
     refine Ev.bind hF (Ev.bind hR (Ev.pos rfl (Ev.bind (Ev.of ht2) (Ev.pos rfl (Ev.neg he ?_)))))
     rw [decide_eq_false (show ¬ (s.size : Int) > 64 by omega)]
     exact looks_found L s a2 a3 a4 _ (ref_find_ev s hok a2 a3 a4) _ rfl
    ·have hF : Ev (fun k => find_Find.f k L s a2 a3 a4) (0, 0, 1) := by unfold find_Find.f; exact Ev.bind hM (Ev.pos rfl (Ev.bind (Ev.of ht1) (Ev.pos rfl (Ev.neg he (Ev.neg hz (Ev.ret _))))))
     refine Ev.bind hF (Ev.bind hR (Ev.pos rfl (Ev.bind (Ev.of ht2) (Ev.pos rfl (Ev.neg he ?_)))))
     rw [decide_eq_true (show (s.size : Int) > 64 by omega)]
     exact looks_refused _ _ _ _ _
end Go.Proofs.YtckkdaehmccjlaaDoor.P
namespace Go.Proofs.YtckkdaehmccjlaaDoor.findLooks
open Go.ChangeShapes Go.WideShapes Go.ChangeAt Go.RowKit Go.Shelf Go.Lib
open Go.ChangeMaps (open_string shut_string)
open Go.Proofs.YtckkdaehmccjlaaDoor.P
set_option linter.unusedVariables false
theorem own : ownKnob Tryd.prog.godebug = none := by kernel_rfl
theorem laidOut : laidOutB Tryd.prog = true := by kernel_rfl
theorem tabs_of {w : World} (hL : laidMet Tryd.prog Rows.findLooksRow.laid w) : Tabs w :=
 ⟨utf8Tabs_of_reads (ρ := Tryd.lays197_ren) { Tryd.lays197 with } ⟨by kernel_rfl, by kernel_rfl, by kernel_rfl, by kernel_rfl, by kernel_rfl, by kernel_rfl, by kernel_rfl⟩ (Pinned.utf8First_eq ▸ Lib.laidMet.reads hL (.tail _ (.head _))) (Lib.laidMet.reads hL (.head _))⟩
set_option maxRecDepth 100000 in
theorem lifted (os : Os) (started : os.Started) (H : Type) (enc : TypeId × Value → H) :
  ReturnsInHanded {} Tryd.checked os 3 .any (fun w args => (Rows.findLooksSpec.pre enc Tryd.prog Tryd.f3 [] false w args ∧ laidMetH Tryd.prog Rows.findLooksRow.laid w) ∧ sizedMet enc Tryd.prog Tryd.f3 (OpenSpec.ofChange Rows.findLooksSpec) false w args)
   (Rows.findLooksSpec.post enc Tryd.prog Tryd.f3 false true false false) := by
 refine returnsInHanded_of_change_and (C := Tryd.checked) (X := fun w _ => laidMetH Tryd.prog Rows.findLooksRow.laid w) (fun _ _ _ hh h => h.of_heap hh) own started (by kernel_rfl) Tryd.func3
  (ChangeSpec.witness_shaped (enc := enc) (C := Tryd.checked) (os := os) (X := fun w _ => laidMetH Tryd.prog Rows.findLooksRow.laid w) false (World.laidAll Tryd.prog os Rows.findLooksRow.laid) #[.slice none 0 0, .string ByteArray.empty, .int .i64 0, .int .i64 0, .bool false] 8 (World.laidAll_os _ _ _)
   (World.shaped_of_ZipB (by kernel_rfl) (by kernel_rfl)) (by kernel_rfl) (by kernel_rfl) (by kernel_rfl)
   (by rw [MakeChecks.laidMetH_plain _ _ _ (by kernel_rfl)]; exact laidMet_laidAll _ (by kernel_rfl) (by kernel_rfl))) ?_
 intro W base args ds gs before hval0 hW _ _ hL _
 have hval : ∀ (j : Nat) t v, Tryd.f3.params[j]? = some t → args[j]? = some v → Value.okWide Tryd.prog W .any base t v := hval0
 have hW' := hW
 obtain ⟨p, q, hA0, hV, rfl, hfz, hnd⟩ := hW
 have hA : DataW.TrodAll enc Tryd.prog W 0 (fun _ => true) true Tryd.f3.params.toList args.toList ds p := hA0
 rw [Tryd.params3] at hA hval
 obtain ⟨v0, vs0, d0, ds0, p0, q0, hargs, rfl, rfl, h0, r0⟩ := trodAll_cons hA
 obtain ⟨v1, vs1, d1, ds1, p1, q1, rfl, rfl, rfl, h1, r1⟩ := trodAll_cons r0
 obtain ⟨v2, vs2, d2, ds2, p2, q2, rfl, rfl, rfl, h2, r2⟩ := trodAll_cons r1
 obtain ⟨v3, vs3, d3, ds3, p3, q3, rfl, rfl, rfl, h3, r3⟩ := trodAll_cons r2
 obtain ⟨v4, vs4, d4, ds4, p4, q4, rfl, rfl, rfl, h4, r4⟩ := trodAll_cons r3
 obtain ⟨rfl, rfl, rfl⟩ := trodAll_nil r4
 obtain rfl : args = #[v0, v1, v2, v3, v4] := by cases args; simp_all
 obtain ⟨rfl, rfl⟩ := trodVars_none hV
 obtain ⟨a0, len0, cap0, rfl⟩ := okWide_slice Tryd.underlying22 (hval 0 22 v0 rfl rfl)
 have k0 := h0
 have lt0 : ∀ x ∈ p0, x.block < W.heap.size := by obtain ⟨m, hm⟩ := k0; exact DataW.trod_lt m _ _ _ hm
 obtain ⟨fuel, hf⟩ := h0
 obtain ⟨l0, hlen, hc0, hC⟩ := lines_of_trod (c := cap0) hf
 obtain ⟨a1, rfl, rfl, rfl, y1⟩ := open_string Tryd.underlying9 (hval 1 9 v1 rfl rfl) h1
 obtain ⟨a2, rfl, rfl, rfl, w2⟩ := open_int Tryd.underlying3 (hval 2 3 v2 rfl rfl) h2
 obtain ⟨a3, rfl, rfl, rfl, w3⟩ := open_int Tryd.underlying3 (hval 3 3 v3 rfl rfl) h3
 obtain ⟨a4, rfl, rfl, rfl⟩ := open_bool Tryd.underlying4 (hval 4 4 v4 rfl rfl) h4
 rw [MakeChecks.laidMetH_plain _ _ _ (by kernel_rfl)] at hL
 have hT : Tabs W := tabs_of hL
 have x2 : -9223372036854775808 ≤ a2 ∧ a2 ≤ 9223372036854775807 := by simpa [Lit.wf, IntKind.min, IntKind.max, IntKind.signed, IntKind.bits] using w2
 have x3 : -9223372036854775808 ≤ a3 ∧ a3 ≤ 9223372036854775807 := by simpa [Lit.wf, IntKind.min, IntKind.max, IntKind.signed, IntKind.bits] using w3
 subst hlen
 obtain ⟨k, hk⟩ := findLooks_pure l0 a1 a2 a3 a4 x2 x3 (Go.Proofs.YtckkdaehmccjlaaDoorW.PrintWords.Kd.C_max hC)
 clear hA0 hval0 hf
 refine (backseatlaw10_FindLooks.calls k a0 cap0 l0 a1 a2 a3 a4 true W hC hc0 hk hT).mono fun e W' ⟨he, bel⟩ => ?_
 subst he
 exact ⟨_, rfl, _, _, _, [], _, [], hW', trodAll_mk1 (shut_bool Tryd.underlying4 _), (trodAll_cons_mk (Below.trod laidOut (by kernel_rfl) (of_decide_eq_true (by kernel_rfl)) k0 bel lt0) (trodAll_cons_mk (shut_string Tryd.underlying9 y1) (trodAll_cons_mk (shut_int Tryd.underlying3 w2) (trodAll_cons_mk (shut_int Tryd.underlying3 w3) (trodAll_cons_mk (shut_bool Tryd.underlying4 _) trodAll_mk0))))), rfl, bel.frame _, fun h => by cases h⟩
theorem row_holds : Rows.FindLooksSaid :=
 OpenClaim.holds_of_wide 3 Tryd.f3 rfl rfl rfl rfl rfl rfl rfl ⟨rfl, rfl, rfl, rfl, rfl⟩ rfl rfl rfl rfl rfl (by kernel_rfl) Tryd.func3 (by kernel_rfl)
  (of_decide_eq_true (by kernel_rfl)) (by unfold Func.isWrapper; first | (rw [if_pos (by decide +kernel)]; kernel_rfl) | (rw [if_neg (by decide +kernel)]; exact ⟨rfl, rfl⟩))
  (fun os started H enc _ => lifted os started H enc)
theorem card_holds : Rows.FindLooksCardSaid :=
 Claim7.holds_tied_plain_at .later [] [.data, .pinned] true (true, "56f34029b3037d658335f65c104c5fb094e35f5c91688626dc0cdcff1830fce7") false row_holds (fun _ h => by cases h) (by kernel_rfl) (fun _ h => by cases h) findLooks_row_tie rfl ⟨rfl, rfl⟩ (by kernel_rfl) rfl
  (fun f fn hf hfn => by
   obtain rfl : f = 3 := Option.some.inj ((show Tryd.prog.funcNamed "backseat/backseatlaw10.FindLooks" = some 3 by kernel_rfl).symm.trans hf) |>.symm
   obtain rfl : fn = Tryd.f3 := (Option.some.inj (Tryd.func3.symm.trans hfn)).symm
   exact ⟨by kernel_rfl, fun j t ht => by
    rw [Tryd.params3] at ht
    have hm : t ∈ [22, 9, 3, 3, 4] := by simpa using Array.mem_of_getElem? ht
    have hall : ([22, 9, 3, 3, 4].all fun u => !Tryd.prog.wantsStandIn u) = true := by kernel_rfl
    exact (show Tryd.prog.wantsStandIn t = false by simpa using List.all_eq_true.1 hall t hm)⟩)
  (by kernel_rfl)
end Go.Proofs.YtckkdaehmccjlaaDoor.findLooks
