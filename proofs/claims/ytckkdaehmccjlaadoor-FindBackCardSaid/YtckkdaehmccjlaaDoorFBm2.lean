/- Texts of this session put together by a program, part 2: Begins, Px18, Px57, PFirst, PBeg, PSame, PFst, Px19, Px20, Px21, PWidth, Px16, Px17, Px58, PCell, Px22, Px59, Px60, PMay, PSay, Px27, PSeek. -/
import Derived.Test.YtckkdaehmccjlaaDoorFBm1
import Derived.Lib.SliceRun
import Derived.Laws.Strings
import Derived.Lib.TrimU
import Derived.Shelf.Unicode.DecodeLastEight
namespace Go.Proofs.YtckkdaehmccjlaaDoor.P
open Go.RowKit Go.Proofs.YtckkdaehmccjlaaDoorW.PrintWords Go.Proofs.YtckkdaehmccjlaaDoorW.PrintLast Go.Proofs.YtckkdaehmccjlaaDoorW.PrintMore
set_option linter.unusedVariables false
set_option linter.unusedSimpArgs false
def valGo : List Int → Int → Int
  | [], r => r
  | c :: t, r => if c < 128 ∨ c > 191 then -1 else valGo t (64 * r + c - 128)
def headOf (n : Nat) : Int := if n = 2 then 192 else if n = 3 then 224 else if n = 4 then 240 else 0
def valueZ : List Int → Int
  | [] => 0
  | [c] => c
  | c :: t => valGo t (c - headOf (t.length + 1))
def backseatref01_value.f (a0 : ByteArray) : Option Int := if 1 ≤ a0.size ∧ a0.size ≤ 4 then some (valueZ (bytesOf a0)) else none
theorem bytesOf_drop (s : ByteArray) (k : Nat) (h : k < s.size) : (bytesOf s).drop k = bt s k :: (bytesOf s).drop (k + 1) := by
  rw [List.drop_eq_getElem_cons (by rw [bytesOf_length]; exact h)]
  congr 1
  have := rd_bytesOf s k
  rw [← this]; unfold rd
  rw [List.getD_eq_getElem?_getD, Int.toNat_natCast, List.getElem?_eq_getElem (by rw [bytesOf_length]; exact h)]
  rfl
theorem valueZ_cons (c : Int) (t : List Int) (h : 0 < t.length) : valueZ (c :: t) = valGo t (c - headOf (t.length + 1)) := by
  cases t with
  | nil => simp at h
  | cons d t => rfl
theorem bytesOf_cons (s : ByteArray) (h : 0 < s.size) : bytesOf s = bt s 0 :: (bytesOf s).drop 1 := by
  have := bytesOf_drop s 0 h
  rwa [List.drop_zero] at this
theorem valueZ_one (s : ByteArray) (h : s.size = 1) : valueZ (bytesOf s) = bt s 0 := by
  rw [bytesOf_cons s (by omega), List.drop_eq_nil_of_le (by rw [bytesOf_length]; omega)]; rfl
theorem valueZ_more (s : ByteArray) (h : 1 < s.size) : valueZ (bytesOf s) = valGo ((bytesOf s).drop 1) (bt s 0 - headOf s.size) := by
  conv => lhs; rw [bytesOf_cons s (by omega)]
  rw [valueZ_cons _ _ (by rw [List.length_drop, bytesOf_length]; omega), List.length_drop, bytesOf_length, show s.size - 1 + 1 = s.size by omega]
set_option maxHeartbeats 4000000 in
set_option maxRecDepth 100000 in
theorem value_any (s : ByteArray) (w : World) (h1 : 1 ≤ s.size) (h4 : s.size ≤ 4) :
    Calls Tryd.prog 93 #[.string s] w fun e w' => e = .returned (.int .i32 (valueZ (bytesOf s))) ∧ Below w.heap.size w w' := by
  have hm : s.size ≤ 9223372036854775807 := by omega
  go_enter Tryd.func93, Tryd.ntmps93
  go_wp2
  go_loopg [3, 4] 4 (fun kq r i wr => ∃ (k : Nat) (x : Int), k ≤ s.size ∧ i = .int .i64 k ∧ r = .int .i32 x ∧ Aside0 (kq + k = 4) ∧ Aside0 ((k = 0 ∧ x = 0) ∨ (1 ≤ k ∧ 1 < s.size ∧ valueZ (bytesOf s) = valGo ((bytesOf s).drop k) x ∧ 100 - 400 * 64 ^ (k - 1) ≤ x ∧ x ≤ 400 * 64 ^ (k - 1) - 100)) ∧ Aside0 (Below w.heap.size w wr))
  case atStart => exact ⟨0, 0, Nat.zero_le _, rfl, rfl, ⟨rfl⟩, ⟨.inl ⟨rfl, rfl⟩⟩, ⟨Below.refl _ _⟩⟩
  case round =>
    obtain ⟨k, x, hk, rfl, rfl, HG, HV, HB⟩ := hrel
    by_cases hlt : k < s.size
    · obtain ⟨c, hc⟩ : ∃ c : UInt8, s[k] = c := ⟨_, rfl⟩
      have hcl := c.toNat_lt
      have hbt : bt s k = c.toNat := by rw [← hc]; exact (bt_at s k (by simpa using hlt)).symm
      have HD := Aside0.mk (bytesOf_drop s k hlt)
      have HBT := Aside0.mk hbt
      clear hbt
      by_cases h0 : k = 0
      · subst h0
        obtain rfl : x = 0 := by rcases HV.out with h | h; exact h.2; omega
        have hs : s.size = 1 ∨ s.size = 2 ∨ s.size = 3 ∨ s.size = 4 := by omega
        clear HV h1 h4 hm
        rcases hs with hs | hs | hs | hs
        · have HQ := Aside0.mk (valueZ_one s hs)
          go_wp2
          go_ret
          exact ⟨by rw [HQ.out, show bt s 0 = c.toNat from HBT.out]; rfl, HB.out.alloc HB.out.size _⟩
        all_goals
          have HQ := Aside0.mk (valueZ_more s (by omega))
          go_wp2
          go_roundg (gk - 1)
          case measure => have := HG.out; omega
          case rel =>
            refine ⟨1, _, by omega, by go_num, rfl, ⟨by have := HG.out; omega⟩, ⟨.inr ⟨by omega, by omega, ?_, by omega, by omega⟩⟩, ⟨HB.out.alloc HB.out.size _⟩⟩
            rw [HQ.out, show bt s 0 = c.toNat from HBT.out, hs]; rfl
      · obtain ⟨hk1, hs1, hval, hb1, hb2⟩ : 1 ≤ k ∧ 1 < s.size ∧ valueZ (bytesOf s) = valGo ((bytesOf s).drop k) x ∧ 100 - 400 * 64 ^ (k - 1) ≤ x ∧ x ≤ 400 * 64 ^ (k - 1) - 100 := by rcases HV.out with h | h; exact absurd h.1 h0; exact h
        have HVal : Aside0 (valueZ (bytesOf s) = if (c.toNat : Int) < 128 ∨ (c.toNat : Int) > 191 then -1 else valGo ((bytesOf s).drop (k + 1)) (64 * x + c.toNat - 128)) := ⟨by
          rw [hval, HD.out, HBT.out]; rfl⟩
        have hk : k = 1 ∨ k = 2 ∨ k = 3 := by omega
        have hb : ∃ M : Int, M = 400 * 64 ^ (k - 1) ∧ M ≤ 1638400 := by rcases hk with rfl | rfl | rfl <;> exact ⟨_, rfl, by decide⟩
        have HP : Aside0 (100 - 400 * 64 ^ (k + 1 - 1) ≤ 64 * x + (c.toNat : Int) - 128 ∧ 64 * x + (c.toNat : Int) - 128 ≤ 400 * 64 ^ (k + 1 - 1) - 100 ∨ (c.toNat : Int) < 128 ∨ (c.toNat : Int) > 191) := ⟨by
          by_cases hc : (c.toNat : Int) < 128 ∨ (c.toNat : Int) > 191
          · exact .inr hc
          · left; rcases hk with rfl | rfl | rfl <;> simp at hb1 hb2 ⊢ <;> omega⟩
        obtain ⟨M, hM, hM2⟩ := hb
        rw [← hM] at hb1 hb2
        have hx1 : -1638400 ≤ x := by omega
        have hx2 : x ≤ 1638400 := by omega
        have h01 : ((k : Int) == 0) = false := by simpa using h0
        have HK := Aside0.mk hk
        clear HV h1 hM hM2 hb1 hb2 hval hk
        go_wp2
        all_goals
          first
          | (have hy : (c.toNat : Int) < 128 := by assumption
             go_ret
             exact ⟨by rw [HVal.out, if_pos (.inl hy)]; rfl, HB.out⟩)
          | (have hy : (191 : Int) < (c.toNat : Int) := by omega
             go_ret
             exact ⟨by rw [HVal.out, if_pos (.inr hy)]; rfl, HB.out⟩)
          | (have hy : ¬ ((c.toNat : Int) < 128 ∨ (c.toNat : Int) > 191) := by omega
             go_roundg (gk - 1)
             case measure => have := HG.out; omega
             case rel =>
               refine ⟨k + 1, _, by omega, by go_num, rfl, ⟨by have := HG.out; omega⟩, ⟨.inr ⟨by omega, by omega, ?_, ?_, ?_⟩⟩, HB⟩
               · rw [HVal.out, if_neg hy]
               · rcases HP.out with h | h
                 · exact h.1
                 · exact absurd h hy
               · rcases HP.out with h | h
                 · exact h.2
                 · exact absurd h hy)
    · have HQ : Aside0 (valueZ (bytesOf s) = x) := ⟨by
        rcases HV.out with h | h
        · omega
        · rw [h.2.2.1, List.drop_eq_nil_of_le (by rw [bytesOf_length]; omega)]; rfl⟩
      clear HV
      go_wp2
      go_ret
      exact ⟨by rw [HQ.out]; rfl, HB.out⟩
theorem backseatref01_value.calls (a0 : ByteArray) (r : Int) (w : World) (h : backseatref01_value.f a0 = some r) :
    Calls Tryd.prog 93 #[.string a0] w fun e w' => e = .returned (.int .i32 r) ∧ Below w.heap.size w w' := by
  unfold backseatref01_value.f at h
  split at h
  · rename_i hs
    have e := Option.some.inj h
    subst e
    exact value_any a0 w hs.1 hs.2
  · cases h
def contOK (l : List Int) : Bool := l.all fun c => decide (128 ≤ c) && decide (c ≤ 191)
def floorOf (n : Nat) : Int := if n = 2 then 128 else if n = 3 then 2048 else if n = 4 then 65536 else 0
def begZ (lo hi fl : Int) : Bool := !(decide (hi < fl) || decide (lo > 1114111)) && (decide (lo < 55296) || decide (hi > 57343))
def begB (l : List Int) (n : Nat) : Bool :=
  contOK (l.drop 1) && begZ (valueZ (l ++ List.replicate (n - l.length) 128)) (valueZ (l ++ List.replicate (n - l.length) 191)) (floorOf n)
def backseatref01_begins.f (a0 : ByteArray) (a1 : Int) : Option Bool :=
  if 1 ≤ a0.size ∧ (a0.size : Int) ≤ a1 ∧ a1 ≤ 4 then some (begB (bytesOf a0) a1.toNat) else none
theorem contOK_snoc (l : List Int) (k : Nat) (h : k < l.length) : contOK (l.take (k + 1)) = (contOK (l.take k) && (decide (128 ≤ l[k]) && decide (l[k] ≤ 191))) := by
  unfold contOK
  rw [List.take_succ_eq_append_getElem h, List.all_append]
  simp
theorem bytesOf_get (s : ByteArray) (k : Nat) (h : k < s.size) : (bytesOf s)[k]'(by rw [bytesOf_length]; exact h) = bt s k := by
  have := rd_bytesOf s k
  rw [← this]; unfold rd
  rw [List.getD_eq_getElem?_getD, Int.toNat_natCast, List.getElem?_eq_getElem (by rw [bytesOf_length]; exact h)]
  rfl
theorem bytesOf_str (xs : List Int) (h : ∀ x ∈ xs, 0 ≤ x ∧ x ≤ 255) : bytesOf (strOfNums xs) = xs := by
  unfold bytesOf
  rw [strOfNums_data, List.map_map]
  conv => rhs; rw [← List.map_id xs]
  apply List.map_congr_left
  intro x hx
  have := h x hx
  simp only [Function.comp, id]
  rw [UInt8.toNat_ofNat']
  omega
theorem bytesOf_range (s : ByteArray) : ∀ x ∈ bytesOf s, 0 ≤ x ∧ x ≤ 255 := by
  intro x hx
  unfold bytesOf at hx
  obtain ⟨b, _, rfl⟩ := List.mem_map.1 hx
  have := b.toNat_lt
  omega
theorem pad_range (s : ByteArray) (j : Nat) (c : Int) (h0 : 0 ≤ c) (h1 : c ≤ 255) : ∀ x ∈ bytesOf s ++ List.replicate j c, 0 ≤ x ∧ x ≤ 255 := by
  intro x hx
  rcases List.mem_append.1 hx with h | h
  · exact bytesOf_range s x h
  · obtain rfl := (List.mem_replicate.1 h).2
    exact ⟨h0, h1⟩
set_option maxHeartbeats 4000000 in
set_option maxRecDepth 100000 in
theorem begins_any (s : ByteArray) (n : Nat) (w : World) (h1 : 1 ≤ s.size) (hn : s.size ≤ n) (h4 : n ≤ 4) :
    Calls Tryd.prog 92 #[.string s, .int .i64 n] w fun e w' => e = .returned (.bool (begB (bytesOf s) n)) ∧ Below w.heap.size w w' := by
  have hm : s.size ≤ 9223372036854775807 := by omega
  have hgt : ¬ ((s.size : Int) > n) := by omega
  go_enter Tryd.func92, Tryd.ntmps92
  go_wp2
  clear hgt
  go_loop [5] (fun i => ∃ k : Nat, k + 1 ≤ s.size ∧ i = .int .i64 ((k : Int) + 1) ∧ Aside0 (contOK (((bytesOf s).drop 1).take k) = true)) (fun i => s.size - (intOf i).toNat)
  case atStart => exact ⟨0, by omega, rfl, ⟨rfl⟩⟩
  case round =>
    obtain ⟨k, hk, rfl, HC⟩ := hrel
    by_cases hlt : k + 1 < s.size
    · obtain ⟨c, hc⟩ : ∃ c : UInt8, s[k + 1] = c := ⟨_, rfl⟩
      have hcl := c.toNat_lt
      have HS : Aside0 (contOK (((bytesOf s).drop 1).take (k + 1)) = (decide (128 ≤ (c.toNat : Int)) && decide ((c.toNat : Int) ≤ 191))) := ⟨by
        rw [contOK_snoc _ _ (by rw [List.length_drop, bytesOf_length]; omega), HC.out, Bool.true_and, List.getElem_drop]
        have hb : (bytesOf s)[1 + k]'(by rw [bytesOf_length]; omega) = c.toNat := by
          rw [bytesOf_get s (1 + k) (by omega), ← hc]
          have := bt_at s ((1 + k : Nat) : Int) (by simp; omega)
          rw [← this]
          simp [Nat.add_comm]
        rw [hb]⟩
      have HT : Aside0 (contOK (((bytesOf s).drop 1).take (k + 1)) = false → begB (bytesOf s) n = false) := ⟨fun h => by
        unfold begB
        have : contOK ((bytesOf s).drop 1) = false := by
          unfold contOK at h ⊢
          rw [← List.take_append_drop (k + 1) ((bytesOf s).drop 1), List.all_append, h]; rfl
        rw [this]; rfl⟩
      go_wp2
      all_goals
        first
        | (have hy : 128 ≤ (c.toNat : Int) ∧ (c.toNat : Int) ≤ 191 := by assumption
           go_round
           case rel => exact ⟨k + 1, by omega, by go_num, ⟨by rw [HS.out, decide_eq_true hy.1, decide_eq_true hy.2]; rfl⟩⟩
           case measure => simp [intOf]; omega)
        | (have hy : (c.toNat : Int) < 128 ∨ (191 : Int) < (c.toNat : Int) := by first | assumption | (left; assumption)
           go_ret
           exact ⟨by rw [HT.out (by rw [HS.out]; rcases hy with hy | hy <;> simp <;> omega)]; rfl, Below.refl _ _⟩)
    · have HC2 : Aside0 (contOK ((bytesOf s).drop 1) = true) := ⟨by
        have := HC.out
        rwa [List.take_of_length_le (by rw [List.length_drop, bytesOf_length]; omega)] at this⟩
      clear HC
      have kb := fun W => print_bytes (P := Tryd.prog) 9 75 5 Tryd.underlying9 Tryd.underlying75 Tryd.underlying5 s W
      go_upto_region 10 with (fail)
      go_loopg [6, 7] (n - s.size) (fun kq v6 v7 wr => ∃ j : Nat, s.size + j ≤ n ∧ Aside0 (kq + (s.size + j) = n) ∧ Aside0 (RowB wr w.heap.size v6 (bytesOf s ++ List.replicate j 128)) ∧ Aside0 (RowB wr w.heap.size v7 (bytesOf s ++ List.replicate j 191)) ∧ Aside0 (v6.ownBlock ≠ v7.ownBlock) ∧ Aside0 (Below w.heap.size w wr))
      case atStart =>
        refine ⟨0, by omega, ⟨by omega⟩, ⟨?_⟩, ⟨?_⟩, ⟨?_⟩, ⟨?_⟩⟩
        · rw [List.replicate_zero, List.append_nil]
          exact (RowB.made w _ s _ (Nat.le_refl _) hm).below (bytes_below (Below.refl _ _) (Nat.le_refl _) _ _)
        · rw [List.replicate_zero, List.append_nil]
          exact RowB.made _ _ s _ (by rw [Lib.bytesWorld_size]; omega) hm
        · simp [Value.ownBlock, Lib.bytesWorld_size]
        · exact bytes_below (bytes_below (Below.refl _ _) (Nat.le_refl _) _ _) (by rw [Lib.bytesWorld_size]; omega) _ _
      case round =>
        obtain ⟨j, hj, HG, H6, H7, HN, HB⟩ := hrel
        obtain ⟨g6, c6, rfl⟩ := H6.out.form
        obtain ⟨g7, c7, rfl⟩ := H7.out.form
        have hl6 : (bytesOf s ++ List.replicate j (128 : Int)).length = s.size + j := by rw [List.length_append, bytesOf_length, List.length_replicate]
        have hl7 : (bytesOf s ++ List.replicate j (191 : Int)).length = s.size + j := by rw [List.length_append, bytesOf_length, List.length_replicate]
        rw [hl6] at H6
        rw [hl7] at H7
        rw [hl6, hl7]
        have HL6 := Aside0.mk hl6
        have HL7 := Aside0.mk hl7
        have HNV : g6 ≠ g7 := by have := HN.out; simpa [Value.ownBlock] using this
        have hg6l : g6 < wr.heap.size := (H6.out.lt g6 rfl).2
        have hg7l : g7 < wr.heap.size := (H7.out.lt g7 rfl).2
        clear kb hl6 hl7
        by_cases hlt : s.size + j < n
        · have Q1 : Aside0 ((Value.slice (some ⟨g6, 0, none⟩) (s.size + j) c6).ownBlock ≠ some wr.heap.size) := ⟨fun h => by injection h with h; exact absurd h (Nat.ne_of_lt hg6l)⟩
          have Q2 : Aside0 ((bytesOf s ++ List.replicate j (128 : Int)).length < 1000) := ⟨by rw [HL6.out]; omega⟩
          have Q3 : Aside0 ((bytesOf s ++ List.replicate j (191 : Int)).length < 1000) := ⟨by rw [HL7.out]; omega⟩
          have Q4 : Aside0 (∀ o, w.heap.size ≤ (wr.alloc o).heap.size) := ⟨fun o => by rw [World.size_alloc]; have := HB.out.size; omega⟩
          go_wp2_with (first | (at_builtin; refine RowB.append rfl (.tmp 39) (.tmp 40) 75 5 rfl Tryd.underlying75 (by kernel_rfl) w.heap.size _ (bytesOf s ++ List.replicate j 128) rfl (H6.out.below (below_alloc (Below.refl _ _) _)) 128 wr.heap.size Q1.out rfl (by rw [World.cell?_alloc_new]; rfl) Q2.out (Q4.out _) ?_; intro v6 w6 hr6 hg6 hat6; have HR6 := Aside0.mk hr6; have HG6 := Aside0.mk hg6; have HA6 := Aside0.mk hat6; clear hr6 hg6 hat6; have H7b : Aside0 (RowB w6 w.heap.size (.slice (some ⟨g7, 0, none⟩) (s.size + j) c7) (bytesOf s ++ List.replicate j 191)) := ⟨(H7.out.below (below_alloc (Below.refl _ _) _)).kept HG6.out (fun h => by injection h with h; exact HNV h.symm)⟩; have Q5 : Aside0 (wr.heap.size + 1 ≤ w6.heap.size) := ⟨by have := HG6.out.size; rwa [World.size_alloc] at this⟩; have Q6 : Aside0 (∀ o, w.heap.size ≤ (w6.alloc o).heap.size) := ⟨fun o => by rw [World.size_alloc]; have := Q5.out; have := HB.out.size; omega⟩; have Q7 : Aside0 ((Value.slice (some ⟨g7, 0, none⟩) (s.size + j) c7).ownBlock ≠ some w6.heap.size) := ⟨fun h => by injection h with h; have := Q5.out; exact absurd h (Nat.ne_of_lt (show g7 < w6.heap.size by omega))⟩) | (at_builtin; refine RowB.append rfl (.tmp 42) (.tmp 43) 75 5 rfl Tryd.underlying75 (by kernel_rfl) w.heap.size _ (bytesOf s ++ List.replicate j 191) rfl (H7b.out.below (below_alloc (Below.refl _ _) _)) 191 w6.heap.size Q7.out rfl (by rw [World.cell?_alloc_new]; rfl) Q3.out (Q6.out _) ?_; intro v7 w7 hr7 hg7 hat7; have HR7 := Aside0.mk hr7; have HG7 := Aside0.mk hg7; have HA7 := Aside0.mk hat7; clear hr7 hg7 hat7))
          go_roundg (gk - 1)
          case measure => have := HG.out; omega
          case rel =>
            have hN : v6.ownBlock ≠ some g7 := by
              rcases HA6.out with h | ⟨b, h, hb⟩
              · rw [h]; intro e; injection e with e; exact HNV e
              · rw [h]; intro e; injection e with e; rw [World.size_alloc] at hb; omega
            refine ⟨j + 1, by omega, ⟨by have := HG.out; omega⟩, ⟨?_⟩, ⟨?_⟩, ⟨?_⟩, ⟨?_⟩⟩
            · have := (HR6.out.below (below_alloc (Below.refl _ _) _)).kept HG7.out hN
              rwa [List.append_assoc, ← List.replicate_succ'] at this
            · have := HR7.out
              rwa [List.append_assoc, ← List.replicate_succ'] at this
            · rcases HA7.out with h | ⟨b, h, hb⟩
              · rw [h]; exact hN
              · intro e
                rw [h] at e
                have := (HR6.out.lt b e).2
                rw [World.size_alloc] at hb
                omega
            · have hb0 := HB.out.size
              have h5 := Q5.out
              refine pw_below_grown (Below.alloc (pw_below_grown (Below.alloc HB.out hb0 _) _ (by rw [World.size_alloc]; omega) HG6.out (fun k hk => ?_)) (by omega) _) _ (by rw [World.size_alloc]; omega) HG7.out (fun k hk => ?_)
              · exact (H6.out.lt k hk).1
              · exact (H7b.out.lt k hk).1
        · have hj2 : s.size + j = n := by omega
          have HW : Aside0 (begB (bytesOf s) n = begZ (valueZ (bytesOf s ++ List.replicate j 128)) (valueZ (bytesOf s ++ List.replicate j 191)) (floorOf n)) := ⟨by
            unfold begB
            rw [HC2.out, Bool.true_and, bytesOf_length, show n - s.size = j by omega]⟩
          have c6v : Calls Tryd.prog 93 #[.string (strOfNums (bytesOf s ++ List.replicate j 128))] wr fun e w' => e = .returned (.int .i32 (valueZ (bytesOf s ++ List.replicate j 128))) ∧ Below wr.heap.size wr w' := by
            have := value_any (strOfNums (bytesOf s ++ List.replicate j 128)) wr (by rw [strOfNums_size, HL6.out]; omega) (by rw [strOfNums_size, HL6.out]; omega)
            rwa [bytesOf_str _ (pad_range s j 128 (by omega) (by omega))] at this
          have c7v : ∀ W : World, Calls Tryd.prog 93 #[.string (strOfNums (bytesOf s ++ List.replicate j 191))] W fun e w' => e = .returned (.int .i32 (valueZ (bytesOf s ++ List.replicate j 191))) ∧ Below W.heap.size W w' := fun W => by
            have := value_any (strOfNums (bytesOf s ++ List.replicate j 191)) W (by rw [strOfNums_size, HL7.out]; omega) (by rw [strOfNums_size, HL7.out]; omega)
            rwa [bytesOf_str _ (pad_range s j 191 (by omega) (by omega))] at this
          have k6 := RowB.string (P := Tryd.prog) (src := 75) (dst := 9) Tryd.underlying75 Tryd.underlying5 Tryd.underlying9 H6.out
          have k7 := fun (W : World) (hb : Below wr.heap.size wr W) => RowB.string (P := Tryd.prog) (src := 75) (dst := 9) Tryd.underlying75 Tryd.underlying5 Tryd.underlying9 (H7.out.below hb)
          have K7 := Aside0.mk k7
          have C6 := Aside0.mk c6v
          have C7 := Aside0.mk c7v
          clear c6v c7v k7
          generalize valueZ (bytesOf s ++ List.replicate j 128) = lo at HW C6 C7
          generalize valueZ (bytesOf s ++ List.replicate j 191) = hi at HW C6 C7
          have HBE : Aside0 (∀ fl, begZ lo hi fl = (!(decide (hi < fl) || decide (lo > 1114111)) && (decide (lo < 55296) || decide (hi > 57343)))) := ⟨fun _ => rfl⟩
          have hnn : n = 1 ∨ n = 2 ∨ n = 3 ∨ n = 4 := by omega
          obtain ⟨fl, hfl⟩ : ∃ fl, fl = floorOf n := ⟨_, rfl⟩
          rw [← hfl] at HW
          have HFL := Aside0.mk hfl
          have hge : ¬ ((s.size : Int) + (j : Int) < (n : Int)) := by omega
          clear hlt hj2 HL6 HL7 hfl
          rcases hnn with rfl | rfl | rfl | rfl
          all_goals
            go_wp2_with (first | (go_at_call 93; ((with_reducible refine C6.out.mono ?_); rintro e w8 ⟨rfl, hb8⟩; have k7 := K7.out w8 hb8; have HB8 := Aside0.mk hb8; clear hb8)) | (go_at_call 93; ((with_reducible refine (C7.out _).mono ?_); rintro e w9 ⟨rfl, hb9⟩; have HB9 := Aside0.mk hb9; clear hb9)))
            all_goals
              have hfl := HFL.out
              simp [floorOf] at hfl
              first
              | (have e1 : (decide (hi < fl) || decide (lo > 1114111)) = true := by simp; omega
                 clear hfl
                 go_ret
                 exact ⟨by rw [HW.out, HBE.out, e1]; rfl, (below_step (below_step HB.out HB8.out) HB9.out).alloc (below_step (below_step HB.out HB8.out) HB9.out).size _⟩)
              | (have e1 : (decide (hi < fl) || decide (lo > 1114111)) = false := by simp; omega
                 clear hfl
                 first
                 | (have e2 : decide (lo < 55296) = true := decide_eq_true (by omega)
                    go_ret
                    exact ⟨by rw [HW.out, HBE.out, e1, e2]; rfl, (below_step (below_step HB.out HB8.out) HB9.out).alloc (below_step (below_step HB.out HB8.out) HB9.out).size _⟩)
                 | (go_ret
                    exact ⟨by rw [HW.out, HBE.out, e1]; rfl, (below_step (below_step HB.out HB8.out) HB9.out).alloc (below_step (below_step HB.out HB8.out) HB9.out).size _⟩))
theorem backseatref01_begins.calls (a0 : ByteArray) (a1 : Int) (r : Bool) (w : World) (h : backseatref01_begins.f a0 a1 = some r) :
    Calls Tryd.prog 92 #[.string a0, .int .i64 a1] w fun e w' => e = .returned (.bool r) ∧ Below w.heap.size w w' := by
  unfold backseatref01_begins.f at h
  split at h
  · rename_i hs
    have e := Option.some.inj h
    subst e
    have := begins_any a0 a1.toNat w hs.1 (by omega) (by omega)
    rwa [show ((a1.toNat : Nat) : Int) = a1 by omega] at this
  · cases h
end Go.Proofs.YtckkdaehmccjlaaDoor.P
namespace Go.Proofs.YtckkdaehmccjlaaDoor.P
open Go.RowKit Go.Proofs.YtckkdaehmccjlaaDoorW.PrintWords Go.Proofs.YtckkdaehmccjlaaDoorW.PrintLast Go.Proofs.YtckkdaehmccjlaaDoorW.PrintMore
attribute [local go_sem] max2_int min2_int max_two min_two max_three min_three max_four min_four   -- for this text's walks alone
set_option linter.unusedVariables false
set_option linter.unusedSimpArgs false
mutual
def backseatref01_need.j0 : Nat → Int → Bool → Option (Int)
 | 0, _, _ => none
 | k + 1, x0, x10 => if x10 = true then (some 2) else (if x0 ≥ 224 then (backseatref01_need.j1 k x0 (decide (x0 < 240))) else (backseatref01_need.j1 k x0 false))
def backseatref01_need.j1 : Nat → Int → Bool → Option (Int)
 | 0, _, _ => none
 | k + 1, x0, x16 => if x16 = true then (some 3) else (if x0 ≥ 240 then (if x0 < 245 then (some 4) else (some 0)) else (some 0))
end
def backseatref01_need.f (k : Nat) (a0 : Int) : Option (Int) := if a0 < 128 then (some 1) else (if a0 ≥ 194 then (backseatref01_need.j0 k a0 (decide (a0 < 224))) else (backseatref01_need.j0 k a0 false))
set_option maxHeartbeats 8000000 in
set_option maxRecDepth 100000 in
theorem backseatref01_need.calls (k : Nat) (a0 : Int) (r : Int) (w : World) (h : backseatref01_need.f k a0 = some r) :
  Calls Tryd.prog 91 #[.int .u8 a0] w fun e w' => e = .returned (.int .i64 r) ∧ Drawn0 w w' := by
 have H : (if a0 < 128 then (some 1) else (if a0 ≥ 194 then (backseatref01_need.j0 k a0 (decide (a0 < 224))) else (backseatref01_need.j0 k a0 false))) = some r := h
 clear h
 by_cases c2 : a0 < 128
 ·rw [if_pos c2] at H
  have c2b0 : decide (a0 < 128) = true := decide_eq_true c2
  clear c2
  obtain rfl := Option.some.inj H
  go_enter Tryd.func91, Tryd.ntmps91
  go_wp2
  go_ret
  exact ⟨by first | rfl | (simp; done) | (simp [*]; done), by repeat (first | exact Drawn0.refl _ | apply Drawn0.step)⟩
 ·rw [if_neg c2] at H
  have c2b0 : decide (a0 < 128) = false := decide_eq_false c2
  clear c2
  have HC3 := Aside0.mk H
  clear H
  go_enter Tryd.func91, Tryd.ntmps91
  go_upto_region 3 with (fail)
  go_cut [10] (fun v10 wc => ∃ (kq : Nat) (x10_2 : Bool), v10 = .bool x10_2 ∧ Aside0 (backseatref01_need.j0 kq a0 x10_2 = some r) ∧ Aside0 (kq ≤ k) ∧ Drawn0 w wc)
  case first =>
   have H := HC3.out
   clear HC3
   by_cases c4 : a0 ≥ 194
   ·rw [if_pos c4] at H
    have c4b0 : decide (194 ≤ a0) = true := decide_eq_true c4
    clear c4
    (first | rw [c4b0] | (simp only [i64_w, i32_w]; rw [c4b0]) | skip)
    have H' := Aside0.mk H
    clear H
    go_wp2
    go_meet
    case rel => exact ⟨_, (decide (a0 < 224)), zf, H', ⟨by first | omega | exact Nat.le_refl _⟩, by repeat (first | exact Drawn0.refl _ | apply Drawn0.step)⟩
   ·rw [if_neg c4] at H
    have c4b0 : decide (194 ≤ a0) = false := decide_eq_false c4
    clear c4
    (first | rw [c4b0] | (simp only [i64_w, i32_w]; rw [c4b0]) | skip)
    have H' := Aside0.mk H
    clear H
    go_wp2
    go_meet
    case rel => exact ⟨_, (false), zf, H', ⟨by first | omega | exact Nat.le_refl _⟩, by repeat (first | exact Drawn0.refl _ | apply Drawn0.step)⟩
  case rest =>
   clear HC3
   try clear c2
   try clear c2b0
   obtain ⟨kq, x10_2, rfl, HA, HJ2, ⟨mc2, rfl⟩⟩ := hcut
   cases kq with
   | zero => exact absurd HA.out (by simp [backseatref01_need.j0])
   | succ kj2 =>
    have H := HA.out
    clear HA
    simp only [backseatref01_need.j0] at H
    by_cases c5 : x10_2 = true
    ·subst c5
     have H1 : (some 2) = some r := by rw [if_pos rfl] at H; exact H
     clear H
     have H := H1
     clear H1
     obtain rfl := Option.some.inj H
     go_wp2
     go_ret
     exact ⟨by first | rfl | (simp; done) | (simp [*]; done), by repeat (first | exact Drawn0.refl _ | apply Drawn0.step)⟩
    ·replace c5 := Bool.eq_false_iff.mpr c5
     subst c5
     have H1 : (if a0 ≥ 224 then (backseatref01_need.j1 kj2 a0 (decide (a0 < 240))) else (backseatref01_need.j1 kj2 a0 false)) = some r := by rw [if_neg (show ¬ (false = true) by decide)] at H; exact H
     clear H
     have H := H1
     clear H1
     have HC6 := Aside0.mk H
     clear H
     go_upto_region 5 with (fail)
     go_cut [16] (fun v16 wc => ∃ (kq : Nat) (x16_5 : Bool), v16 = .bool x16_5 ∧ Aside0 (backseatref01_need.j1 kq a0 x16_5 = some r) ∧ Aside0 (kq ≤ kj2) ∧ Drawn0 w wc)
     case first =>
      have H := HC6.out
      clear HC6
      by_cases c7 : a0 ≥ 224
      ·rw [if_pos c7] at H
       have c7b0 : decide (224 ≤ a0) = true := decide_eq_true c7
       clear c7
       (first | rw [c7b0] | (simp only [i64_w, i32_w]; rw [c7b0]) | skip)
       have H' := Aside0.mk H
       clear H
       go_wp2
       go_meet
       case rel => exact ⟨_, (decide (a0 < 240)), zf, H', ⟨by have := HJ2.out; first | omega | exact Nat.le_refl _⟩, by repeat (first | exact Drawn0.refl _ | apply Drawn0.step)⟩
      ·rw [if_neg c7] at H
       have c7b0 : decide (224 ≤ a0) = false := decide_eq_false c7
       clear c7
       (first | rw [c7b0] | (simp only [i64_w, i32_w]; rw [c7b0]) | skip)
       have H' := Aside0.mk H
       clear H
       go_wp2
       go_meet
       case rel => exact ⟨_, (false), zf, H', ⟨by have := HJ2.out; first | omega | exact Nat.le_refl _⟩, by repeat (first | exact Drawn0.refl _ | apply Drawn0.step)⟩
     case rest =>
      clear HC6
      try clear c2
      try clear c2b0
      try clear c5
      obtain ⟨kq, x16_5, rfl, HA, HJ5, ⟨mc5, rfl⟩⟩ := hcut
      cases kq with
      | zero => exact absurd HA.out (by simp [backseatref01_need.j1])
      | succ kj5 =>
       have H := HA.out
       clear HA
       simp only [backseatref01_need.j1] at H
       by_cases c8 : x16_5 = true
       ·subst c8
        have H1 : (some 3) = some r := by rw [if_pos rfl] at H; exact H
        clear H
        have H := H1
        clear H1
        obtain rfl := Option.some.inj H
        go_wp2
        go_ret
        exact ⟨by first | rfl | (simp; done) | (simp [*]; done), by repeat (first | exact Drawn0.refl _ | apply Drawn0.step)⟩
       ·replace c8 := Bool.eq_false_iff.mpr c8
        subst c8
        have H1 : (if a0 ≥ 240 then (if a0 < 245 then (some 4) else (some 0)) else (some 0)) = some r := by rw [if_neg (show ¬ (false = true) by decide)] at H; exact H
        clear H
        have H := H1
        clear H1
        by_cases c9 : a0 ≥ 240
        ·rw [if_pos c9] at H
         have c9b0 : decide (240 ≤ a0) = true := decide_eq_true c9
         clear c9
         by_cases c10 : a0 < 245
         ·rw [if_pos c10] at H
          have c10b0 : decide (a0 < 245) = true := decide_eq_true c10
          clear c10
          obtain rfl := Option.some.inj H
          go_wp2
          go_ret
          exact ⟨by first | rfl | (simp; done) | (simp [*]; done), by repeat (first | exact Drawn0.refl _ | apply Drawn0.step)⟩
         ·rw [if_neg c10] at H
          have c10b0 : decide (a0 < 245) = false := decide_eq_false c10
          clear c10
          obtain rfl := Option.some.inj H
          go_wp2
          go_ret
          exact ⟨by first | rfl | (simp; done) | (simp [*]; done), by repeat (first | exact Drawn0.refl _ | apply Drawn0.step)⟩
        ·rw [if_neg c9] at H
         have c9b0 : decide (240 ≤ a0) = false := decide_eq_false c9
         clear c9
         obtain rfl := Option.some.inj H
         go_wp2
         go_ret
         exact ⟨by first | rfl | (simp; done) | (simp [*]; done), by repeat (first | exact Drawn0.refl _ | apply Drawn0.step)⟩
mutual
def backseatref01_First.j1 : Nat → ByteArray → Int → Int → Option (Int × Int × Int)
 | 0, _, _, _ => none
 | k + 1, x0, x3, x4 => if x4 = x3 then (if 0 ≤ x3 then (if x3 ≤ (x0.size : Int) then ((backseatref01_value.f (x0.extract 0 (x3 : Int).toNat)).bind fun t206 => (some (t206, x3, 0))) else (none)) else (none)) else (if x4 = (x0.size : Int) then (some (0, 0, 2)) else (some (0, x4, 4)))
def backseatref01_First.l0 : Nat → ByteArray → Int → Int → Option (Int × Int × Int)
 | 0, _, _, _ => none
 | k + 1, x0, x3, x4 => if x4 < x3 then (if x4 < (x0.size : Int) then (if 0 ≤ (wrap64 (x4 + 1)) then (if (wrap64 (x4 + 1)) ≤ (x0.size : Int) then ((backseatref01_begins.f (x0.extract 0 ((wrap64 (x4 + 1)) : Int).toNat) x3).bind fun t205 => (if t205 = true then (backseatref01_First.l0 k x0 x3 (wrap64 (x4 + 1))) else (backseatref01_First.j1 k x0 x3 x4))) else (none)) else (none)) else (backseatref01_First.j1 k x0 x3 x4)) else (backseatref01_First.j1 k x0 x3 x4)
end
def backseatref01_First.f (k : Nat) (a0 : ByteArray) : Option (Int × Int × Int) := if (a0.size : Int) = 0 then (some (0, 0, 2)) else (if 0 < (a0.size : Int) then ((backseatref01_need.f k (bt a0 0)).bind fun t204 => (if t204 = 0 then (some (0, 1, 4)) else (backseatref01_First.l0 k a0 t204 1))) else (none))
set_option maxHeartbeats 8000000 in
set_option maxRecDepth 100000 in
theorem backseatref01_First.calls (k : Nat) (a0 : ByteArray) (r1 : Int) (r2 : Int) (r3 : Int) (w : World) (h : backseatref01_First.f k a0 = some (r1, r2, r3)) :
  Calls Tryd.prog 74 #[.string a0] w fun e w' => e = .returned (.agg #[.int .i32 r1, .int .i64 r2, .int .i64 r3]) ∧ Below w.heap.size w w' := by
 have hu106 := Tryd.underlying106
 have HB := Aside0.mk (Below.refl w.heap.size w)
 have H : (if (a0.size : Int) = 0 then (some (0, 0, 2)) else (if 0 < (a0.size : Int) then ((backseatref01_need.f k (bt a0 0)).bind fun t204 => (if t204 = 0 then (some (0, 1, 4)) else (backseatref01_First.l0 k a0 t204 1))) else (none))) = some (r1, r2, r3) := h
 clear h
 by_cases c2 : (a0.size : Int) = 0
 ·rw [if_pos c2] at H
  have c2b0 : ((a0.size : Int) == 0) = true := beq_iff_eq.mpr c2
  have c2b1 : ((a0.size : Int) != 0) = false := bne_eq_false_iff_eq.mpr c2
  clear c2
  simp only [Option.some.injEq, Prod.mk.injEq] at H
  obtain ⟨rfl, rfl, rfl⟩ := H
  go_enter Tryd.func74, Tryd.ntmps74
  go_wp2_with (first | ((with_reducible refine gate_dst (N := 2) rfl ?_); (try (refine gate_guard (by rfl) ?_; dsimp only)); refine box_event ?hg (N := 2) ?hd (cs := #[.int .i32 0, .int .i64 0, .int .i64 0]) (t := 106) ?hr ?_; (case hd => rfl); (case hg => rfl); (case hr => exact zo); intro gb203 hg w3 hbox hb; have BK203 := Aside0.mk (hbox); have GW203 := Aside0.mk ((zg hg : w.heap.size ≤ gb203)); have GE203 := Aside0.mk ((zg hg : w.heap.size ≤ gb203)); replace HB := (zs HB hb); clear hb hbox hg; obtain ⟨hcz4_0, hcz4_1, hcz4_2, hfz4_0, hfz4_1, hfz4_2⟩ := zq3 (w := w3) BK203))
  refine bodyPost_ret (results_cell_row rfl _ _ gb203 106 #[.int .i32 0, .int .i64 0, .int .i64 2] (0, 0) _ rfl (by refine blk_put (cs := #[.int .i32 0, .int .i64 0, .int .i64 0]) ?_ 2 _ rfl; refine blk_put (cs := #[.int .i32 0, .int .i64 0, .int .i64 0]) ?_ 1 _ rfl; refine blk_put (cs := #[.int .i32 0, .int .i64 0, .int .i64 0]) ?_ 0 _ rfl; exact BK203.out) Tryd.underlying106 rfl (by kernel_rfl)) rfl ?_
  exact ⟨ze, zb⟩
 ·rw [if_neg c2] at H
  have c2b0 : ((a0.size : Int) == 0) = false := beq_eq_false_iff_ne.mpr c2
  have c2b1 : ((a0.size : Int) != 0) = true := bne_iff_ne.mpr c2
  by_cases c5 : 0 < (a0.size : Int)
  ·rw [if_pos c5] at H
   have c5b0 : decide (0 < (a0.size : Int)) = true := decide_eq_true c5
   have c5b1 : decide (0 < a0.size) = true := decide_eq_true (by omega)
   clear c5
   replace H := Option.bind_eq_some_iff.mp H
   obtain ⟨t204, A70, H⟩ := H
   replace H : (if t204 = 0 then (some (0, 1, 4)) else (backseatref01_First.l0 k a0 t204 1)) = some (r1, r2, r3) := H
   have A7 := Aside0.mk A70
   clear A70
   by_cases c8 : t204 = 0
   ·rw [if_pos c8] at H
    have c8b0 : (t204 == 0) = true := beq_iff_eq.mpr c8
    have c8b1 : (t204 != 0) = false := bne_eq_false_iff_eq.mpr c8
    clear c8
    simp only [Option.some.injEq, Prod.mk.injEq] at H
    obtain ⟨rfl, rfl, rfl⟩ := H
    go_enter Tryd.func74, Tryd.ntmps74
    go_wp2_with (first | ((with_reducible refine gate_dst (N := 2) rfl ?_); (try (refine gate_guard (by rfl) ?_; dsimp only)); refine box_event ?hg (N := 2) ?hd (cs := #[.int .i32 0, .int .i64 0, .int .i64 0]) (t := 106) ?hr ?_; (case hd => rfl); (case hg => rfl); (case hr => exact zo); intro gb203 hg w9 hbox hb; have BK203 := Aside0.mk (hbox); have GW203 := Aside0.mk ((zg hg : w.heap.size ≤ gb203)); have GE203 := Aside0.mk ((zg hg : w.heap.size ≤ gb203)); replace HB := (zs HB hb); clear hb hbox hg; have p6 : 0 ≤ (0 : Int) := (by omega); have q6 : 0 < a0.size := (by have : (0 : Int) < (a0.size : Int) := of_decide_eq_true za; omega); have hx6 : ∀ h : 0 < a0.size, ((a0[0]'h).toNat : Int) = bt a0 0 := bt_at a0 0; clear p6; have qi6 : (0 < (a0.size : Int)) = True := eq_true (of_decide_eq_true za); replace q6 := eq_true q6) | ((with_reducible refine gate_callee (f := 91) rfl ?_); refine goesL_ (some 11) rfl rfl Tryd.func91 (by kernel_rfl) rfl #[.int .u8 (bt a0 0)] rfl zl ?_; (with_reducible refine (backseatref01_need.calls k (bt a0 0) t204 _ A7.out).mono ?_); rintro e w' ⟨rfl, ⟨nd, rfl⟩⟩; refine ⟨_, rfl, ?_⟩; (try (rw [drewN_self w9]; generalize hq_ : World.drewN w9 _ = w9; have n0_ : Aside0 (w9.heap[gb203]? = some (.cells #[.int .i32 0, .int .i64 0, .int .i64 0] 106 (0, 0))) := ⟨by rw [← hq_]; exact (by exact BK203.out)⟩; have n1_ : Aside0 (Below w.heap.size w w9) := ⟨by rw [← hq_]; exact zb⟩; clear BK203 HB hq_; have BK203 := n0_; have HB := n1_; clear n0_ n1_)); obtain ⟨hcz10_0, hcz10_1, hcz10_2, hfz10_0, hfz10_1, hfz10_2⟩ := zq3 (w := w9) BK203))
    refine bodyPost_ret (results_cell_row rfl _ _ gb203 106 #[.int .i32 0, .int .i64 1, .int .i64 4] (0, 0) _ rfl (by refine blk_put (cs := #[.int .i32 0, .int .i64 1, .int .i64 0]) ?_ 2 _ rfl; refine blk_put (cs := #[.int .i32 0, .int .i64 0, .int .i64 0]) ?_ 1 _ rfl; refine blk_put (cs := #[.int .i32 0, .int .i64 0, .int .i64 0]) ?_ 0 _ rfl; exact BK203.out) Tryd.underlying106 rfl (by kernel_rfl)) rfl ?_
    exact ⟨ze, zb⟩
   ·rw [if_neg c8] at H
    have c8b0 : (t204 == 0) = false := beq_eq_false_iff_ne.mpr c8
    have c8b1 : (t204 != 0) = true := bne_iff_ne.mpr c8
    have HC11 := Aside0.mk H
    clear H
    go_enter Tryd.func74, Tryd.ntmps74
    go_upto_block 0 with (first | ((with_reducible refine gate_dst (N := 2) rfl ?_); (try (refine gate_guard (by rfl) ?_; dsimp only)); refine box_event ?hg (N := 2) ?hd (cs := #[.int .i32 0, .int .i64 0, .int .i64 0]) (t := 106) ?hr ?_; (case hd => rfl); (case hg => rfl); (case hr => exact zo); intro gb203 hg w12 hbox hb; have BK203 := Aside0.mk (hbox); have GW203 := Aside0.mk ((zg hg : w.heap.size ≤ gb203)); have GE203 := Aside0.mk ((zg hg : w.heap.size ≤ gb203)); replace HB := (zs HB hb); clear hb hbox hg; have p6 : 0 ≤ (0 : Int) := (by omega); have q6 : 0 < a0.size := (by have : (0 : Int) < (a0.size : Int) := of_decide_eq_true za; omega); have hx6 : ∀ h : 0 < a0.size, ((a0[0]'h).toNat : Int) = bt a0 0 := bt_at a0 0; clear p6; have qi6 : (0 < (a0.size : Int)) = True := eq_true (of_decide_eq_true za); replace q6 := eq_true q6) | ((with_reducible refine gate_callee (f := 91) rfl ?_); refine goesL_ (some 11) rfl rfl Tryd.func91 (by kernel_rfl) rfl #[.int .u8 (bt a0 0)] rfl zl ?_; (with_reducible refine (backseatref01_need.calls k (bt a0 0) t204 _ A7.out).mono ?_); rintro e w' ⟨rfl, ⟨nd, rfl⟩⟩; refine ⟨_, rfl, ?_⟩))
    (try simp only [Act.put, List.setIfInBounds_toArray, List.set_cons_zero, List.set_cons_succ])
    go_cut [4] (fun v4 wc => ∃ (kq : Nat) (x4_10 : Int), v4 = .int .i64 x4_10 ∧ Aside0 (backseatref01_First.j1 kq a0 t204 x4_10 = some (r1, r2, r3)) ∧ Aside0 (kq ≤ k) ∧ Aside0 (wc.heap[gb203]? = some (.cells #[.int .i32 0, .int .i64 0, .int .i64 0] 106 (0, 0))) ∧ Aside0 (Below w.heap.size w wc))
    case first =>
     have H := HC11.out
     clear HC11
     have H' := Aside0.mk H
     clear H
     go_wp2
     go_loopg [4] k (fun kq v4 w' => ∃ (x4_1 : Int), v4 = .int .i64 x4_1 ∧ Aside0 (backseatref01_First.l0 kq a0 t204 x4_1 = some (r1, r2, r3)) ∧ Aside0 (kq ≤ k) ∧ Aside0 (w'.heap[gb203]? = some (.cells #[.int .i32 0, .int .i64 0, .int .i64 0] 106 (0, 0))) ∧ Aside0 (Below w.heap.size w w'))
     case atStart => exact ⟨(1), zf, H', ⟨Nat.le_refl _⟩, ⟨by exact BK203.out⟩, ⟨zb⟩⟩
     case round =>
      clear H'
      try clear c2
      try clear c2b0
      try clear c2b1
      try clear c5
      try clear c5b0
      try clear c5b1
      try clear p6
      try clear q6
      try clear hx6
      try clear qi6
      try clear c8
      try clear c8b0
      try clear c8b1
      try clear p6
      try clear q6
      obtain ⟨x4_1, rfl, HA, HK1, BK203, HB⟩ := hrel
      cases gk with
      | zero => exact absurd HA.out (by simp [backseatref01_First.l0])
      | succ k1 =>
       have H := HA.out
       clear HA
       simp only [backseatref01_First.l0] at H
       by_cases c13 : x4_1 < t204
       ·rw [if_pos c13] at H
        have c13b0 : decide (x4_1 < t204) = true := decide_eq_true c13
        clear c13
        (first | rw [c13b0] | (simp only [i64_w, i32_w]; rw [c13b0]) | skip)
        by_cases c14 : x4_1 < (a0.size : Int)
        ·rw [if_pos c14] at H
         have c14b0 : decide (x4_1 < (a0.size : Int)) = true := decide_eq_true c14
         clear c14
         obtain ⟨ji15, hji15⟩ : ∃ j_ : Int, (wrap64 (x4_1 + 1)) = j_ := ⟨_, rfl⟩
         replace H : (if 0 ≤ (ji15) then (if (ji15) ≤ (a0.size : Int) then ((backseatref01_begins.f (a0.extract 0 ((ji15) : Int).toNat) t204).bind fun t205 => (if t205 = true then (backseatref01_First.l0 k1 a0 t204 ji15) else (backseatref01_First.j1 k1 a0 t204 x4_1))) else (none)) else (none)) = some (r1, r2, r3) := by first | (rw [hji15] at H; exact H) | (simp only [hji15] at H ⊢; exact H)
         have hji15w : (IntKind.i64.wrap (x4_1 + 1)) = ji15 := (i64_w _).trans hji15
         by_cases c16 : 0 ≤ (ji15)
         ·rw [if_pos c16] at H
          have c16b0 := eq_true c16
          have c16b1 : decide (0 ≤ (ji15)) = true := decide_eq_true c16
          clear c16
          by_cases c17 : (ji15) ≤ (a0.size : Int)
          ·rw [if_pos c17] at H
           have c17b0 := eq_true c17
           have c17b1 : decide ((ji15) ≤ (a0.size : Int)) = true := decide_eq_true c17
           clear c17
           replace H := Option.bind_eq_some_iff.mp H
           obtain ⟨t205, A180, H⟩ := H
           replace H : (if t205 = true then (backseatref01_First.l0 k1 a0 t204 ji15) else (backseatref01_First.j1 k1 a0 t204 x4_1)) = some (r1, r2, r3) := H
           have A18 := Aside0.mk A180
           clear A180
           by_cases c19 : t205 = true
           ·subst c19
            have H1 : (backseatref01_First.l0 k1 a0 t204 ji15) = some (r1, r2, r3) := by rw [if_pos rfl] at H; exact H
            clear H
            have H := H1
            clear H1
            have H' := Aside0.mk H
            clear H
            go_wp2_with (first | (go_at_call 92; (with_reducible refine (backseatref01_begins.calls (a0.extract 0 ((ji15) : Int).toNat) t204 true _ A18.out).mono ?_); rintro e w20 ⟨rfl, hb⟩; replace BK203 := (zk BK203 hb); replace HB := (zs HB hb); (try clear hb)))
            go_roundg k1
            case measure => have := HK1.out; omega
            case rel => exact ⟨(ji15), (by first | rfl | (simp; done) | (simp only [← hji15] <;> (first | rfl | (simp; done))) | (simp [*]; done) | (simp; simp only [decide_eq_true_eq, eq_iff_iff, iff_true] at *; omega)), H', ⟨by have := HK1.out; omega⟩, ⟨by exact BK203.out⟩, ⟨zb⟩⟩
           ·replace c19 := Bool.eq_false_iff.mpr c19
            subst c19
            have H1 : (backseatref01_First.j1 k1 a0 t204 x4_1) = some (r1, r2, r3) := by rw [if_neg (show ¬ (false = true) by decide)] at H; exact H
            clear H
            have H := H1
            clear H1
            have H' := Aside0.mk H
            clear H
            go_wp2_with (first | (go_at_call 92; (with_reducible refine (backseatref01_begins.calls (a0.extract 0 ((ji15) : Int).toNat) t204 false _ A18.out).mono ?_); rintro e w21 ⟨rfl, hb⟩; replace BK203 := (zk BK203 hb); replace HB := (zs HB hb); (try clear hb)))
            go_meet
            case rel => exact ⟨_, (x4_1), zf, H', ⟨by have := HK1.out; first | omega | exact Nat.le_refl _⟩, ⟨by exact BK203.out⟩, ⟨zb⟩⟩
          ·rw [if_neg c17] at H
           exact absurd H (by simp)
         ·rw [if_neg c16] at H
          exact absurd H (by simp)
        ·rw [if_neg c14] at H
         have c14b0 : decide (x4_1 < (a0.size : Int)) = false := decide_eq_false c14
         clear c14
         have H' := Aside0.mk H
         clear H
         go_wp2
         go_meet
         case rel => exact ⟨_, (x4_1), zf, H', ⟨by have := HK1.out; first | omega | exact Nat.le_refl _⟩, ⟨by exact BK203.out⟩, ⟨zb⟩⟩
       ·rw [if_neg c13] at H
        have c13b0 : decide (x4_1 < t204) = false := decide_eq_false c13
        clear c13
        (first | rw [c13b0] | (simp only [i64_w, i32_w]; rw [c13b0]) | skip)
        have H' := Aside0.mk H
        clear H
        go_wp2
        go_meet
        case rel => exact ⟨_, (x4_1), zf, H', ⟨by have := HK1.out; first | omega | exact Nat.le_refl _⟩, ⟨by exact BK203.out⟩, ⟨zb⟩⟩
    case rest =>
     clear HC11
     try clear c2
     try clear c2b0
     try clear c2b1
     try clear c5
     try clear c5b0
     try clear c5b1
     try clear p6
     try clear q6
     try clear hx6
     try clear qi6
     try clear c8
     try clear c8b0
     try clear c8b1
     try clear p6
     try clear q6
     obtain ⟨kq, x4_10, rfl, HA, HJ10, BK203, HB⟩ := hcut
     cases kq with
     | zero => exact absurd HA.out (by simp [backseatref01_First.j1])
     | succ kj10 =>
      have H := HA.out
      clear HA
      simp only [backseatref01_First.j1] at H
      by_cases c22 : x4_10 = t204
      ·rw [if_pos c22] at H
       have c22b0 : (x4_10 == t204) = true := beq_iff_eq.mpr c22
       have c22b1 : (x4_10 != t204) = false := bne_eq_false_iff_eq.mpr c22
       clear c22
       by_cases c23 : 0 ≤ t204
       ·rw [if_pos c23] at H
        have c23b0 := eq_true c23
        have c23b1 : decide (0 ≤ t204) = true := decide_eq_true c23
        clear c23
        by_cases c24 : t204 ≤ (a0.size : Int)
        ·rw [if_pos c24] at H
         have c24b0 := eq_true c24
         have c24b1 : decide (t204 ≤ (a0.size : Int)) = true := decide_eq_true c24
         clear c24
         replace H := Option.bind_eq_some_iff.mp H
         obtain ⟨t206, A250, H⟩ := H
         replace H : (some (t206, t204, 0)) = some (r1, r2, r3) := H
         have A25 := Aside0.mk A250
         clear A250
         simp only [Option.some.injEq, Prod.mk.injEq] at H
         obtain ⟨rfl, rfl, rfl⟩ := H
         go_wp2_with (first | ((with_reducible refine gate_callee (f := 93) rfl ?_); refine goesL_ (some 40) rfl rfl Tryd.func93 (by kernel_rfl) rfl #[.string (a0.extract 0 (t204 : Int).toNat)] rfl zl ?_; (with_reducible refine (backseatref01_value.calls (a0.extract 0 (t204 : Int).toNat) t206 _ A25.out).mono ?_); rintro e w26 ⟨rfl, hb⟩; refine ⟨_, rfl, ?_⟩; replace BK203 := (zk BK203 hb); replace HB := (zs HB hb); (try clear hb); obtain ⟨hcz27_0, hcz27_1, hcz27_2, hfz27_0, hfz27_1, hfz27_2⟩ := zq3 (w := w26) BK203))
         refine bodyPost_ret (results_cell_row rfl _ _ gb203 106 #[.int .i32 t206, .int .i64 t204, .int .i64 0] (0, 0) _ rfl (by refine blk_put (cs := #[.int .i32 t206, .int .i64 t204, .int .i64 0]) ?_ 2 _ rfl; refine blk_put (cs := #[.int .i32 t206, .int .i64 0, .int .i64 0]) ?_ 1 _ rfl; refine blk_put (cs := #[.int .i32 0, .int .i64 0, .int .i64 0]) ?_ 0 _ rfl; exact BK203.out) Tryd.underlying106 rfl (by kernel_rfl)) rfl ?_
         exact ⟨ze, zb⟩
        ·rw [if_neg c24] at H
         exact absurd H (by simp)
       ·rw [if_neg c23] at H
        exact absurd H (by simp)
      ·rw [if_neg c22] at H
       have c22b0 : (x4_10 == t204) = false := beq_eq_false_iff_ne.mpr c22
       have c22b1 : (x4_10 != t204) = true := bne_iff_ne.mpr c22
       by_cases c28 : x4_10 = (a0.size : Int)
       ·rw [if_pos c28] at H
        have c28b0 : (x4_10 == (a0.size : Int)) = true := beq_iff_eq.mpr c28
        have c28b1 : (x4_10 != (a0.size : Int)) = false := bne_eq_false_iff_eq.mpr c28
        clear c28
        simp only [Option.some.injEq, Prod.mk.injEq] at H
        obtain ⟨rfl, rfl, rfl⟩ := H
        obtain ⟨hcz29_0, hcz29_1, hcz29_2, hfz29_0, hfz29_1, hfz29_2⟩ := zq3 (w := wc) BK203
        go_wp2
        refine bodyPost_ret (results_cell_row rfl _ _ gb203 106 #[.int .i32 0, .int .i64 0, .int .i64 2] (0, 0) _ rfl (by refine blk_put (cs := #[.int .i32 0, .int .i64 0, .int .i64 0]) ?_ 2 _ rfl; refine blk_put (cs := #[.int .i32 0, .int .i64 0, .int .i64 0]) ?_ 1 _ rfl; refine blk_put (cs := #[.int .i32 0, .int .i64 0, .int .i64 0]) ?_ 0 _ rfl; exact BK203.out) Tryd.underlying106 rfl (by kernel_rfl)) rfl ?_
        exact ⟨ze, zb⟩
       ·rw [if_neg c28] at H
        have c28b0 : (x4_10 == (a0.size : Int)) = false := beq_eq_false_iff_ne.mpr c28
        have c28b1 : (x4_10 != (a0.size : Int)) = true := bne_iff_ne.mpr c28
        simp only [Option.some.injEq, Prod.mk.injEq] at H
        obtain ⟨rfl, rfl, rfl⟩ := H
        obtain ⟨hcz30_0, hcz30_1, hcz30_2, hfz30_0, hfz30_1, hfz30_2⟩ := zq3 (w := wc) BK203
        go_wp2
        refine bodyPost_ret (results_cell_row rfl _ _ gb203 106 #[.int .i32 0, .int .i64 x4_10, .int .i64 4] (0, 0) _ rfl (by refine blk_put (cs := #[.int .i32 0, .int .i64 x4_10, .int .i64 0]) ?_ 2 _ rfl; refine blk_put (cs := #[.int .i32 0, .int .i64 0, .int .i64 0]) ?_ 1 _ rfl; refine blk_put (cs := #[.int .i32 0, .int .i64 0, .int .i64 0]) ?_ 0 _ rfl; exact BK203.out) Tryd.underlying106 rfl (by kernel_rfl)) rfl ?_
        exact ⟨ze, zb⟩
  ·rw [if_neg c5] at H
   exact absurd H (by simp)
end Go.Proofs.YtckkdaehmccjlaaDoor.P
namespace Go.Proofs.YtckkdaehmccjlaaDoor.P
open Go.RowKit Go.Proofs.YtckkdaehmccjlaaDoorW.PrintWords Go.Proofs.YtckkdaehmccjlaaDoorW.PrintLast Go.Proofs.YtckkdaehmccjlaaDoorW.PrintMore
set_option linter.unusedVariables false
set_option linter.unusedSimpArgs false
theorem w64 (n : Nat) (h : (n : Int) ≤ 9223372036854775806) : wrap64 ((n : Int) + 1) = ((n + 1 : Nat) : Int) := by
 rw [IntWalk.wrap64_in _ (by omega)]; omega
def okD (s : ByteArray) : Prop := ¬ ((Lib.decodeGo s).1 = 65533 ∧ (Lib.decodeGo s).2 ≤ 1)
theorem pre_bytes (s : ByteArray) (i : Nat) (h : i ≤ s.size) : bytesOf (s.extract 0 i) = (bytesOf s).take i := by
 unfold bytesOf
 rw [← List.map_take]
 congr 1
 rw [show (s.extract 0 i).data = s.data.extract 0 i from ByteArray.data_extract]
 simp
theorem pre_size (s : ByteArray) (i : Nat) (h : i ≤ s.size) : (s.extract 0 i).size = i := by
 simp [ByteArray.size_extract]; omega
theorem ref_loop (s : ByteArray) (nd : Nat) (h1 : 1 ≤ nd) (h4 : nd ≤ 4) (hs : (s.size : Int) ≤ 9223372036854775807) : ∀ m x, x + m = nd → 1 ≤ x → x ≤ s.size →
  ((∀ i, x < i → i ≤ nd → i ≤ s.size ∧ begB (bytesOf (s.extract 0 i)) nd = true) ∧ Ev (fun k => backseatref01_First.l0 k s nd x) (valueZ (bytesOf (s.extract 0 nd)), (nd : Int), 0)) ∨
  ((∃ i, x < i ∧ i ≤ nd ∧ ¬ (i ≤ s.size ∧ begB (bytesOf (s.extract 0 i)) nd = true)) ∧ ∃ a e, e ≠ 0 ∧ Ev (fun k => backseatref01_First.l0 k s nd x) (0, a, e))
 | 0, x, hx, hx1, hxs => by
  obtain rfl : x = nd := by omega
  refine Or.inl ⟨fun i h h' => by omega, Ev.succ ?_⟩
  simp only [backseatref01_First.l0]
  refine Ev.neg (by omega) (Ev.succ ?_)
  simp only [backseatref01_First.j1]
  refine Ev.pos trivial (Ev.pos (by omega) (Ev.pos (by omega) ?_))
  rw [Int.toNat_natCast]
  refine Ev.bind (v := valueZ (bytesOf (s.extract 0 x))) (Ev.of ?_) (Ev.ret _)
  unfold backseatref01_value.f
  rw [if_pos (by rw [pre_size s x hxs]; omega)]
 | m + 1, x, hx, hx1, hxs => by
  by_cases hlt : x < s.size
  ·have hw := w64 x (by omega)
   by_cases hb : begB (bytesOf (s.extract 0 (x + 1))) nd = true
   ·have hstep : ∀ r, Ev (fun k => backseatref01_First.l0 k s nd ((x + 1 : Nat) : Int)) r → Ev (fun k => backseatref01_First.l0 k s nd x) r := fun r hr => by
     refine Ev.succ ?_
     simp only [backseatref01_First.l0]
     refine Ev.pos (by omega) (Ev.pos (by omega) ?_)
     rw [hw]
     refine Ev.pos (by omega) (Ev.pos (by omega) ?_)
     rw [Int.toNat_natCast]
     refine Ev.bind (v := true) (Ev.of ?_) (Ev.pos rfl hr)
     unfold backseatref01_begins.f
     rw [if_pos (by rw [pre_size s (x + 1) (by omega)]; omega), Int.toNat_natCast, hb]
    rcases ref_loop s nd h1 h4 hs m (x + 1) (by omega) (by omega) (by omega) with ⟨ha, he⟩ | ⟨⟨i, hi1, hi2, hi3⟩, a, e, h0, he⟩
    ·refine Or.inl ⟨fun i h h' => ?_, hstep _ he⟩
     by_cases e : i = x + 1
     ·subst e; exact ⟨by omega, hb⟩
     ·exact ha i (by omega) h'
    ·exact Or.inr ⟨⟨i, by omega, hi2, hi3⟩, a, e, h0, hstep _ he⟩
   ·refine Or.inr ⟨⟨x + 1, by omega, by omega, fun h => hb h.2⟩, (x : Int), 4, by decide, Ev.succ ?_⟩
    simp only [backseatref01_First.l0]
    refine Ev.pos (by omega) (Ev.pos (by omega) ?_)
    rw [hw]
    refine Ev.pos (by omega) (Ev.pos (by omega) ?_)
    rw [Int.toNat_natCast]
    refine Ev.bind (v := false) (Ev.of ?_) (Ev.neg (by decide) (Ev.succ ?_))
    ·unfold backseatref01_begins.f
     rw [if_pos (by rw [pre_size s (x + 1) (by omega)]; omega), Int.toNat_natCast]
     cases h : begB (bytesOf (s.extract 0 (x + 1))) nd
     ·rfl
     ·exact absurd h hb
    ·simp only [backseatref01_First.j1]
     exact Ev.neg (by omega) (Ev.neg (by omega) (Ev.ret _))
  ·refine Or.inr ⟨⟨x + 1, by omega, by omega, fun h => by omega⟩, 0, 2, by decide, Ev.succ ?_⟩
   simp only [backseatref01_First.l0]
   refine Ev.pos (by omega) (Ev.neg (by omega) (Ev.succ ?_))
   simp only [backseatref01_First.j1]
   exact Ev.neg (by omega) (Ev.pos (by omega) (Ev.ret _))
def needN (b : Nat) : Nat := if b < 128 then 1 else if b < 194 then 0 else if b < 224 then 2 else if b < 240 then 3 else if b < 245 then 4 else 0
theorem need_ev (b : Nat) : Ev (fun k => backseatref01_need.f k (b : Int)) (needN b : Int) := by
 refine ⟨2, fun k hk => ?_⟩
 obtain ⟨j, rfl⟩ : ∃ j, k = j + 2 := ⟨k - 2, by omega⟩
 have j0t : ∀ k, backseatref01_need.j0 (k + 1) (b : Int) true = some 2 := fun k => by rw [backseatref01_need.j0]; rfl
 have j1t : ∀ k, backseatref01_need.j1 (k + 1) (b : Int) true = some 3 := fun k => by rw [backseatref01_need.j1]; rfl
 show backseatref01_need.f (j + 2) (b : Int) = some (needN b : Int)
 unfold backseatref01_need.f needN
 by_cases c1 : b < 128
 ·rw [if_pos (by omega), if_pos c1]; rfl
 rw [if_neg (by omega), if_neg c1]
 by_cases c2 : b < 194
 ·rw [if_neg (by omega), if_pos c2, backseatref01_need.j0, if_neg (by decide), if_neg (by omega), backseatref01_need.j1, if_neg (by decide), if_neg (by omega)]; rfl
 rw [if_pos (by omega), if_neg c2]
 by_cases c3 : b < 224
 ·rw [decide_eq_true (by omega), j0t, if_pos c3]; rfl
 rw [decide_eq_false (by omega), if_neg c3, backseatref01_need.j0, if_neg (by decide), if_pos (by omega)]
 by_cases c4 : b < 240
 ·rw [decide_eq_true (by omega), j1t, if_pos c4]; rfl
 rw [decide_eq_false (by omega), if_neg c4, backseatref01_need.j1, if_neg (by decide), if_pos (by omega)]
 by_cases c5 : b < 245
 ·rw [if_pos (by omega), if_pos c5]; rfl
 ·rw [if_neg (by omega), if_neg c5]; rfl
end Go.Proofs.YtckkdaehmccjlaaDoor.P
namespace Go.Proofs.YtckkdaehmccjlaaDoor.P
set_option linter.unusedVariables false
set_option linter.unusedSimpArgs false
theorem valGo_ok {c : Int} {t : List Int} {r : Int} (h : 128 ≤ c ∧ c ≤ 191) : valGo (c :: t) r = valGo t (64 * r + c - 128) := by
 show (if c < 128 ∨ c > 191 then -1 else valGo t (64 * r + c - 128)) = _
 rw [if_neg (by omega)]
theorem valGo_nil (r : Int) : valGo [] r = r := rfl
theorem contOK_iff {l : List Int} : contOK l = true ↔ ∀ c ∈ l, 128 ≤ c ∧ c ≤ 191 := by
 unfold contOK; simp [List.all_eq_true]
theorem begZ_iff {lo hi fl : Int} : begZ lo hi fl = true ↔ fl ≤ hi ∧ lo ≤ 1114111 ∧ (lo < 55296 ∨ 57343 < hi) := by
 unfold begZ; simp; omega
theorem beg_iff {b : Int} {t : List Int} {n : Nat} {lo hi : List Int} (hlo : b :: t ++ List.replicate (n - (b :: t).length) 128 = lo) (hhi : b :: t ++ List.replicate (n - (b :: t).length) 191 = hi) :
  begB (b :: t) n = true ↔ (∀ c ∈ t, 128 ≤ c ∧ c ≤ 191) ∧ (floorOf n ≤ valueZ hi ∧ valueZ lo ≤ 1114111 ∧ (valueZ lo < 55296 ∨ 57343 < valueZ hi)) := by
 unfold begB
 rw [Bool.and_eq_true, List.drop_one, List.tail_cons, contOK_iff, begZ_iff, hlo, hhi]
theorem val2 {a b : Int} (hb : 128 ≤ b ∧ b ≤ 191) : valueZ [a, b] = 64 * (a - 192) + b - 128 := by
 simp only [valueZ, valGo_ok hb, valGo_nil]; rfl
theorem val3 {a b c : Int} (hb : 128 ≤ b ∧ b ≤ 191) (hc : 128 ≤ c ∧ c ≤ 191) : valueZ [a, b, c] = 64 * (64 * (a - 224) + b - 128) + c - 128 := by
 simp only [valueZ, valGo_ok hb, valGo_ok hc, valGo_nil]; rfl
theorem val4 {a b c d : Int} (hb : 128 ≤ b ∧ b ≤ 191) (hc : 128 ≤ c ∧ c ≤ 191) (hd : 128 ≤ d ∧ d ≤ 191) : valueZ [a, b, c, d] = 64 * (64 * (64 * (a - 240) + b - 128) + c - 128) + d - 128 := by
 simp only [valueZ, valGo_ok hb, valGo_ok hc, valGo_ok hd, valGo_nil]; rfl
theorem lo8 : (128 : Int) ≤ 128 ∧ (128 : Int) ≤ 191 := by decide
theorem hi8 : (128 : Int) ≤ 191 ∧ (191 : Int) ≤ 191 := by decide
theorem fl2 : floorOf 2 = 128 := rfl
theorem fl3 : floorOf 3 = 2048 := rfl
theorem fl4 : floorOf 4 = 65536 := rfl
theorem all1 {b : Int} : (∀ c ∈ [b], 128 ≤ c ∧ c ≤ 191) ↔ (128 ≤ b ∧ b ≤ 191) := by simp
theorem all2 {b c : Int} : (∀ x ∈ [b, c], 128 ≤ x ∧ x ≤ 191) ↔ (128 ≤ b ∧ b ≤ 191) ∧ (128 ≤ c ∧ c ≤ 191) := by simp
theorem all3 {b c d : Int} : (∀ x ∈ [b, c, d], 128 ≤ x ∧ x ≤ 191) ↔ (128 ≤ b ∧ b ≤ 191) ∧ (128 ≤ c ∧ c ≤ 191) ∧ (128 ≤ d ∧ d ≤ 191) := by simp
theorem beg22 {a b : Int} (h : 194 ≤ a ∧ a < 224) : begB [a, b] 2 = true ↔ 128 ≤ b ∧ b ≤ 191 := by
 rw [beg_iff (lo := [a, b]) (hi := [a, b]) rfl rfl, all1, fl2]
 exact ⟨fun h => h.1, fun hb => ⟨hb, by rw [val2 hb]; omega⟩⟩
theorem beg33 {a b c : Int} (h : 224 ≤ a ∧ a < 240) : begB [a, b, c] 3 = true ↔ (128 ≤ b ∧ b ≤ 191) ∧ (128 ≤ c ∧ c ≤ 191) ∧ 2048 ≤ valueZ [a, b, c] ∧ (valueZ [a, b, c] < 55296 ∨ 57343 < valueZ [a, b, c]) := by
 rw [beg_iff (lo := [a, b, c]) (hi := [a, b, c]) rfl rfl, all2, fl3]
 constructor
 ·rintro ⟨⟨hb, hc⟩, h1, h2, h3⟩; exact ⟨hb, hc, h1, h3⟩
 ·rintro ⟨hb, hc, h1, h3⟩; exact ⟨⟨hb, hc⟩, h1, by rw [val3 hb hc]; omega, h3⟩
theorem beg32 {a b c : Int} (h : 224 ≤ a ∧ a < 240) (hf : begB [a, b, c] 3 = true) : begB [a, b] 3 = true := by
 obtain ⟨hb, hc, h1, h3⟩ := (beg33 h).1 hf
 rw [beg_iff (lo := [a, b, 128]) (hi := [a, b, 191]) rfl rfl, all1, fl3, val3 hb lo8, val3 hb hi8]
 rw [val3 hb hc] at h1 h3
 refine ⟨hb, ?_⟩
 omega
theorem beg44 {a b c d : Int} (h : 240 ≤ a ∧ a < 245) : begB [a, b, c, d] 4 = true ↔ (128 ≤ b ∧ b ≤ 191) ∧ (128 ≤ c ∧ c ≤ 191) ∧ (128 ≤ d ∧ d ≤ 191) ∧ 65536 ≤ valueZ [a, b, c, d] ∧ valueZ [a, b, c, d] ≤ 1114111 := by
 rw [beg_iff (lo := [a, b, c, d]) (hi := [a, b, c, d]) rfl rfl, all3, fl4]
 constructor
 ·rintro ⟨⟨hb, hc, hd⟩, h1, h2, h3⟩; exact ⟨hb, hc, hd, h1, h2⟩
 ·rintro ⟨hb, hc, hd, h1, h2⟩; exact ⟨⟨hb, hc, hd⟩, h1, h2, Or.inr (by omega)⟩
theorem beg43 {a b c d : Int} (h : 240 ≤ a ∧ a < 245) (hf : begB [a, b, c, d] 4 = true) : begB [a, b, c] 4 = true := by
 obtain ⟨hb, hc, hd, h1, h3⟩ := (beg44 h).1 hf
 rw [beg_iff (lo := [a, b, c, 128]) (hi := [a, b, c, 191]) rfl rfl, all2, fl4, val4 hb hc lo8, val4 hb hc hi8]
 rw [val4 hb hc hd] at h1 h3
 refine ⟨⟨hb, hc⟩, ?_⟩
 omega
theorem beg42 {a b c d : Int} (h : 240 ≤ a ∧ a < 245) (hf : begB [a, b, c, d] 4 = true) : begB [a, b] 4 = true := by
 obtain ⟨hb, hc, hd, h1, h3⟩ := (beg44 h).1 hf
 rw [beg_iff (lo := [a, b, 128, 128]) (hi := [a, b, 191, 191]) rfl rfl, all1, fl4, val4 hb lo8 lo8, val4 hb hi8 hi8]
 rw [val4 hb hc hd] at h1 h3
 refine ⟨hb, ?_⟩
 omega
open Go.Lib
theorem need_cases (a : Nat) : (needN a = 0 ∧ 128 ≤ a ∧ (a < 194 ∨ 245 ≤ a)) ∨ (needN a = 1 ∧ a < 128) ∨ (needN a = 2 ∧ 194 ≤ a ∧ a < 224) ∨ (needN a = 3 ∧ 224 ≤ a ∧ a < 240) ∨ (needN a = 4 ∧ 240 ≤ a ∧ a < 245) := by
 unfold needN
 repeat' split
 all_goals omega
theorem dec0 {n a b c d : Nat} (h : 128 ≤ a ∧ (a < 194 ∨ 245 ≤ a)) (ha : a < 256) : decodeN n a b c d = (65533, 1) := by
 unfold decodeN
 repeat' split
 all_goals first | rfl | (exfalso; omega)
theorem dec1 {n a b c d : Nat} (h : a < 128) : decodeN n a b c d = (a, 1) := by
 unfold decodeN; rw [if_pos h]
theorem dec2 {n a b c d : Nat} (h : 194 ≤ a ∧ a < 224) (hb : b < 256) (hk : 2 ≤ n ∧ 128 ≤ b ∧ b ≤ 191) : decodeN n a b c d = (64 * (a - 192) + b - 128, 2) := by
 unfold decodeN
 repeat' split
 all_goals first | (exfalso; omega) | (apply Prod.ext <;> simp only <;> omega)
theorem dec2n {n a b c d : Nat} (h : 194 ≤ a ∧ a < 224) (hb : b < 256) (hk : ¬ (2 ≤ n ∧ 128 ≤ b ∧ b ≤ 191)) : decodeN n a b c d = (65533, 1) := by
 unfold decodeN
 repeat' split
 all_goals first | rfl | (exfalso; omega)
theorem dec3 {n a b c d v : Nat} (h : 224 ≤ a ∧ a < 240) (hb : b < 256) (hc : c < 256) (hv : v = a % 16 * 4096 + b % 64 * 64 + c % 64) (hk : 3 ≤ n ∧ (128 ≤ b ∧ b ≤ 191) ∧ (128 ≤ c ∧ c ≤ 191) ∧ 2048 ≤ v ∧ (v < 55296 ∨ 57343 < v)) : decodeN n a b c d = (v, 3) := by
 subst hv
 unfold decodeN
 rw [if_neg (by omega), if_neg (by omega), if_pos (by omega), if_pos (by omega)]
theorem dec3n {n a b c d v : Nat} (h : 224 ≤ a ∧ a < 240) (hb : b < 256) (hc : c < 256) (hv : v = a % 16 * 4096 + b % 64 * 64 + c % 64) (hk : ¬ (3 ≤ n ∧ (128 ≤ b ∧ b ≤ 191) ∧ (128 ≤ c ∧ c ≤ 191) ∧ 2048 ≤ v ∧ (v < 55296 ∨ 57343 < v))) : decodeN n a b c d = (65533, 1) := by
 subst hv
 unfold decodeN
 rw [if_neg (by omega), if_neg (by omega)]
 by_cases h1 : a / 16 = 14 ∧ (1 < n ∧ b / 64 = 2) ∧ (2 < n ∧ c / 64 = 2)
 ·rw [if_pos h1, if_neg (by omega)]
 ·rw [if_neg h1, if_neg (by omega)]
theorem dec4 {n a b c d v : Nat} (h : 240 ≤ a ∧ a < 245) (hb : b < 256) (hc : c < 256) (hd : d < 256) (hv : v = a % 8 * 262144 + b % 64 * 4096 + c % 64 * 64 + d % 64) (hk : 4 ≤ n ∧ (128 ≤ b ∧ b ≤ 191) ∧ (128 ≤ c ∧ c ≤ 191) ∧ (128 ≤ d ∧ d ≤ 191) ∧ 65536 ≤ v ∧ v ≤ 1114111) : decodeN n a b c d = (v, 4) := by
 subst hv
 unfold decodeN
 rw [if_neg (by omega), if_neg (by omega), if_neg (by omega), if_pos (by omega), if_pos (by omega)]
theorem dec4n {n a b c d v : Nat} (h : 240 ≤ a ∧ a < 245) (hb : b < 256) (hc : c < 256) (hd : d < 256) (hv : v = a % 8 * 262144 + b % 64 * 4096 + c % 64 * 64 + d % 64) (hk : ¬ (4 ≤ n ∧ (128 ≤ b ∧ b ≤ 191) ∧ (128 ≤ c ∧ c ≤ 191) ∧ (128 ≤ d ∧ d ≤ 191) ∧ 65536 ≤ v ∧ v ≤ 1114111)) : decodeN n a b c d = (65533, 1) := by
 subst hv
 unfold decodeN
 rw [if_neg (by omega), if_neg (by omega), if_neg (by omega)]
 by_cases h1 : a / 8 = 30 ∧ (1 < n ∧ b / 64 = 2) ∧ (2 < n ∧ c / 64 = 2) ∧ (3 < n ∧ d / 64 = 2)
 ·rw [if_pos h1, if_neg (by omega)]
 ·rw [if_neg h1]
end Go.Proofs.YtckkdaehmccjlaaDoor.P
namespace Go.Proofs.YtckkdaehmccjlaaDoor.P
open Go.RowKit Go.Proofs.YtckkdaehmccjlaaDoorW.PrintWords Go.Proofs.YtckkdaehmccjlaaDoorW.PrintLast Go.Proofs.YtckkdaehmccjlaaDoorW.PrintMore Go.Lib
set_option linter.unusedVariables false
set_option linter.unusedSimpArgs false
theorem bt_get (s : ByteArray) (i : Nat) (h : i < s.size) : bt s (i : Nat) = ((s.get! i).toNat : Int) := by
  unfold bt
  rw [dif_pos (by simpa using h)]
  congr 2
  simp [ByteArray.get!, getElem!_pos, h]
  rfl
theorem pre1 (s : ByteArray) (h : 1 ≤ s.size) : bytesOf (s.extract 0 1) = [((s.get! 0).toNat : Int)] := by
  rw [pre_bytes s 1 h, bytesOf_cons s (by omega)]; simp [← bt_get s 0 (by omega)]
theorem pre2 (s : ByteArray) (h : 2 ≤ s.size) : bytesOf (s.extract 0 2) = [((s.get! 0).toNat : Int), ((s.get! 1).toNat : Int)] := by
  rw [pre_bytes s 2 h, bytesOf_cons s (by omega), bytesOf_drop s 1 (by omega)]; simp [← bt_get s 0 (by omega), ← bt_get s 1 (by omega)]
theorem pre3 (s : ByteArray) (h : 3 ≤ s.size) : bytesOf (s.extract 0 3) = [((s.get! 0).toNat : Int), ((s.get! 1).toNat : Int), ((s.get! 2).toNat : Int)] := by
  rw [pre_bytes s 3 h, bytesOf_cons s (by omega), bytesOf_drop s 1 (by omega), bytesOf_drop s 2 (by omega)]; simp [← bt_get s 0 (by omega), ← bt_get s 1 (by omega), ← bt_get s 2 (by omega)]
theorem pre4 (s : ByteArray) (h : 4 ≤ s.size) : bytesOf (s.extract 0 4) = [((s.get! 0).toNat : Int), ((s.get! 1).toNat : Int), ((s.get! 2).toNat : Int), ((s.get! 3).toNat : Int)] := by
  rw [pre_bytes s 4 h, bytesOf_cons s (by omega), bytesOf_drop s 1 (by omega), bytesOf_drop s 2 (by omega), bytesOf_drop s 3 (by omega)]; simp [← bt_get s 0 (by omega), ← bt_get s 1 (by omega), ← bt_get s 2 (by omega), ← bt_get s 3 (by omega)]
theorem dec_go (s : ByteArray) (h : s.size ≠ 0) : decodeGo s = decodeN s.size (s.get! 0).toNat (s.get! 1).toNat (s.get! 2).toNat (s.get! 3).toNat := by
  unfold decodeGo; rw [if_neg h, decode_at]; simp
theorem byte_lt (s : ByteArray) (i : Nat) : (s.get! i).toNat < 256 := (s.get! i).toNat_lt
theorem ref_sem (s : ByteArray) (h0 : s.size ≠ 0) : needN (s.get! 0).toNat = 0 ∧ ¬ okD s ∨ 1 ≤ needN (s.get! 0).toNat ∧ needN (s.get! 0).toNat ≤ 4 ∧
    ((∀ i, 1 < i → i ≤ needN (s.get! 0).toNat → i ≤ s.size ∧ begB (bytesOf (s.extract 0 i)) (needN (s.get! 0).toNat) = true) ∧ okD s ∧ (decodeGo s).2 = needN (s.get! 0).toNat ∧ valueZ (bytesOf (s.extract 0 (needN (s.get! 0).toNat))) = (decodeGo s).1 ∨
     (∃ i, 1 < i ∧ i ≤ needN (s.get! 0).toNat ∧ ¬ (i ≤ s.size ∧ begB (bytesOf (s.extract 0 i)) (needN (s.get! 0).toNat) = true)) ∧ ¬ okD s) := by
  unfold okD
  rw [dec_go s h0]
  have ha := byte_lt s 0
  have hb := byte_lt s 1
  have hc := byte_lt s 2
  have hd := byte_lt s 3
  have q1 := pre1 s (by omega)
  have q2 := fun h => pre2 s h
  have q3 := fun h => pre3 s h
  have q4 := fun h => pre4 s h
  generalize (s.get! 0).toNat = a at *
  generalize (s.get! 1).toNat = b at *
  generalize (s.get! 2).toNat = c at *
  generalize (s.get! 3).toNat = d at *
  rcases need_cases a with ⟨e, h⟩ | ⟨e, h⟩ | ⟨e, h⟩ | ⟨e, h⟩ | ⟨e, h⟩
  · left; rw [dec0 h ha]; exact ⟨e, by simp⟩
  · right
    rw [e, dec1 h, q1]
    exact ⟨by omega, by omega, Or.inl ⟨fun i h1 h2 => by omega, by simp; omega, rfl, rfl⟩⟩
  · right
    rw [e]
    refine ⟨by omega, by omega, ?_⟩
    by_cases hk : 2 ≤ s.size ∧ 128 ≤ b ∧ b ≤ 191
    · left
      rw [dec2 h hb hk, q2 hk.1, val2 (by omega)]
      refine ⟨fun i h1 h2 => ?_, by simp, rfl, by simp only; omega⟩
      obtain rfl : i = 2 := by omega
      exact ⟨hk.1, by rw [q2 hk.1]; exact (beg22 (by omega)).2 (by omega)⟩
    · right
      rw [dec2n h hb hk]
      refine ⟨⟨2, by omega, by omega, fun hx => hk ?_⟩, by simp⟩
      rw [q2 hx.1] at hx
      have := (beg22 (by omega)).1 hx.2
      omega
  · right
    rw [e]
    refine ⟨by omega, by omega, ?_⟩
    by_cases hk : 3 ≤ s.size ∧ (128 ≤ b ∧ b ≤ 191) ∧ (128 ≤ c ∧ c ≤ 191) ∧ 2048 ≤ a % 16 * 4096 + b % 64 * 64 + c % 64 ∧ (a % 16 * 4096 + b % 64 * 64 + c % 64 < 55296 ∨ 57343 < a % 16 * 4096 + b % 64 * 64 + c % 64)
    · left
      rw [dec3 h hb hc rfl hk, q3 hk.1, val3 (by omega) (by omega)]
      have hv : (64 * (64 * ((a : Int) - 224) + b - 128) + c - 128 : Int) = ((a % 16 * 4096 + b % 64 * 64 + c % 64 : Nat) : Int) := by omega
      have hf : begB [(a : Int), b, c] 3 = true := (beg33 (by omega)).2 ⟨by omega, by omega, by rw [val3 (by omega) (by omega), hv]; omega, by rw [val3 (by omega) (by omega), hv]; omega⟩
      refine ⟨fun i h1 h2 => ?_, by simp, rfl, hv⟩
      rcases (show i = 2 ∨ i = 3 by omega) with rfl | rfl
      · exact ⟨by omega, by rw [q2 (by omega)]; exact beg32 (by omega) hf⟩
      · exact ⟨by omega, by rw [q3 (by omega)]; exact hf⟩
    · right
      rw [dec3n h hb hc rfl hk]
      refine ⟨⟨3, by omega, by omega, fun hx => hk ?_⟩, by simp⟩
      rw [q3 hx.1] at hx
      obtain ⟨x1, x2, x3, x4⟩ := (beg33 (by omega)).1 hx.2
      rw [val3 x1 x2] at x3 x4
      omega
  · right
    rw [e]
    refine ⟨by omega, by omega, ?_⟩
    by_cases hk : 4 ≤ s.size ∧ (128 ≤ b ∧ b ≤ 191) ∧ (128 ≤ c ∧ c ≤ 191) ∧ (128 ≤ d ∧ d ≤ 191) ∧ 65536 ≤ a % 8 * 262144 + b % 64 * 4096 + c % 64 * 64 + d % 64 ∧ a % 8 * 262144 + b % 64 * 4096 + c % 64 * 64 + d % 64 ≤ 1114111
    · left
      rw [dec4 h hb hc hd rfl hk, q4 hk.1, val4 (by omega) (by omega) (by omega)]
      have hv : (64 * (64 * (64 * ((a : Int) - 240) + b - 128) + c - 128) + d - 128 : Int) = ((a % 8 * 262144 + b % 64 * 4096 + c % 64 * 64 + d % 64 : Nat) : Int) := by omega
      have hf : begB [(a : Int), b, c, d] 4 = true := (beg44 (by omega)).2 ⟨by omega, by omega, by omega, by rw [val4 (by omega) (by omega) (by omega), hv]; omega, by rw [val4 (by omega) (by omega) (by omega), hv]; omega⟩
      refine ⟨fun i h1 h2 => ?_, by simp, rfl, hv⟩
      rcases (show i = 2 ∨ i = 3 ∨ i = 4 by omega) with rfl | rfl | rfl
      · exact ⟨by omega, by rw [q2 (by omega)]; exact beg42 (by omega) hf⟩
      · exact ⟨by omega, by rw [q3 (by omega)]; exact beg43 (by omega) hf⟩
      · exact ⟨by omega, by rw [q4 (by omega)]; exact hf⟩
    · right
      rw [dec4n h hb hc hd rfl hk]
      refine ⟨⟨4, by omega, by omega, fun hx => hk ?_⟩, by simp⟩
      rw [q4 hx.1] at hx
      obtain ⟨x1, x2, x3, x4, x5⟩ := (beg44 (by omega)).1 hx.2
      rw [val4 x1 x2 x3] at x4 x5
      omega
def FirstIs (s : ByteArray) (r : Int × Int × Int) : Prop := (okD s ∧ r = (((decodeGo s).1 : Int), ((decodeGo s).2 : Int), 0)) ∨ (¬ okD s ∧ r.2.2 ≠ 0)
theorem empty_not (s : ByteArray) (h : s.size = 0) : ¬ okD s := by
 unfold okD decodeGo; rw [if_pos h]; simp
theorem ref_first (s : ByteArray) (hs : (s.size : Int) ≤ 9223372036854775807) : ∃ r, Ev (fun k => backseatref01_First.f k s) r ∧ FirstIs s r := by
 by_cases h0 : s.size = 0
 ·exact ⟨(0, 0, 2), by unfold backseatref01_First.f; exact Ev.pos (by omega) (Ev.ret _), Or.inr ⟨empty_not s h0, by simp⟩⟩
 have hb : bt s 0 = ((s.get! 0).toNat : Int) := bt_get s 0 (by omega)
 have hn := need_ev (s.get! 0).toNat
 rw [← hb] at hn
 rcases ref_sem s h0 with ⟨e, hk⟩ | ⟨g1, g4, hx⟩
 ·refine ⟨(0, 1, 4), ?_, Or.inr ⟨hk, by simp⟩⟩
  unfold backseatref01_First.f
  refine Ev.neg (by omega) (Ev.pos (by omega) (Ev.bind hn ?_))
  rw [e]
  exact Ev.pos rfl (Ev.ret _)
 ·have hl := ref_loop s (needN (s.get! 0).toNat) g1 g4 hs (needN (s.get! 0).toNat - 1) 1 (by omega) (Nat.le_refl _) (by omega)
  have hgo : ∀ r, Ev (fun k => backseatref01_First.l0 k s (needN (s.get! 0).toNat) ((1 : Nat) : Int)) r → Ev (fun k => backseatref01_First.f k s) r := fun r hr => by
   unfold backseatref01_First.f
   exact Ev.neg (by omega) (Ev.pos (by omega) (Ev.bind hn (Ev.neg (by omega) hr)))
  rcases hl with ⟨l1, l2⟩ | ⟨⟨i, l1, l2, l3⟩, a, e, le, l4⟩
  ·rcases hx with ⟨x1, x2, x3, x4⟩ | ⟨⟨i, x1, x2, x3⟩, _⟩
   ·exact ⟨_, hgo _ l2, Or.inl ⟨x2, by rw [x3, x4]⟩⟩
   ·exact absurd (l1 i x1 x2) x3
  ·rcases hx with ⟨x1, x2, x3, x4⟩ | ⟨_, x3⟩
   ·exact absurd (x1 i l1 l2) l3
   ·exact ⟨_, hgo _ l4, Or.inr ⟨x3, le⟩⟩
theorem full_of (s : ByteArray) (h : okD s) : fullN s.size (s.get! 0).toNat (s.get! 1).toNat (s.get! 2).toNat = true := by
 have h0 : s.size ≠ 0 := fun e => empty_not s e h
 unfold okD at h
 rw [dec_go s h0] at h
 have ha := byte_lt s 0
 have hb := byte_lt s 1
 have hc := byte_lt s 2
 have hd := byte_lt s 3
 generalize (s.get! 0).toNat = a at *
 generalize (s.get! 1).toNat = b at *
 generalize (s.get! 2).toNat = c at *
 generalize (s.get! 3).toNat = d at *
 have key : ∀ m, Lib.firstT a % 8 = m → m ≤ s.size → fullN s.size a b c = true := fun m h1 h2 => by
  unfold fullN; rw [if_neg h0, if_pos (by omega)]
 rcases need_cases a with ⟨e, g⟩ | ⟨e, g⟩ | ⟨e, g⟩ | ⟨e, g⟩ | ⟨e, g⟩
 ·rw [dec0 g ha] at h; exact absurd ⟨rfl, Nat.le_refl _⟩ h
 ·exact key 0 (by unfold Lib.firstT; rw [if_pos g]) (by omega)
 ·by_cases hk : 2 ≤ s.size ∧ 128 ≤ b ∧ b ≤ 191
  ·exact key 2 (by unfold Lib.firstT; rw [if_neg (by omega), if_neg (by omega), if_pos (by omega)]) hk.1
  ·rw [dec2n g hb hk] at h; exact absurd ⟨rfl, Nat.le_refl _⟩ h
 ·by_cases hk : 3 ≤ s.size ∧ (128 ≤ b ∧ b ≤ 191) ∧ (128 ≤ c ∧ c ≤ 191) ∧ 2048 ≤ a % 16 * 4096 + b % 64 * 64 + c % 64 ∧ (a % 16 * 4096 + b % 64 * 64 + c % 64 < 55296 ∨ 57343 < a % 16 * 4096 + b % 64 * 64 + c % 64)
  ·refine key 3 ?_ hk.1
   unfold Lib.firstT
   rw [if_neg (by omega), if_neg (by omega), if_neg (by omega)]
   repeat' split
   all_goals first | rfl | omega
  ·rw [dec3n g hb hc rfl hk] at h; exact absurd ⟨rfl, Nat.le_refl _⟩ h
 ·by_cases hk : 4 ≤ s.size ∧ (128 ≤ b ∧ b ≤ 191) ∧ (128 ≤ c ∧ c ≤ 191) ∧ (128 ≤ d ∧ d ≤ 191) ∧ 65536 ≤ a % 8 * 262144 + b % 64 * 4096 + c % 64 * 64 + d % 64 ∧ a % 8 * 262144 + b % 64 * 4096 + c % 64 * 64 + d % 64 ≤ 1114111
  ·refine key 4 ?_ hk.1
   have : a < 245 ∧ a ≤ 244 := by omega
   unfold Lib.firstT
   rw [if_neg (by omega), if_neg (by omega), if_neg (by omega), if_neg (by omega), if_neg (by omega), if_neg (by omega), if_neg (by omega)]
   repeat' split
   all_goals first | rfl | omega
  ·rw [dec4n g hb hc hd rfl hk] at h; exact absurd ⟨rfl, Nat.le_refl _⟩ h
theorem utf_loop (s : ByteArray) (hs : (s.size : Int) ≤ 9223372036854775807) : ∀ m x, x + m = s.size → ∃ y : Int, Ev (fun k => utf_First.l0 k s (x : Nat)) (0, y, 4)
 | 0, x, hx => ⟨x, Ev.succ (by simp only [utf_First.l0]; exact Ev.neg (by omega) (Ev.ret _))⟩
 | m + 1, x, hx => by
  have hw := w64 x (by omega)
  by_cases hf : fullN (s.extract 0 (x + 1)).size ((s.extract 0 (x + 1)).get! 0).toNat ((s.extract 0 (x + 1)).get! 1).toNat ((s.extract 0 (x + 1)).get! 2).toNat = true
  ·refine ⟨x, Ev.succ ?_⟩
   simp only [utf_First.l0]
   refine Ev.pos (by omega) ?_
   rw [hw]
   refine Ev.pos (by omega) (Ev.pos (by omega) ?_)
   rw [Int.toNat_natCast]
   exact Ev.bind (v := true) (Ev.of (by unfold utf8_FullRuneInString.f; rw [hf])) (Ev.pos rfl (Ev.ret _))
  ·obtain ⟨y, hy⟩ := utf_loop s hs m (x + 1) (by omega)
   refine ⟨y, Ev.succ ?_⟩
   simp only [utf_First.l0]
   refine Ev.pos (by omega) ?_
   rw [hw]
   refine Ev.pos (by omega) (Ev.pos (by omega) ?_)
   rw [Int.toNat_natCast]
   exact Ev.bind (v := false) (Ev.of (by unfold utf8_FullRuneInString.f; rw [Bool.eq_false_iff.2 hf])) (Ev.neg (by decide) hy)
theorem utf_first (s : ByteArray) (hs : (s.size : Int) ≤ 9223372036854775807) : ∃ r, Ev (fun k => utf_First.f k s) r ∧ FirstIs s r := by
 unfold utf_First.f utf8_FullRuneInString.f utf8_DecodeRuneInString.f
 by_cases hf : fullN s.size (s.get! 0).toNat (s.get! 1).toNat (s.get! 2).toNat = true
 ·have hstep : ∀ r, Ev (fun k => if ((decodeGo s).1 : Int) = 65533 then utf_First.j0 k s (decodeGo s).1 (decodeGo s).2 (decide (((decodeGo s).2 : Int) > 1)) else utf_First.j0 k s (decodeGo s).1 (decodeGo s).2 true) r →
    Ev (fun k => (some (fullN s.size (s.get! 0).toNat (s.get! 1).toNat (s.get! 2).toNat)).bind fun t124 => if t124 = true then (some (((decodeGo s).1 : Int), ((decodeGo s).2 : Int))).bind fun bt125 => if bt125.1 = 65533 then utf_First.j0 k s bt125.1 bt125.2 (decide (bt125.2 > 1)) else utf_First.j0 k s bt125.1 bt125.2 true else some (0, 0, 2)) r := fun r hr =>
   Ev.bind (v := true) (Ev.of (by rw [hf])) (Ev.pos rfl (Ev.bind (v := (((decodeGo s).1 : Int), ((decodeGo s).2 : Int))) (Ev.ret _) hr))
  have ht : Ev (fun k => utf_First.j0 k s (decodeGo s).1 (decodeGo s).2 true) (((decodeGo s).1 : Int), ((decodeGo s).2 : Int), 0) := Ev.succ (by simp only [utf_First.j0]; exact Ev.pos trivial (Ev.ret _))
  by_cases h1 : ((decodeGo s).1 : Int) = 65533
  ·by_cases h2 : ((decodeGo s).2 : Int) > 1
   ·refine ⟨_, hstep _ (Ev.pos h1 ?_), Or.inl ⟨fun h => by omega, rfl⟩⟩
    rw [decide_eq_true h2]; exact ht
   ·obtain ⟨y, hy⟩ := utf_loop s hs (s.size - (decodeGo s).2) (decodeGo s).2 (by
     have : (decodeGo s).2 ≤ 1 := by omega
     have : s.size ≠ 0 := fun e => by rw [e] at hf; simp [fullN] at hf
     omega)
    refine ⟨(0, y, 4), hstep _ (Ev.pos h1 ?_), Or.inr ⟨fun h => h ⟨by omega, by omega⟩, by simp⟩⟩
    rw [decide_eq_false h2]
    exact Ev.succ (by simp only [utf_First.j0]; exact Ev.neg (by decide) hy)
  ·exact ⟨_, hstep _ (Ev.neg h1 ht), Or.inl ⟨fun h => by omega, rfl⟩⟩
 ·refine ⟨(0, 0, 2), Ev.bind (v := false) (Ev.of (by rw [Bool.eq_false_iff.2 hf])) (Ev.neg (by decide) (Ev.ret _)), Or.inr ⟨fun h => hf (full_of s h), by simp⟩⟩
end Go.Proofs.YtckkdaehmccjlaaDoor.P
namespace Go.Proofs.YtckkdaehmccjlaaDoor.P
open Go.RowKit Go.Proofs.YtckkdaehmccjlaaDoorW.PrintWords Go.Proofs.YtckkdaehmccjlaaDoorW.PrintLast Go.Proofs.YtckkdaehmccjlaaDoorW.PrintMore
attribute [local go_sem] max2_int min2_int max_two min_two max_three min_three max_four min_four   -- for this text's walks alone
set_option linter.unusedVariables false
set_option linter.unusedSimpArgs false
def backseatref01_Is.f (a0 : Int) : Option (Bool) := if a0 ≥ 0 then (if a0 ≤ 1114111 then (if a0 < 55296 then (some true) else (some (decide (a0 > 57343)))) else (some false)) else (some false)
set_option maxHeartbeats 8000000 in
set_option maxRecDepth 100000 in
theorem backseatref01_Is.calls (a0 : Int) (r : Bool) (w : World) (h : backseatref01_Is.f a0 = some r) :
  Calls Tryd.prog 94 #[.int .i32 a0] w fun e w' => e = .returned (.bool r) ∧ Drawn0 w w' := by
 have H : (if a0 ≥ 0 then (if a0 ≤ 1114111 then (if a0 < 55296 then (some true) else (some (decide (a0 > 57343)))) else (some false)) else (some false)) = some r := h
 clear h
 by_cases c2 : a0 ≥ 0
 ·rw [if_pos c2] at H
  have c2b0 : decide (0 ≤ a0) = true := decide_eq_true c2
  clear c2
  by_cases c3 : a0 ≤ 1114111
  ·rw [if_pos c3] at H
   have c3b0 : decide (a0 ≤ 1114111) = true := decide_eq_true c3
   clear c3
   by_cases c4 : a0 < 55296
   ·rw [if_pos c4] at H
    have c4b0 : decide (a0 < 55296) = true := decide_eq_true c4
    clear c4
    obtain rfl := Option.some.inj H
    go_enter Tryd.func94, Tryd.ntmps94
    go_wp2
    go_ret
    exact ⟨by first | rfl | (simp; done) | (simp [*]; done), by repeat (first | exact Drawn0.refl _ | apply Drawn0.step)⟩
   ·rw [if_neg c4] at H
    have c4b0 : decide (a0 < 55296) = false := decide_eq_false c4
    clear c4
    obtain rfl := Option.some.inj H
    go_enter Tryd.func94, Tryd.ntmps94
    go_wp2
    go_ret
    exact ⟨by first | rfl | (simp; done) | (simp [*]; done), by repeat (first | exact Drawn0.refl _ | apply Drawn0.step)⟩
  ·rw [if_neg c3] at H
   have c3b0 : decide (a0 ≤ 1114111) = false := decide_eq_false c3
   clear c3
   obtain rfl := Option.some.inj H
   go_enter Tryd.func94, Tryd.ntmps94
   go_wp2
   go_ret
   exact ⟨by first | rfl | (simp; done) | (simp [*]; done), by repeat (first | exact Drawn0.refl _ | apply Drawn0.step)⟩
 ·rw [if_neg c2] at H
  have c2b0 : decide (0 ≤ a0) = false := decide_eq_false c2
  clear c2
  obtain rfl := Option.some.inj H
  go_enter Tryd.func94, Tryd.ntmps94
  go_wp2
  go_ret
  exact ⟨by first | rfl | (simp; done) | (simp [*]; done), by repeat (first | exact Drawn0.refl _ | apply Drawn0.step)⟩
def backseatref01_in.f (a0 : Int) (a1 : Int) (a2 : Int) : Option (Bool) := if a0 ≥ a1 then (some (decide (a0 ≤ a2))) else (some false)
set_option maxHeartbeats 8000000 in
set_option maxRecDepth 100000 in
theorem backseatref01_in.calls (a0 : Int) (a1 : Int) (a2 : Int) (r : Bool) (w : World) (h : backseatref01_in.f a0 a1 a2 = some r) :
  Calls Tryd.prog 95 #[.int .i32 a0, .int .i32 a1, .int .i32 a2] w fun e w' => e = .returned (.bool r) ∧ Drawn0 w w' := by
 have H : (if a0 ≥ a1 then (some (decide (a0 ≤ a2))) else (some false)) = some r := h
 clear h
 by_cases c4 : a0 ≥ a1
 ·rw [if_pos c4] at H
  have c4b0 : decide (a1 ≤ a0) = true := decide_eq_true c4
  clear c4
  obtain rfl := Option.some.inj H
  go_enter Tryd.func95, Tryd.ntmps95
  go_wp2
  go_ret
  exact ⟨by first | rfl | (simp; done) | (simp [*]; done), by repeat (first | exact Drawn0.refl _ | apply Drawn0.step)⟩
 ·rw [if_neg c4] at H
  have c4b0 : decide (a1 ≤ a0) = false := decide_eq_false c4
  clear c4
  obtain rfl := Option.some.inj H
  go_enter Tryd.func95, Tryd.ntmps95
  go_wp2
  go_ret
  exact ⟨by first | rfl | (simp; done) | (simp [*]; done), by repeat (first | exact Drawn0.refl _ | apply Drawn0.step)⟩
mutual
def backseatref01_Width.j0 : Nat → Int → Bool → Option (Int)
 | 0, _, _ => none
 | k + 1, x0, x13 => if x13 = true then (some (-1)) else ((backseatref01_in.f x0 768 879).bind fun t209 => (if t209 = true then (backseatref01_Width.j1 k x0 true) else ((backseatref01_in.f x0 8203 8205).bind fun t210 => (if t210 = true then (backseatref01_Width.j1 k x0 true) else ((backseatref01_in.f x0 65024 65039).bind fun t211 => (backseatref01_Width.j1 k x0 t211))))))
def backseatref01_Width.j1 : Nat → Int → Bool → Option (Int)
 | 0, _, _ => none
 | k + 1, x0, x23 => if x23 = true then (some 0) else ((backseatref01_in.f x0 4352 4447).bind fun t212 => (if t212 = true then (backseatref01_Width.j2 k x0 true) else ((backseatref01_in.f x0 12353 19903).bind fun t213 => (if t213 = true then (backseatref01_Width.j2 k x0 true) else ((backseatref01_in.f x0 19968 40959).bind fun t214 => (if t214 = true then (backseatref01_Width.j2 k x0 true) else ((backseatref01_in.f x0 44032 55203).bind fun t215 => (backseatref01_Width.j2 k x0 t215))))))))
def backseatref01_Width.j2 : Nat → Int → Bool → Option (Int)
 | 0, _, _ => none
 | k + 1, x0, x37 => if x37 = true then (some 2) else ((backseatref01_in.f x0 63744 64255).bind fun t216 => (if t216 = true then (some 2) else ((backseatref01_in.f x0 65281 65376).bind fun t217 => (if t217 = true then (some 2) else ((backseatref01_in.f x0 127744 129791).bind fun t218 => (if t218 = true then (some 2) else ((backseatref01_in.f x0 131072 262141).bind fun t219 => (if t219 = true then (some 2) else (some 1)))))))))
end
def backseatref01_Width.f (k : Nat) (a0 : Int) : Option (Int) := (backseatref01_Is.f a0).bind fun t207 => (if t207 = true then (if a0 < 32 then (backseatref01_Width.j0 k a0 true) else ((backseatref01_in.f a0 127 159).bind fun t208 => (backseatref01_Width.j0 k a0 t208))) else (backseatref01_Width.j0 k a0 true))
set_option maxHeartbeats 8000000 in
set_option maxRecDepth 100000 in
theorem backseatref01_Width.calls (k : Nat) (a0 : Int) (r : Int) (w : World) (h : backseatref01_Width.f k a0 = some r) :
  Calls Tryd.prog 75 #[.int .i32 a0] w fun e w' => e = .returned (.int .i64 r) ∧ Drawn0 w w' := by
 have H : ((backseatref01_Is.f a0).bind fun t207 => (if t207 = true then (if a0 < 32 then (backseatref01_Width.j0 k a0 true) else ((backseatref01_in.f a0 127 159).bind fun t208 => (backseatref01_Width.j0 k a0 t208))) else (backseatref01_Width.j0 k a0 true))) = some r := h
 clear h
 have HC2 := Aside0.mk H
 clear H
 go_enter Tryd.func75, Tryd.ntmps75
 go_upto_region 1 with (fail)
 go_cut [13] (fun v13 wc => ∃ (kq : Nat) (x13_1 : Bool), v13 = .bool x13_1 ∧ Aside0 (backseatref01_Width.j0 kq a0 x13_1 = some r) ∧ Aside0 (kq ≤ k) ∧ Drawn0 w wc)
 case first =>
  have H := HC2.out
  clear HC2
  replace H := Option.bind_eq_some_iff.mp H
  obtain ⟨t207, A30, H⟩ := H
  replace H : (if t207 = true then (if a0 < 32 then (backseatref01_Width.j0 k a0 true) else ((backseatref01_in.f a0 127 159).bind fun t208 => (backseatref01_Width.j0 k a0 t208))) else (backseatref01_Width.j0 k a0 true)) = some r := H
  have A3 := Aside0.mk A30
  clear A30
  by_cases c4 : t207 = true
  ·subst c4
   have H1 : (if a0 < 32 then (backseatref01_Width.j0 k a0 true) else ((backseatref01_in.f a0 127 159).bind fun t208 => (backseatref01_Width.j0 k a0 t208))) = some r := by rw [if_pos rfl] at H; exact H
   clear H
   have H := H1
   clear H1
   by_cases c5 : a0 < 32
   ·rw [if_pos c5] at H
    have c5b0 : decide (a0 < 32) = true := decide_eq_true c5
    clear c5
    (first | rw [c5b0] | (simp only [i64_w, i32_w]; rw [c5b0]) | skip)
    have H' := Aside0.mk H
    clear H
    go_wp2_with (first | ((with_reducible refine gate_callee (f := 94) rfl ?_); refine goesL_ (some 4) rfl rfl Tryd.func94 (by kernel_rfl) rfl #[.int .i32 a0] rfl zl ?_; (with_reducible refine (backseatref01_Is.calls a0 true _ A3.out).mono ?_); rintro e w' ⟨rfl, ⟨nd, rfl⟩⟩; refine ⟨_, rfl, ?_⟩))
    go_meet
    case rel => exact ⟨_, (true), zf, H', ⟨by first | omega | exact Nat.le_refl _⟩, by repeat (first | exact Drawn0.refl _ | apply Drawn0.step)⟩
   ·rw [if_neg c5] at H
    have c5b0 : decide (a0 < 32) = false := decide_eq_false c5
    clear c5
    (first | rw [c5b0] | (simp only [i64_w, i32_w]; rw [c5b0]) | skip)
    replace H := Option.bind_eq_some_iff.mp H
    obtain ⟨t208, A60, H⟩ := H
    replace H : (backseatref01_Width.j0 k a0 t208) = some r := H
    have A6 := Aside0.mk A60
    clear A60
    have H' := Aside0.mk H
    clear H
    go_wp2_with (first | ((with_reducible refine gate_callee (f := 94) rfl ?_); refine goesL_ (some 4) rfl rfl Tryd.func94 (by kernel_rfl) rfl #[.int .i32 a0] rfl zl ?_; (with_reducible refine (backseatref01_Is.calls a0 true _ A3.out).mono ?_); rintro e w' ⟨rfl, ⟨nd, rfl⟩⟩; refine ⟨_, rfl, ?_⟩) | (go_at_call 95; (with_reducible refine (backseatref01_in.calls a0 127 159 t208 _ A6.out).mono ?_); rintro e w' ⟨rfl, ⟨nd, rfl⟩⟩))
    go_meet
    case rel => exact ⟨_, (t208), zf, H', ⟨by first | omega | exact Nat.le_refl _⟩, by repeat (first | exact Drawn0.refl _ | apply Drawn0.step)⟩
  ·replace c4 := Bool.eq_false_iff.mpr c4
   subst c4
   have H1 : (backseatref01_Width.j0 k a0 true) = some r := by rw [if_neg (show ¬ (false = true) by decide)] at H; exact H
   clear H
   have H := H1
   clear H1
   have H' := Aside0.mk H
   clear H
   go_wp2_with (first | ((with_reducible refine gate_callee (f := 94) rfl ?_); refine goesL_ (some 4) rfl rfl Tryd.func94 (by kernel_rfl) rfl #[.int .i32 a0] rfl zl ?_; (with_reducible refine (backseatref01_Is.calls a0 false _ A3.out).mono ?_); rintro e w' ⟨rfl, ⟨nd, rfl⟩⟩; refine ⟨_, rfl, ?_⟩))
   go_meet
   case rel => exact ⟨_, (true), zf, H', ⟨by first | omega | exact Nat.le_refl _⟩, by repeat (first | exact Drawn0.refl _ | apply Drawn0.step)⟩
 case rest =>
  clear HC2
  obtain ⟨kq, x13_1, rfl, HA, HJ1, ⟨mc1, rfl⟩⟩ := hcut
  cases kq with
  | zero => exact absurd HA.out (by simp [backseatref01_Width.j0])
  | succ kj1 =>
   have H := HA.out
   clear HA
   simp only [backseatref01_Width.j0] at H
   by_cases c7 : x13_1 = true
   ·subst c7
    have H1 : (some (-1)) = some r := by rw [if_pos rfl] at H; exact H
    clear H
    have H := H1
    clear H1
    obtain rfl := Option.some.inj H
    go_wp2
    go_ret
    exact ⟨by first | rfl | (simp; done) | (simp [*]; done), by repeat (first | exact Drawn0.refl _ | apply Drawn0.step)⟩
   ·replace c7 := Bool.eq_false_iff.mpr c7
    subst c7
    have H1 : ((backseatref01_in.f a0 768 879).bind fun t209 => (if t209 = true then (backseatref01_Width.j1 kj1 a0 true) else ((backseatref01_in.f a0 8203 8205).bind fun t210 => (if t210 = true then (backseatref01_Width.j1 kj1 a0 true) else ((backseatref01_in.f a0 65024 65039).bind fun t211 => (backseatref01_Width.j1 kj1 a0 t211)))))) = some r := by rw [if_neg (show ¬ (false = true) by decide)] at H; exact H
    clear H
    have H := H1
    clear H1
    have HC8 := Aside0.mk H
    clear H
    go_upto_region 3 with (fail)
    go_cut [23] (fun v23 wc => ∃ (kq : Nat) (x23_7 : Bool), v23 = .bool x23_7 ∧ Aside0 (backseatref01_Width.j1 kq a0 x23_7 = some r) ∧ Aside0 (kq ≤ kj1) ∧ Drawn0 w wc)
    case first =>
     have H := HC8.out
     clear HC8
     replace H := Option.bind_eq_some_iff.mp H
     obtain ⟨t209, A90, H⟩ := H
     replace H : (if t209 = true then (backseatref01_Width.j1 kj1 a0 true) else ((backseatref01_in.f a0 8203 8205).bind fun t210 => (if t210 = true then (backseatref01_Width.j1 kj1 a0 true) else ((backseatref01_in.f a0 65024 65039).bind fun t211 => (backseatref01_Width.j1 kj1 a0 t211))))) = some r := H
     have A9 := Aside0.mk A90
     clear A90
     by_cases c10 : t209 = true
     ·subst c10
      have H1 : (backseatref01_Width.j1 kj1 a0 true) = some r := by rw [if_pos rfl] at H; exact H
      clear H
      have H := H1
      clear H1
      have H' := Aside0.mk H
      clear H
      go_wp2_with (first | ((with_reducible refine gate_callee (f := 95) rfl ?_); refine goesL_ (some 15) rfl rfl Tryd.func95 (by kernel_rfl) rfl #[.int .i32 a0, .int .i32 768, .int .i32 879] rfl zl ?_; (with_reducible refine (backseatref01_in.calls a0 768 879 true _ A9.out).mono ?_); rintro e w' ⟨rfl, ⟨nd, rfl⟩⟩; refine ⟨_, rfl, ?_⟩))
      go_meet
      case rel => exact ⟨_, (true), zf, H', ⟨by have := HJ1.out; first | omega | exact Nat.le_refl _⟩, by repeat (first | exact Drawn0.refl _ | apply Drawn0.step)⟩
     ·replace c10 := Bool.eq_false_iff.mpr c10
      subst c10
      have H1 : ((backseatref01_in.f a0 8203 8205).bind fun t210 => (if t210 = true then (backseatref01_Width.j1 kj1 a0 true) else ((backseatref01_in.f a0 65024 65039).bind fun t211 => (backseatref01_Width.j1 kj1 a0 t211)))) = some r := by rw [if_neg (show ¬ (false = true) by decide)] at H; exact H
      clear H
      have H := H1
      clear H1
      replace H := Option.bind_eq_some_iff.mp H
      obtain ⟨t210, A110, H⟩ := H
      replace H : (if t210 = true then (backseatref01_Width.j1 kj1 a0 true) else ((backseatref01_in.f a0 65024 65039).bind fun t211 => (backseatref01_Width.j1 kj1 a0 t211))) = some r := H
      have A11 := Aside0.mk A110
      clear A110
      by_cases c12 : t210 = true
      ·subst c12
       have H1 : (backseatref01_Width.j1 kj1 a0 true) = some r := by rw [if_pos rfl] at H; exact H
       clear H
       have H := H1
       clear H1
       have H' := Aside0.mk H
       clear H
       go_wp2_with (first | ((with_reducible refine gate_callee (f := 95) rfl ?_); refine goesL_ (some 15) rfl rfl Tryd.func95 (by kernel_rfl) rfl #[.int .i32 a0, .int .i32 768, .int .i32 879] rfl zl ?_; (with_reducible refine (backseatref01_in.calls a0 768 879 false _ A9.out).mono ?_); rintro e w' ⟨rfl, ⟨nd, rfl⟩⟩; refine ⟨_, rfl, ?_⟩) | (go_at_call 95; (with_reducible refine (backseatref01_in.calls a0 8203 8205 true _ A11.out).mono ?_); rintro e w' ⟨rfl, ⟨nd, rfl⟩⟩))
       go_meet
       case rel => exact ⟨_, (true), zf, H', ⟨by have := HJ1.out; first | omega | exact Nat.le_refl _⟩, by repeat (first | exact Drawn0.refl _ | apply Drawn0.step)⟩
      ·replace c12 := Bool.eq_false_iff.mpr c12
       subst c12
       have H1 : ((backseatref01_in.f a0 65024 65039).bind fun t211 => (backseatref01_Width.j1 kj1 a0 t211)) = some r := by rw [if_neg (show ¬ (false = true) by decide)] at H; exact H
       clear H
       have H := H1
       clear H1
       replace H := Option.bind_eq_some_iff.mp H
       obtain ⟨t211, A130, H⟩ := H
       replace H : (backseatref01_Width.j1 kj1 a0 t211) = some r := H
       have A13 := Aside0.mk A130
       clear A130
       have H' := Aside0.mk H
       clear H
       go_wp2_with (first | ((with_reducible refine gate_callee (f := 95) rfl ?_); refine goesL_ (some 15) rfl rfl Tryd.func95 (by kernel_rfl) rfl #[.int .i32 a0, .int .i32 768, .int .i32 879] rfl zl ?_; (with_reducible refine (backseatref01_in.calls a0 768 879 false _ A9.out).mono ?_); rintro e w' ⟨rfl, ⟨nd, rfl⟩⟩; refine ⟨_, rfl, ?_⟩) | (go_at_call 95; (with_reducible refine (backseatref01_in.calls a0 8203 8205 false _ A11.out).mono ?_); rintro e w' ⟨rfl, ⟨nd, rfl⟩⟩) | (go_at_call 95; (with_reducible refine (backseatref01_in.calls a0 65024 65039 t211 _ A13.out).mono ?_); rintro e w' ⟨rfl, ⟨nd, rfl⟩⟩))
       go_meet
       case rel => exact ⟨_, (t211), zf, H', ⟨by have := HJ1.out; first | omega | exact Nat.le_refl _⟩, by repeat (first | exact Drawn0.refl _ | apply Drawn0.step)⟩
    case rest =>
     clear HC8
     try clear c7
     obtain ⟨kq, x23_7, rfl, HA, HJ7, ⟨mc7, rfl⟩⟩ := hcut
     cases kq with
     | zero => exact absurd HA.out (by simp [backseatref01_Width.j1])
     | succ kj7 =>
      have H := HA.out
      clear HA
      simp only [backseatref01_Width.j1] at H
      by_cases c14 : x23_7 = true
      ·subst c14
       have H1 : (some 0) = some r := by rw [if_pos rfl] at H; exact H
       clear H
       have H := H1
       clear H1
       obtain rfl := Option.some.inj H
       go_wp2
       go_ret
       exact ⟨by first | rfl | (simp; done) | (simp [*]; done), by repeat (first | exact Drawn0.refl _ | apply Drawn0.step)⟩
      ·replace c14 := Bool.eq_false_iff.mpr c14
       subst c14
       have H1 : ((backseatref01_in.f a0 4352 4447).bind fun t212 => (if t212 = true then (backseatref01_Width.j2 kj7 a0 true) else ((backseatref01_in.f a0 12353 19903).bind fun t213 => (if t213 = true then (backseatref01_Width.j2 kj7 a0 true) else ((backseatref01_in.f a0 19968 40959).bind fun t214 => (if t214 = true then (backseatref01_Width.j2 kj7 a0 true) else ((backseatref01_in.f a0 44032 55203).bind fun t215 => (backseatref01_Width.j2 kj7 a0 t215)))))))) = some r := by rw [if_neg (show ¬ (false = true) by decide)] at H; exact H
       clear H
       have H := H1
       clear H1
       have HC15 := Aside0.mk H
       clear H
       go_upto_region 5 with (fail)
       go_cut [37] (fun v37 wc => ∃ (kq : Nat) (x37_14 : Bool), v37 = .bool x37_14 ∧ Aside0 (backseatref01_Width.j2 kq a0 x37_14 = some r) ∧ Aside0 (kq ≤ kj7) ∧ Drawn0 w wc)
       case first =>
        have H := HC15.out
        clear HC15
        replace H := Option.bind_eq_some_iff.mp H
        obtain ⟨t212, A160, H⟩ := H
        replace H : (if t212 = true then (backseatref01_Width.j2 kj7 a0 true) else ((backseatref01_in.f a0 12353 19903).bind fun t213 => (if t213 = true then (backseatref01_Width.j2 kj7 a0 true) else ((backseatref01_in.f a0 19968 40959).bind fun t214 => (if t214 = true then (backseatref01_Width.j2 kj7 a0 true) else ((backseatref01_in.f a0 44032 55203).bind fun t215 => (backseatref01_Width.j2 kj7 a0 t215))))))) = some r := H
        have A16 := Aside0.mk A160
        clear A160
        by_cases c17 : t212 = true
        ·subst c17
         have H1 : (backseatref01_Width.j2 kj7 a0 true) = some r := by rw [if_pos rfl] at H; exact H
         clear H
         have H := H1
         clear H1
         have H' := Aside0.mk H
         clear H
         go_wp2_with (first | ((with_reducible refine gate_callee (f := 95) rfl ?_); refine goesL_ (some 25) rfl rfl Tryd.func95 (by kernel_rfl) rfl #[.int .i32 a0, .int .i32 4352, .int .i32 4447] rfl zl ?_; (with_reducible refine (backseatref01_in.calls a0 4352 4447 true _ A16.out).mono ?_); rintro e w' ⟨rfl, ⟨nd, rfl⟩⟩; refine ⟨_, rfl, ?_⟩))
         go_meet
         case rel => exact ⟨_, (true), zf, H', ⟨by have := HJ1.out; have := HJ7.out; first | omega | exact Nat.le_refl _⟩, by repeat (first | exact Drawn0.refl _ | apply Drawn0.step)⟩
        ·replace c17 := Bool.eq_false_iff.mpr c17
         subst c17
         have H1 : ((backseatref01_in.f a0 12353 19903).bind fun t213 => (if t213 = true then (backseatref01_Width.j2 kj7 a0 true) else ((backseatref01_in.f a0 19968 40959).bind fun t214 => (if t214 = true then (backseatref01_Width.j2 kj7 a0 true) else ((backseatref01_in.f a0 44032 55203).bind fun t215 => (backseatref01_Width.j2 kj7 a0 t215)))))) = some r := by rw [if_neg (show ¬ (false = true) by decide)] at H; exact H
         clear H
         have H := H1
         clear H1
         replace H := Option.bind_eq_some_iff.mp H
         obtain ⟨t213, A180, H⟩ := H
         replace H : (if t213 = true then (backseatref01_Width.j2 kj7 a0 true) else ((backseatref01_in.f a0 19968 40959).bind fun t214 => (if t214 = true then (backseatref01_Width.j2 kj7 a0 true) else ((backseatref01_in.f a0 44032 55203).bind fun t215 => (backseatref01_Width.j2 kj7 a0 t215))))) = some r := H
         have A18 := Aside0.mk A180
         clear A180
         by_cases c19 : t213 = true
         ·subst c19
          have H1 : (backseatref01_Width.j2 kj7 a0 true) = some r := by rw [if_pos rfl] at H; exact H
          clear H
          have H := H1
          clear H1
          have H' := Aside0.mk H
          clear H
          go_wp2_with (first | ((with_reducible refine gate_callee (f := 95) rfl ?_); refine goesL_ (some 25) rfl rfl Tryd.func95 (by kernel_rfl) rfl #[.int .i32 a0, .int .i32 4352, .int .i32 4447] rfl zl ?_; (with_reducible refine (backseatref01_in.calls a0 4352 4447 false _ A16.out).mono ?_); rintro e w' ⟨rfl, ⟨nd, rfl⟩⟩; refine ⟨_, rfl, ?_⟩) | (go_at_call 95; (with_reducible refine (backseatref01_in.calls a0 12353 19903 true _ A18.out).mono ?_); rintro e w' ⟨rfl, ⟨nd, rfl⟩⟩))
          go_meet
          case rel => exact ⟨_, (true), zf, H', ⟨by have := HJ1.out; have := HJ7.out; first | omega | exact Nat.le_refl _⟩, by repeat (first | exact Drawn0.refl _ | apply Drawn0.step)⟩
         ·replace c19 := Bool.eq_false_iff.mpr c19
          subst c19
          have H1 : ((backseatref01_in.f a0 19968 40959).bind fun t214 => (if t214 = true then (backseatref01_Width.j2 kj7 a0 true) else ((backseatref01_in.f a0 44032 55203).bind fun t215 => (backseatref01_Width.j2 kj7 a0 t215)))) = some r := by rw [if_neg (show ¬ (false = true) by decide)] at H; exact H
          clear H
          have H := H1
          clear H1
          replace H := Option.bind_eq_some_iff.mp H
          obtain ⟨t214, A200, H⟩ := H
          replace H : (if t214 = true then (backseatref01_Width.j2 kj7 a0 true) else ((backseatref01_in.f a0 44032 55203).bind fun t215 => (backseatref01_Width.j2 kj7 a0 t215))) = some r := H
          have A20 := Aside0.mk A200
          clear A200
          by_cases c21 : t214 = true
          ·subst c21
           have H1 : (backseatref01_Width.j2 kj7 a0 true) = some r := by rw [if_pos rfl] at H; exact H
           clear H
           have H := H1
           clear H1
           have H' := Aside0.mk H
           clear H
           go_wp2_with (first | ((with_reducible refine gate_callee (f := 95) rfl ?_); refine goesL_ (some 25) rfl rfl Tryd.func95 (by kernel_rfl) rfl #[.int .i32 a0, .int .i32 4352, .int .i32 4447] rfl zl ?_; (with_reducible refine (backseatref01_in.calls a0 4352 4447 false _ A16.out).mono ?_); rintro e w' ⟨rfl, ⟨nd, rfl⟩⟩; refine ⟨_, rfl, ?_⟩) | (go_at_call 95; (with_reducible refine (backseatref01_in.calls a0 12353 19903 false _ A18.out).mono ?_); rintro e w' ⟨rfl, ⟨nd, rfl⟩⟩) | (go_at_call 95; (with_reducible refine (backseatref01_in.calls a0 19968 40959 true _ A20.out).mono ?_); rintro e w' ⟨rfl, ⟨nd, rfl⟩⟩))
           go_meet
           case rel => exact ⟨_, (true), zf, H', ⟨by have := HJ1.out; have := HJ7.out; first | omega | exact Nat.le_refl _⟩, by repeat (first | exact Drawn0.refl _ | apply Drawn0.step)⟩
          ·replace c21 := Bool.eq_false_iff.mpr c21
           subst c21
           have H1 : ((backseatref01_in.f a0 44032 55203).bind fun t215 => (backseatref01_Width.j2 kj7 a0 t215)) = some r := by rw [if_neg (show ¬ (false = true) by decide)] at H; exact H
           clear H
           have H := H1
           clear H1
           replace H := Option.bind_eq_some_iff.mp H
           obtain ⟨t215, A220, H⟩ := H
           replace H : (backseatref01_Width.j2 kj7 a0 t215) = some r := H
           have A22 := Aside0.mk A220
           clear A220
           have H' := Aside0.mk H
           clear H
           go_wp2_with (first | ((with_reducible refine gate_callee (f := 95) rfl ?_); refine goesL_ (some 25) rfl rfl Tryd.func95 (by kernel_rfl) rfl #[.int .i32 a0, .int .i32 4352, .int .i32 4447] rfl zl ?_; (with_reducible refine (backseatref01_in.calls a0 4352 4447 false _ A16.out).mono ?_); rintro e w' ⟨rfl, ⟨nd, rfl⟩⟩; refine ⟨_, rfl, ?_⟩) | (go_at_call 95; (with_reducible refine (backseatref01_in.calls a0 12353 19903 false _ A18.out).mono ?_); rintro e w' ⟨rfl, ⟨nd, rfl⟩⟩) | (go_at_call 95; (with_reducible refine (backseatref01_in.calls a0 19968 40959 false _ A20.out).mono ?_); rintro e w' ⟨rfl, ⟨nd, rfl⟩⟩) | (go_at_call 95; (with_reducible refine (backseatref01_in.calls a0 44032 55203 t215 _ A22.out).mono ?_); rintro e w' ⟨rfl, ⟨nd, rfl⟩⟩))
           go_meet
           case rel => exact ⟨_, (t215), zf, H', ⟨by have := HJ1.out; have := HJ7.out; first | omega | exact Nat.le_refl _⟩, by repeat (first | exact Drawn0.refl _ | apply Drawn0.step)⟩
       case rest =>
        clear HC15
        try clear c7
        try clear c14
        obtain ⟨kq, x37_14, rfl, HA, HJ14, ⟨mc14, rfl⟩⟩ := hcut
        cases kq with
        | zero => exact absurd HA.out (by simp [backseatref01_Width.j2])
        | succ kj14 =>
         have H := HA.out
         clear HA
         simp only [backseatref01_Width.j2] at H
         by_cases c23 : x37_14 = true
         ·subst c23
          have H1 : (some 2) = some r := by rw [if_pos rfl] at H; exact H
          clear H
          have H := H1
          clear H1
          obtain rfl := Option.some.inj H
          go_wp2
          go_ret
          exact ⟨by first | rfl | (simp; done) | (simp [*]; done), by repeat (first | exact Drawn0.refl _ | apply Drawn0.step)⟩
         ·replace c23 := Bool.eq_false_iff.mpr c23
          subst c23
          have H1 : ((backseatref01_in.f a0 63744 64255).bind fun t216 => (if t216 = true then (some 2) else ((backseatref01_in.f a0 65281 65376).bind fun t217 => (if t217 = true then (some 2) else ((backseatref01_in.f a0 127744 129791).bind fun t218 => (if t218 = true then (some 2) else ((backseatref01_in.f a0 131072 262141).bind fun t219 => (if t219 = true then (some 2) else (some 1))))))))) = some r := by rw [if_neg (show ¬ (false = true) by decide)] at H; exact H
          clear H
          have H := H1
          clear H1
          replace H := Option.bind_eq_some_iff.mp H
          obtain ⟨t216, A240, H⟩ := H
          replace H : (if t216 = true then (some 2) else ((backseatref01_in.f a0 65281 65376).bind fun t217 => (if t217 = true then (some 2) else ((backseatref01_in.f a0 127744 129791).bind fun t218 => (if t218 = true then (some 2) else ((backseatref01_in.f a0 131072 262141).bind fun t219 => (if t219 = true then (some 2) else (some 1)))))))) = some r := H
          have A24 := Aside0.mk A240
          clear A240
          by_cases c25 : t216 = true
          ·subst c25
           have H1 : (some 2) = some r := by rw [if_pos rfl] at H; exact H
           clear H
           have H := H1
           clear H1
           obtain rfl := Option.some.inj H
           go_wp2_with (first | ((with_reducible refine gate_callee (f := 95) rfl ?_); refine goesL_ (some 39) rfl rfl Tryd.func95 (by kernel_rfl) rfl #[.int .i32 a0, .int .i32 63744, .int .i32 64255] rfl zl ?_; (with_reducible refine (backseatref01_in.calls a0 63744 64255 true _ A24.out).mono ?_); rintro e w' ⟨rfl, ⟨nd, rfl⟩⟩; refine ⟨_, rfl, ?_⟩))
           go_ret
           exact ⟨by first | rfl | (simp; done) | (simp [*]; done), by repeat (first | exact Drawn0.refl _ | apply Drawn0.step)⟩
          ·replace c25 := Bool.eq_false_iff.mpr c25
           subst c25
           have H1 : ((backseatref01_in.f a0 65281 65376).bind fun t217 => (if t217 = true then (some 2) else ((backseatref01_in.f a0 127744 129791).bind fun t218 => (if t218 = true then (some 2) else ((backseatref01_in.f a0 131072 262141).bind fun t219 => (if t219 = true then (some 2) else (some 1))))))) = some r := by rw [if_neg (show ¬ (false = true) by decide)] at H; exact H
           clear H
           have H := H1
           clear H1
           replace H := Option.bind_eq_some_iff.mp H
           obtain ⟨t217, A260, H⟩ := H
           replace H : (if t217 = true then (some 2) else ((backseatref01_in.f a0 127744 129791).bind fun t218 => (if t218 = true then (some 2) else ((backseatref01_in.f a0 131072 262141).bind fun t219 => (if t219 = true then (some 2) else (some 1)))))) = some r := H
           have A26 := Aside0.mk A260
           clear A260
           by_cases c27 : t217 = true
           ·subst c27
            have H1 : (some 2) = some r := by rw [if_pos rfl] at H; exact H
            clear H
            have H := H1
            clear H1
            obtain rfl := Option.some.inj H
            go_wp2_with (first | ((with_reducible refine gate_callee (f := 95) rfl ?_); refine goesL_ (some 39) rfl rfl Tryd.func95 (by kernel_rfl) rfl #[.int .i32 a0, .int .i32 63744, .int .i32 64255] rfl zl ?_; (with_reducible refine (backseatref01_in.calls a0 63744 64255 false _ A24.out).mono ?_); rintro e w' ⟨rfl, ⟨nd, rfl⟩⟩; refine ⟨_, rfl, ?_⟩) | (go_at_call 95; (with_reducible refine (backseatref01_in.calls a0 65281 65376 true _ A26.out).mono ?_); rintro e w' ⟨rfl, ⟨nd, rfl⟩⟩))
            go_ret
            exact ⟨by first | rfl | (simp; done) | (simp [*]; done), by repeat (first | exact Drawn0.refl _ | apply Drawn0.step)⟩
           ·replace c27 := Bool.eq_false_iff.mpr c27
            subst c27
            have H1 : ((backseatref01_in.f a0 127744 129791).bind fun t218 => (if t218 = true then (some 2) else ((backseatref01_in.f a0 131072 262141).bind fun t219 => (if t219 = true then (some 2) else (some 1))))) = some r := by rw [if_neg (show ¬ (false = true) by decide)] at H; exact H
            clear H
            have H := H1
            clear H1
            replace H := Option.bind_eq_some_iff.mp H
            obtain ⟨t218, A280, H⟩ := H
            replace H : (if t218 = true then (some 2) else ((backseatref01_in.f a0 131072 262141).bind fun t219 => (if t219 = true then (some 2) else (some 1)))) = some r := H
            have A28 := Aside0.mk A280
            clear A280
            by_cases c29 : t218 = true
            ·subst c29
             have H1 : (some 2) = some r := by rw [if_pos rfl] at H; exact H
             clear H
             have H := H1
             clear H1
             obtain rfl := Option.some.inj H
             go_wp2_with (first | ((with_reducible refine gate_callee (f := 95) rfl ?_); refine goesL_ (some 39) rfl rfl Tryd.func95 (by kernel_rfl) rfl #[.int .i32 a0, .int .i32 63744, .int .i32 64255] rfl zl ?_; (with_reducible refine (backseatref01_in.calls a0 63744 64255 false _ A24.out).mono ?_); rintro e w' ⟨rfl, ⟨nd, rfl⟩⟩; refine ⟨_, rfl, ?_⟩) | (go_at_call 95; (with_reducible refine (backseatref01_in.calls a0 65281 65376 false _ A26.out).mono ?_); rintro e w' ⟨rfl, ⟨nd, rfl⟩⟩) | (go_at_call 95; (with_reducible refine (backseatref01_in.calls a0 127744 129791 true _ A28.out).mono ?_); rintro e w' ⟨rfl, ⟨nd, rfl⟩⟩))
             go_ret
             exact ⟨by first | rfl | (simp; done) | (simp [*]; done), by repeat (first | exact Drawn0.refl _ | apply Drawn0.step)⟩
            ·replace c29 := Bool.eq_false_iff.mpr c29
             subst c29
             have H1 : ((backseatref01_in.f a0 131072 262141).bind fun t219 => (if t219 = true then (some 2) else (some 1))) = some r := by rw [if_neg (show ¬ (false = true) by decide)] at H; exact H
             clear H
             have H := H1
             clear H1
             replace H := Option.bind_eq_some_iff.mp H
             obtain ⟨t219, A300, H⟩ := H
             replace H : (if t219 = true then (some 2) else (some 1)) = some r := H
             have A30 := Aside0.mk A300
             clear A300
             by_cases c31 : t219 = true
             ·subst c31
              have H1 : (some 2) = some r := by rw [if_pos rfl] at H; exact H
              clear H
              have H := H1
              clear H1
              obtain rfl := Option.some.inj H
              go_wp2_with (first | ((with_reducible refine gate_callee (f := 95) rfl ?_); refine goesL_ (some 39) rfl rfl Tryd.func95 (by kernel_rfl) rfl #[.int .i32 a0, .int .i32 63744, .int .i32 64255] rfl zl ?_; (with_reducible refine (backseatref01_in.calls a0 63744 64255 false _ A24.out).mono ?_); rintro e w' ⟨rfl, ⟨nd, rfl⟩⟩; refine ⟨_, rfl, ?_⟩) | (go_at_call 95; (with_reducible refine (backseatref01_in.calls a0 65281 65376 false _ A26.out).mono ?_); rintro e w' ⟨rfl, ⟨nd, rfl⟩⟩) | (go_at_call 95; (with_reducible refine (backseatref01_in.calls a0 127744 129791 false _ A28.out).mono ?_); rintro e w' ⟨rfl, ⟨nd, rfl⟩⟩) | (go_at_call 95; (with_reducible refine (backseatref01_in.calls a0 131072 262141 true _ A30.out).mono ?_); rintro e w' ⟨rfl, ⟨nd, rfl⟩⟩))
              go_ret
              exact ⟨by first | rfl | (simp; done) | (simp [*]; done), by repeat (first | exact Drawn0.refl _ | apply Drawn0.step)⟩
             ·replace c31 := Bool.eq_false_iff.mpr c31
              subst c31
              have H1 : (some 1) = some r := by rw [if_neg (show ¬ (false = true) by decide)] at H; exact H
              clear H
              have H := H1
              clear H1
              obtain rfl := Option.some.inj H
              go_wp2_with (first | ((with_reducible refine gate_callee (f := 95) rfl ?_); refine goesL_ (some 39) rfl rfl Tryd.func95 (by kernel_rfl) rfl #[.int .i32 a0, .int .i32 63744, .int .i32 64255] rfl zl ?_; (with_reducible refine (backseatref01_in.calls a0 63744 64255 false _ A24.out).mono ?_); rintro e w' ⟨rfl, ⟨nd, rfl⟩⟩; refine ⟨_, rfl, ?_⟩) | (go_at_call 95; (with_reducible refine (backseatref01_in.calls a0 65281 65376 false _ A26.out).mono ?_); rintro e w' ⟨rfl, ⟨nd, rfl⟩⟩) | (go_at_call 95; (with_reducible refine (backseatref01_in.calls a0 127744 129791 false _ A28.out).mono ?_); rintro e w' ⟨rfl, ⟨nd, rfl⟩⟩) | (go_at_call 95; (with_reducible refine (backseatref01_in.calls a0 131072 262141 false _ A30.out).mono ?_); rintro e w' ⟨rfl, ⟨nd, rfl⟩⟩))
              go_ret
              exact ⟨by first | rfl | (simp; done) | (simp [*]; done), by repeat (first | exact Drawn0.refl _ | apply Drawn0.step)⟩
end Go.Proofs.YtckkdaehmccjlaaDoor.P
namespace Go.Proofs.YtckkdaehmccjlaaDoor.P
set_option linter.unusedVariables false
set_option linter.unusedSimpArgs false
def inB (r lo hi : Int) : Bool := decide (lo ≤ r) && decide (r ≤ hi)
theorem in_f (r lo hi : Int) : backseatref01_in.f r lo hi = some (inB r lo hi) := by
 unfold backseatref01_in.f inB
 by_cases h : lo ≤ r <;> simp [h]
theorem is_f (r : Int) : backseatref01_Is.f r = some (Lib.validRune r) := by
 unfold backseatref01_Is.f Lib.validRune
 by_cases h0 : r ≥ 0
 ·by_cases h1 : r ≤ 1114111
  ·by_cases h2 : r < 55296
   ·rw [if_pos h0, if_pos h1, if_pos h2, decide_eq_true (by omega)]
   ·rw [if_pos h0, if_pos h1, if_neg h2]; congr 1; rw [decide_eq_decide]; omega
  ·rw [if_pos h0, if_neg h1, decide_eq_false (by omega)]
 ·rw [if_neg h0, decide_eq_false (by omega)]
def widthP (r : Int) : Int := if noLetter r = true then -1 else if inAny r zeroSpans = true then 0 else if inAny r wideSpans = true then 2 else 1
theorem utf_width (r : Int) : utf_Width.f r = some (widthP r) := rfl
theorem ref_width (r : Int) (k : Nat) : backseatref01_Width.f (k + 3) r = some (widthP r) := by
 have hz : inAny r zeroSpans = (inB r 768 879 || inB r 8203 8205 || inB r 65024 65039) := by simp [inAny, zeroSpans, inB, Bool.or_assoc]
 have hw : inAny r wideSpans = (inB r 4352 4447 || inB r 12353 19903 || inB r 19968 40959 || inB r 44032 55203 || inB r 63744 64255 || inB r 65281 65376 || inB r 127744 129791 || inB r 131072 262141) := by simp [inAny, wideSpans, inB, Bool.or_assoc]
 have hn : noLetter r = (!Lib.validRune r || decide (r < 32) || inB r 127 159) := by
  unfold noLetter inB
  congr 2
  rw [decide_eq_decide]; omega
 unfold widthP
 rw [hz, hw, hn]
 unfold backseatref01_Width.f
 simp only [is_f, in_f, Option.bind_some]
 have j0t : ∀ k, backseatref01_Width.j0 (k + 1) r true = some (-1) := fun k => by simp [backseatref01_Width.j0]
 have j1t : ∀ k, backseatref01_Width.j1 (k + 1) r true = some 0 := fun k => by simp [backseatref01_Width.j1]
 have j2t : ∀ k, backseatref01_Width.j2 (k + 1) r true = some 2 := fun k => by simp [backseatref01_Width.j2]
 have j2f : ∀ k, backseatref01_Width.j2 (k + 1) r false = some (if (inB r 63744 64255 || inB r 65281 65376 || inB r 127744 129791 || inB r 131072 262141) = true then 2 else 1) := fun k => by
  simp only [backseatref01_Width.j2, in_f, Option.bind_some]
  cases inB r 63744 64255 <;> cases inB r 65281 65376 <;> cases inB r 127744 129791 <;> cases inB r 131072 262141 <;> rfl
 have j1f : ∀ k, backseatref01_Width.j1 (k + 2) r false = some (if (inB r 4352 4447 || inB r 12353 19903 || inB r 19968 40959 || inB r 44032 55203 || inB r 63744 64255 || inB r 65281 65376 || inB r 127744 129791 || inB r 131072 262141) = true then 2 else 1) := fun k => by
  simp only [backseatref01_Width.j1, in_f, Option.bind_some]
  cases inB r 4352 4447 <;> cases inB r 12353 19903 <;> cases inB r 19968 40959 <;> cases inB r 44032 55203 <;> simp [j2t, j2f]
 have j0f : ∀ k, backseatref01_Width.j0 (k + 3) r false = some (if (inB r 768 879 || inB r 8203 8205 || inB r 65024 65039) = true then 0 else if (inB r 4352 4447 || inB r 12353 19903 || inB r 19968 40959 || inB r 44032 55203 || inB r 63744 64255 || inB r 65281 65376 || inB r 127744 129791 || inB r 131072 262141) = true then 2 else 1) := fun k => by
  simp only [backseatref01_Width.j0, in_f, Option.bind_some]
  cases inB r 768 879 <;> cases inB r 8203 8205 <;> cases inB r 65024 65039 <;> simp [j1t, j1f]
 cases Lib.validRune r
 ·simp [j0t]
 ·by_cases h : r < 32
  ·simp [h, j0t]
  ·simp only [h, if_true, if_false, decide_false, Bool.not_true, Bool.false_or]
   cases inB r 127 159
   ·rw [j0f]; simp
   ·rw [j0t]; simp
theorem ref_width_ev (r : Int) : Ev (fun k => backseatref01_Width.f k r) (widthP r) := ⟨3, fun k hk => by
 obtain ⟨j, rfl⟩ : ∃ j, k = j + 3 := ⟨k - 3, by omega⟩
 exact ref_width r j⟩
end Go.Proofs.YtckkdaehmccjlaaDoor.P
namespace Go.Proofs.YtckkdaehmccjlaaDoor.P
open Go.RowKit Go.Proofs.YtckkdaehmccjlaaDoorW.PrintWords Go.Proofs.YtckkdaehmccjlaaDoorW.PrintLast Go.Proofs.YtckkdaehmccjlaaDoorW.PrintMore
attribute [local go_sem] max2_int min2_int max_two min_two max_three min_three max_four min_four   -- for this text's walks alone
set_option linter.unusedVariables false
set_option linter.unusedSimpArgs false
def backseatref04_in.f (a0 : Int) (a1 : Int) (a2 : Int) : Option (Bool) := if a0 ≥ a1 then (some (decide (a0 ≤ a2))) else (some false)
set_option maxHeartbeats 8000000 in
set_option maxRecDepth 100000 in
theorem backseatref04_in.calls (a0 : Int) (a1 : Int) (a2 : Int) (r : Bool) (w : World) (h : backseatref04_in.f a0 a1 a2 = some r) :
  Calls Tryd.prog 90 #[.int .i64 a0, .int .i64 a1, .int .i64 a2] w fun e w' => e = .returned (.bool r) ∧ Drawn0 w w' := by
 have H : (if a0 ≥ a1 then (some (decide (a0 ≤ a2))) else (some false)) = some r := h
 clear h
 by_cases c4 : a0 ≥ a1
 ·rw [if_pos c4] at H
  have c4b0 : decide (a1 ≤ a0) = true := decide_eq_true c4
  clear c4
  obtain rfl := Option.some.inj H
  go_enter Tryd.func90, Tryd.ntmps90
  go_wp2
  go_ret
  exact ⟨by first | rfl | (simp; done) | (simp [*]; done), by repeat (first | exact Drawn0.refl _ | apply Drawn0.step)⟩
 ·rw [if_neg c4] at H
  have c4b0 : decide (a1 ≤ a0) = false := decide_eq_false c4
  clear c4
  obtain rfl := Option.some.inj H
  go_enter Tryd.func90, Tryd.ntmps90
  go_wp2
  go_ret
  exact ⟨by first | rfl | (simp; done) | (simp [*]; done), by repeat (first | exact Drawn0.refl _ | apply Drawn0.step)⟩
def backseatref04_Look.f (a0_0 : Int) (a0_1 : Int) (a0_2 : Int) : Option (Bool) := (backseatref04_in.f a0_0 0 256).bind fun t200 => (if t200 = true then ((backseatref04_in.f a0_1 0 256).bind fun t201 => (if t201 = true then ((backseatref04_in.f a0_2 0 255).bind fun t202 => (some t202)) else (some false))) else (some false))
set_option maxHeartbeats 8000000 in
set_option maxRecDepth 100000 in
theorem backseatref04_Look.calls (a0_0 : Int) (a0_1 : Int) (a0_2 : Int) (r : Bool) (w : World) (h : backseatref04_Look.f a0_0 a0_1 a0_2 = some r) :
  Calls Tryd.prog 73 #[.agg #[.int .i64 a0_0, .int .i64 a0_1, .int .i64 a0_2]] w fun e w' => e = .returned (.bool r) ∧ Below w.heap.size w w' := by
 have hu58 := Tryd.underlying58
 have HB := Aside0.mk (Below.refl w.heap.size w)
 have H : ((backseatref04_in.f a0_0 0 256).bind fun t200 => (if t200 = true then ((backseatref04_in.f a0_1 0 256).bind fun t201 => (if t201 = true then ((backseatref04_in.f a0_2 0 255).bind fun t202 => (some t202)) else (some false))) else (some false))) = some r := h
 clear h
 replace H := Option.bind_eq_some_iff.mp H
 obtain ⟨t200, A20, H⟩ := H
 replace H : (if t200 = true then ((backseatref04_in.f a0_1 0 256).bind fun t201 => (if t201 = true then ((backseatref04_in.f a0_2 0 255).bind fun t202 => (some t202)) else (some false))) else (some false)) = some r := H
 have A2 := Aside0.mk A20
 clear A20
 by_cases c3 : t200 = true
 ·subst c3
  have H1 : ((backseatref04_in.f a0_1 0 256).bind fun t201 => (if t201 = true then ((backseatref04_in.f a0_2 0 255).bind fun t202 => (some t202)) else (some false))) = some r := by rw [if_pos rfl] at H; exact H
  clear H
  have H := H1
  clear H1
  replace H := Option.bind_eq_some_iff.mp H
  obtain ⟨t201, A40, H⟩ := H
  replace H : (if t201 = true then ((backseatref04_in.f a0_2 0 255).bind fun t202 => (some t202)) else (some false)) = some r := H
  have A4 := Aside0.mk A40
  clear A40
  by_cases c5 : t201 = true
  ·subst c5
   have H1 : ((backseatref04_in.f a0_2 0 255).bind fun t202 => (some t202)) = some r := by rw [if_pos rfl] at H; exact H
   clear H
   have H := H1
   clear H1
   replace H := Option.bind_eq_some_iff.mp H
   obtain ⟨t202, A60, H⟩ := H
   replace H : (some t202) = some r := H
   have A6 := Aside0.mk A60
   clear A60
   obtain rfl := Option.some.inj H
   go_enter Tryd.func73, Tryd.ntmps73
   go_wp2_with (first | ((with_reducible refine gate_dst (N := 1) rfl ?_); refine box_event ?hg (N := 1) ?hd (cs := #[.int .i64 a0_0, .int .i64 a0_1, .int .i64 a0_2]) (t := 58) ?hr ?_; (case hd => rfl); (case hg => rfl); (case hr => exact zo); intro gb199 hg w7 hbox hb; have BK199 := Aside0.mk (hbox); have GW199 := Aside0.mk ((zg hg : w.heap.size ≤ gb199)); have GE199 := Aside0.mk ((zg hg : w.heap.size ≤ gb199)); replace HB := (zs HB hb); clear hb hbox hg; obtain ⟨hcz8_0, hcz8_1, hcz8_2, hfz8_0, hfz8_1, hfz8_2⟩ := zq3 (w := w7) BK199) | ((with_reducible refine gate_callee (f := 90) rfl ?_); refine goesL_ (some 5) rfl rfl Tryd.func90 (by kernel_rfl) rfl #[.int .i64 a0_0, .int .i64 0, .int .i64 256] rfl zl ?_; (with_reducible refine (backseatref04_in.calls a0_0 0 256 true _ A2.out).mono ?_); rintro e w' ⟨rfl, ⟨nd, rfl⟩⟩; refine ⟨_, rfl, ?_⟩) | (go_at_call 90; (with_reducible refine (backseatref04_in.calls a0_1 0 256 true _ A4.out).mono ?_); rintro e w' ⟨rfl, ⟨nd, rfl⟩⟩) | (go_at_call 90; (with_reducible refine (backseatref04_in.calls a0_2 0 255 t202 _ A6.out).mono ?_); rintro e w' ⟨rfl, ⟨nd, rfl⟩⟩))
   go_ret
   exact ⟨ze, zb⟩
  ·replace c5 := Bool.eq_false_iff.mpr c5
   subst c5
   have H1 : (some false) = some r := by rw [if_neg (show ¬ (false = true) by decide)] at H; exact H
   clear H
   have H := H1
   clear H1
   obtain rfl := Option.some.inj H
   go_enter Tryd.func73, Tryd.ntmps73
   go_wp2_with (first | ((with_reducible refine gate_dst (N := 1) rfl ?_); refine box_event ?hg (N := 1) ?hd (cs := #[.int .i64 a0_0, .int .i64 a0_1, .int .i64 a0_2]) (t := 58) ?hr ?_; (case hd => rfl); (case hg => rfl); (case hr => exact zo); intro gb199 hg w9 hbox hb; have BK199 := Aside0.mk (hbox); have GW199 := Aside0.mk ((zg hg : w.heap.size ≤ gb199)); have GE199 := Aside0.mk ((zg hg : w.heap.size ≤ gb199)); replace HB := (zs HB hb); clear hb hbox hg; obtain ⟨hcz10_0, hcz10_1, hcz10_2, hfz10_0, hfz10_1, hfz10_2⟩ := zq3 (w := w9) BK199) | ((with_reducible refine gate_callee (f := 90) rfl ?_); refine goesL_ (some 5) rfl rfl Tryd.func90 (by kernel_rfl) rfl #[.int .i64 a0_0, .int .i64 0, .int .i64 256] rfl zl ?_; (with_reducible refine (backseatref04_in.calls a0_0 0 256 true _ A2.out).mono ?_); rintro e w' ⟨rfl, ⟨nd, rfl⟩⟩; refine ⟨_, rfl, ?_⟩) | (go_at_call 90; (with_reducible refine (backseatref04_in.calls a0_1 0 256 false _ A4.out).mono ?_); rintro e w' ⟨rfl, ⟨nd, rfl⟩⟩))
   go_ret
   exact ⟨ze, zb⟩
 ·replace c3 := Bool.eq_false_iff.mpr c3
  subst c3
  have H1 : (some false) = some r := by rw [if_neg (show ¬ (false = true) by decide)] at H; exact H
  clear H
  have H := H1
  clear H1
  obtain rfl := Option.some.inj H
  go_enter Tryd.func73, Tryd.ntmps73
  go_wp2_with (first | ((with_reducible refine gate_dst (N := 1) rfl ?_); refine box_event ?hg (N := 1) ?hd (cs := #[.int .i64 a0_0, .int .i64 a0_1, .int .i64 a0_2]) (t := 58) ?hr ?_; (case hd => rfl); (case hg => rfl); (case hr => exact zo); intro gb199 hg w11 hbox hb; have BK199 := Aside0.mk (hbox); have GW199 := Aside0.mk ((zg hg : w.heap.size ≤ gb199)); have GE199 := Aside0.mk ((zg hg : w.heap.size ≤ gb199)); replace HB := (zs HB hb); clear hb hbox hg; obtain ⟨hcz12_0, hcz12_1, hcz12_2, hfz12_0, hfz12_1, hfz12_2⟩ := zq3 (w := w11) BK199) | ((with_reducible refine gate_callee (f := 90) rfl ?_); refine goesL_ (some 5) rfl rfl Tryd.func90 (by kernel_rfl) rfl #[.int .i64 a0_0, .int .i64 0, .int .i64 256] rfl zl ?_; (with_reducible refine (backseatref04_in.calls a0_0 0 256 false _ A2.out).mono ?_); rintro e w' ⟨rfl, ⟨nd, rfl⟩⟩; refine ⟨_, rfl, ?_⟩))
  go_ret
  exact ⟨ze, zb⟩
mutual
def backseatref04_Right.j0 : Nat → Bool → ByteArray → Int → Int → Int → Int → Option (Bool)
 | 0, _, _, _, _, _, _ => none
 | k + 1, x20, x221000, x221001, x221002, x221003, x221004 => if x20 = true then (some false) else (if x221000.toList = ([] : List UInt8) then (some (decide (x221001 < 2))) else ((backseatref01_First.f k x221000).bind fun bt222 => (if bt222.2.2 = 0 then (if x221001 = 0 then (backseatref04_Right.j1 k true x221000 x221001 x221002 x221003 x221004 bt222.1 bt222.2.1 bt222.2.2) else ((backseatref01_Width.f k bt222.1).bind fun t226 => (backseatref04_Right.j1 k (t226 != x221001) x221000 x221001 x221002 x221003 x221004 bt222.1 bt222.2.1 bt222.2.2))) else (backseatref04_Right.j1 k true x221000 x221001 x221002 x221003 x221004 bt222.1 bt222.2.1 bt222.2.2))))
def backseatref04_Right.j1 : Nat → Bool → ByteArray → Int → Int → Int → Int → Int → Int → Int → Option (Bool)
 | 0, _, _, _, _, _, _, _, _, _ => none
 | k + 1, x45, x221000, x221001, x221002, x221003, x221004, x226000, x226001, x226002 => if x45 = true then (some false) else (if 0 ≤ x226001 then (if x226001 ≤ (x221000.size : Int) then (backseatref04_Right.l0 k (x221000.extract (x226001 : Int).toNat x221000.size) 0) else (none)) else (none))
def backseatref04_Right.l0 : Nat → ByteArray → Int → Option (Bool)
 | 0, _, _ => none
 | k + 1, x4, x5 => if (x4.size : Int) > 0 then ((backseatref01_First.f k x4).bind fun bt227 => (if bt227.2.2 = 0 then ((backseatref01_Width.f k bt227.1).bind fun t231 => (if t231 = 0 then (if 0 ≤ bt227.2.1 then (if bt227.2.1 ≤ (x4.size : Int) then (backseatref04_Right.l0 k (x4.extract (bt227.2.1 : Int).toNat x4.size) (wrap64 (x5 + 1))) else (none)) else (none)) else (some false))) else (some false))) else (some (decide (x5 ≤ 2)))
end
def backseatref04_Right.f (k : Nat) (a0_0 : ByteArray) (a0_1 : Int) (a0_2 : Int) (a0_3 : Int) (a0_4 : Int) : Option (Bool) := (backseatref04_Look.f a0_2 a0_3 a0_4).bind fun t221 => (if t221 = true then (if a0_1 < 0 then (backseatref04_Right.j0 k true a0_0 a0_1 a0_2 a0_3 a0_4) else (backseatref04_Right.j0 k (decide (a0_1 > 2)) a0_0 a0_1 a0_2 a0_3 a0_4)) else (backseatref04_Right.j0 k true a0_0 a0_1 a0_2 a0_3 a0_4))
set_option maxHeartbeats 8000000 in
set_option maxRecDepth 100000 in
theorem backseatref04_Right.calls (k : Nat) (a0_0 : ByteArray) (a0_1 : Int) (a0_2 : Int) (a0_3 : Int) (a0_4 : Int) (r : Bool) (w : World) (h : backseatref04_Right.f k a0_0 a0_1 a0_2 a0_3 a0_4 = some r) :
  Calls Tryd.prog 53 #[.agg #[.string a0_0, .int .i64 a0_1, .int .i64 a0_2, .int .i64 a0_3, .int .i64 a0_4]] w fun e w' => e = .returned (.bool r) ∧ Below w.heap.size w w' := by
 have hu60 := Tryd.underlying60
 have hu58 := Tryd.underlying58
 have hu106 := Tryd.underlying106
 have HB := Aside0.mk (Below.refl w.heap.size w)
 have H : ((backseatref04_Look.f a0_2 a0_3 a0_4).bind fun t221 => (if t221 = true then (if a0_1 < 0 then (backseatref04_Right.j0 k true a0_0 a0_1 a0_2 a0_3 a0_4) else (backseatref04_Right.j0 k (decide (a0_1 > 2)) a0_0 a0_1 a0_2 a0_3 a0_4)) else (backseatref04_Right.j0 k true a0_0 a0_1 a0_2 a0_3 a0_4))) = some r := h
 clear h
 have HC2 := Aside0.mk H
 clear H
 go_enter Tryd.func53, Tryd.ntmps53
 go_upto_region 1 with (first | ((with_reducible refine gate_dst (N := 1) rfl ?_); refine box_event ?hg (N := 1) ?hd (cs := #[.string a0_0, .int .i64 a0_1, .int .i64 a0_2, .int .i64 a0_3, .int .i64 a0_4]) (t := 60) ?hr ?_; (case hd => rfl); (case hg => rfl); (case hr => exact zo); intro gb220 hg w3 hbox hb; have BK220 := Aside0.mk (hbox); have GW220 := Aside0.mk ((zg hg : w.heap.size ≤ gb220)); have GE220 := Aside0.mk ((zg hg : w.heap.size ≤ gb220)); replace HB := (zs HB hb); clear hb hbox hg))
 repeat (go_quiet (first | ((with_reducible refine gate_dst (N := 1) rfl ?_); refine box_event ?hg (N := 1) ?hd (cs := #[.string a0_0, .int .i64 a0_1, .int .i64 a0_2, .int .i64 a0_3, .int .i64 a0_4]) (t := 60) ?hr ?_; (case hd => rfl); (case hg => rfl); (case hr => exact zo); intro gb220 hg w3 hbox hb; have BK220 := Aside0.mk (hbox); have GW220 := Aside0.mk ((zg hg : w.heap.size ≤ gb220)); have GE220 := Aside0.mk ((zg hg : w.heap.size ≤ gb220)); replace HB := (zs HB hb); clear hb hbox hg)); go_upto_region 1 with (first | ((with_reducible refine gate_dst (N := 1) rfl ?_); refine box_event ?hg (N := 1) ?hd (cs := #[.string a0_0, .int .i64 a0_1, .int .i64 a0_2, .int .i64 a0_3, .int .i64 a0_4]) (t := 60) ?hr ?_; (case hd => rfl); (case hg => rfl); (case hr => exact zo); intro gb220 hg w3 hbox hb; have BK220 := Aside0.mk (hbox); have GW220 := Aside0.mk ((zg hg : w.heap.size ≤ gb220)); have GE220 := Aside0.mk ((zg hg : w.heap.size ≤ gb220)); replace HB := (zs HB hb); clear hb hbox hg)))
 (try simp only [Act.put, List.setIfInBounds_toArray, List.set_cons_zero, List.set_cons_succ])
 go_cut [20] (fun v20 wc => ∃ (kq : Nat) (x20_1 : Bool), v20 = .bool x20_1 ∧ Aside0 (backseatref04_Right.j0 kq x20_1 a0_0 a0_1 a0_2 a0_3 a0_4 = some r) ∧ Aside0 (kq ≤ k) ∧ Aside0 (wc.heap[gb220]? = some (.cells #[.string a0_0, .int .i64 a0_1, .int .i64 a0_2, .int .i64 a0_3, .int .i64 a0_4] 60 (0, 0))) ∧ Aside0 (Below w.heap.size w wc))
 case first =>
  have H := HC2.out
  clear HC2
  replace H := Option.bind_eq_some_iff.mp H
  obtain ⟨t221, A40, H⟩ := H
  replace H : (if t221 = true then (if a0_1 < 0 then (backseatref04_Right.j0 k true a0_0 a0_1 a0_2 a0_3 a0_4) else (backseatref04_Right.j0 k (decide (a0_1 > 2)) a0_0 a0_1 a0_2 a0_3 a0_4)) else (backseatref04_Right.j0 k true a0_0 a0_1 a0_2 a0_3 a0_4)) = some r := H
  have A4 := Aside0.mk A40
  clear A40
  by_cases c5 : t221 = true
  ·subst c5
   have H1 : (if a0_1 < 0 then (backseatref04_Right.j0 k true a0_0 a0_1 a0_2 a0_3 a0_4) else (backseatref04_Right.j0 k (decide (a0_1 > 2)) a0_0 a0_1 a0_2 a0_3 a0_4)) = some r := by rw [if_pos rfl] at H; exact H
   clear H
   have H := H1
   clear H1
   by_cases c6 : a0_1 < 0
   ·rw [if_pos c6] at H
    have c6b0 : decide (a0_1 < 0) = true := decide_eq_true c6
    clear c6
    (first | rw [c6b0] | (simp only [i64_w, i32_w]; rw [c6b0]) | skip)
    have H' := Aside0.mk H
    clear H
    obtain ⟨hcz7_0, hcz7_1, hcz7_2, hcz7_3, hcz7_4, hfz7_0, hfz7_1, hfz7_2, hfz7_3, hfz7_4⟩ := zq5 (w := w3) BK220
    go_wp2_with (first | (go_at_call 73; (with_reducible refine (backseatref04_Look.calls a0_2 a0_3 a0_4 true _ A4.out).mono ?_); rintro e w8 ⟨rfl, hb⟩; replace BK220 := (zk BK220 hb); replace HB := (zs HB hb); (try clear hb); obtain ⟨hcz9_0, hcz9_1, hcz9_2, hcz9_3, hcz9_4, hfz9_0, hfz9_1, hfz9_2, hfz9_3, hfz9_4⟩ := zq5 (w := w8) BK220))
    repeat (go_quiet (first | (go_at_call 73; (with_reducible refine (backseatref04_Look.calls a0_2 a0_3 a0_4 true _ A4.out).mono ?_); rintro e w8 ⟨rfl, hb⟩; replace BK220 := (zk BK220 hb); replace HB := (zs HB hb); (try clear hb); obtain ⟨hcz9_0, hcz9_1, hcz9_2, hcz9_3, hcz9_4, hfz9_0, hfz9_1, hfz9_2, hfz9_3, hfz9_4⟩ := zq5 (w := w8) BK220)); try go_wp2_with (first | (go_at_call 73; (with_reducible refine (backseatref04_Look.calls a0_2 a0_3 a0_4 true _ A4.out).mono ?_); rintro e w8 ⟨rfl, hb⟩; replace BK220 := (zk BK220 hb); replace HB := (zs HB hb); (try clear hb); obtain ⟨hcz9_0, hcz9_1, hcz9_2, hcz9_3, hcz9_4, hfz9_0, hfz9_1, hfz9_2, hfz9_3, hfz9_4⟩ := zq5 (w := w8) BK220)))
    go_meet
    case rel => exact ⟨_, (true), zf, H', ⟨by first | omega | exact Nat.le_refl _⟩, ⟨by exact BK220.out⟩, ⟨zb⟩⟩
   ·rw [if_neg c6] at H
    have c6b0 : decide (a0_1 < 0) = false := decide_eq_false c6
    clear c6
    (first | rw [c6b0] | (simp only [i64_w, i32_w]; rw [c6b0]) | skip)
    have H' := Aside0.mk H
    clear H
    obtain ⟨hcz10_0, hcz10_1, hcz10_2, hcz10_3, hcz10_4, hfz10_0, hfz10_1, hfz10_2, hfz10_3, hfz10_4⟩ := zq5 (w := w3) BK220
    go_wp2_with (first | (go_at_call 73; (with_reducible refine (backseatref04_Look.calls a0_2 a0_3 a0_4 true _ A4.out).mono ?_); rintro e w11 ⟨rfl, hb⟩; replace BK220 := (zk BK220 hb); replace HB := (zs HB hb); (try clear hb); obtain ⟨hcz12_0, hcz12_1, hcz12_2, hcz12_3, hcz12_4, hfz12_0, hfz12_1, hfz12_2, hfz12_3, hfz12_4⟩ := zq5 (w := w11) BK220))
    repeat (go_quiet (first | (go_at_call 73; (with_reducible refine (backseatref04_Look.calls a0_2 a0_3 a0_4 true _ A4.out).mono ?_); rintro e w11 ⟨rfl, hb⟩; replace BK220 := (zk BK220 hb); replace HB := (zs HB hb); (try clear hb); obtain ⟨hcz12_0, hcz12_1, hcz12_2, hcz12_3, hcz12_4, hfz12_0, hfz12_1, hfz12_2, hfz12_3, hfz12_4⟩ := zq5 (w := w11) BK220)); try go_wp2_with (first | (go_at_call 73; (with_reducible refine (backseatref04_Look.calls a0_2 a0_3 a0_4 true _ A4.out).mono ?_); rintro e w11 ⟨rfl, hb⟩; replace BK220 := (zk BK220 hb); replace HB := (zs HB hb); (try clear hb); obtain ⟨hcz12_0, hcz12_1, hcz12_2, hcz12_3, hcz12_4, hfz12_0, hfz12_1, hfz12_2, hfz12_3, hfz12_4⟩ := zq5 (w := w11) BK220)))
    go_meet
    case rel => exact ⟨_, (decide (a0_1 > 2)), zf, H', ⟨by first | omega | exact Nat.le_refl _⟩, ⟨by exact BK220.out⟩, ⟨zb⟩⟩
  ·replace c5 := Bool.eq_false_iff.mpr c5
   subst c5
   have H1 : (backseatref04_Right.j0 k true a0_0 a0_1 a0_2 a0_3 a0_4) = some r := by rw [if_neg (show ¬ (false = true) by decide)] at H; exact H
   clear H
   have H := H1
   clear H1
   have H' := Aside0.mk H
   clear H
   obtain ⟨hcz13_0, hcz13_1, hcz13_2, hcz13_3, hcz13_4, hfz13_0, hfz13_1, hfz13_2, hfz13_3, hfz13_4⟩ := zq5 (w := w3) BK220
   go_wp2_with (first | (go_at_call 73; (with_reducible refine (backseatref04_Look.calls a0_2 a0_3 a0_4 false _ A4.out).mono ?_); rintro e w14 ⟨rfl, hb⟩; replace BK220 := (zk BK220 hb); replace HB := (zs HB hb); (try clear hb)))
   repeat (go_quiet (first | (go_at_call 73; (with_reducible refine (backseatref04_Look.calls a0_2 a0_3 a0_4 false _ A4.out).mono ?_); rintro e w14 ⟨rfl, hb⟩; replace BK220 := (zk BK220 hb); replace HB := (zs HB hb); (try clear hb))); try go_wp2_with (first | (go_at_call 73; (with_reducible refine (backseatref04_Look.calls a0_2 a0_3 a0_4 false _ A4.out).mono ?_); rintro e w14 ⟨rfl, hb⟩; replace BK220 := (zk BK220 hb); replace HB := (zs HB hb); (try clear hb))))
   go_meet
   case rel => exact ⟨_, (true), zf, H', ⟨by first | omega | exact Nat.le_refl _⟩, ⟨by exact BK220.out⟩, ⟨zb⟩⟩
 case rest =>
  clear HC2
  obtain ⟨kq, x20_1, rfl, HA, HJ1, BK220, HB⟩ := hcut
  cases kq with
  | zero => exact absurd HA.out (by simp [backseatref04_Right.j0])
  | succ kj1 =>
   have H := HA.out
   clear HA
   simp only [backseatref04_Right.j0] at H
   by_cases c15 : x20_1 = true
   ·subst c15
    have H1 : (some false) = some r := by rw [if_pos rfl] at H; exact H
    clear H
    have H := H1
    clear H1
    obtain rfl := Option.some.inj H
    go_wp2
    repeat (go_quiet (fail); try go_wp2)
    go_ret
    exact ⟨ze, zb⟩
   ·replace c15 := Bool.eq_false_iff.mpr c15
    subst c15
    have H1 : (if a0_0.toList = ([] : List UInt8) then (some (decide (a0_1 < 2))) else ((backseatref01_First.f kj1 a0_0).bind fun bt222 => (if bt222.2.2 = 0 then (if a0_1 = 0 then (backseatref04_Right.j1 kj1 true a0_0 a0_1 a0_2 a0_3 a0_4 bt222.1 bt222.2.1 bt222.2.2) else ((backseatref01_Width.f kj1 bt222.1).bind fun t226 => (backseatref04_Right.j1 kj1 (t226 != a0_1) a0_0 a0_1 a0_2 a0_3 a0_4 bt222.1 bt222.2.1 bt222.2.2))) else (backseatref04_Right.j1 kj1 true a0_0 a0_1 a0_2 a0_3 a0_4 bt222.1 bt222.2.1 bt222.2.2)))) = some r := by rw [if_neg (show ¬ (false = true) by decide)] at H; exact H
    clear H
    have H := H1
    clear H1
    by_cases c16 : a0_0.toList = ([] : List UInt8)
    ·rw [if_pos c16] at H
     have c16b0 : (a0_0.toList == ([] : List UInt8)) = true := beq_iff_eq.mpr c16
     have c16b1 : (a0_0.toList != ([] : List UInt8)) = false := bne_eq_false_iff_eq.mpr c16
     clear c16
     obtain rfl := Option.some.inj H
     obtain ⟨hcz17_0, hcz17_1, hcz17_2, hcz17_3, hcz17_4, hfz17_0, hfz17_1, hfz17_2, hfz17_3, hfz17_4⟩ := zq5 (w := wc) BK220
     go_wp2
     repeat (go_quiet (fail); try go_wp2)
     go_ret
     exact ⟨ze, zb⟩
    ·rw [if_neg c16] at H
     have c16b0 : (a0_0.toList == ([] : List UInt8)) = false := beq_eq_false_iff_ne.mpr c16
     have c16b1 : (a0_0.toList != ([] : List UInt8)) = true := bne_iff_ne.mpr c16
     replace H := Option.bind_eq_some_iff.mp H
     obtain ⟨⟨t222, t223, t224⟩, A180, H⟩ := H
     replace H : (if t224 = 0 then (if a0_1 = 0 then (backseatref04_Right.j1 kj1 true a0_0 a0_1 a0_2 a0_3 a0_4 t222 t223 t224) else ((backseatref01_Width.f kj1 t222).bind fun t226 => (backseatref04_Right.j1 kj1 (t226 != a0_1) a0_0 a0_1 a0_2 a0_3 a0_4 t222 t223 t224))) else (backseatref04_Right.j1 kj1 true a0_0 a0_1 a0_2 a0_3 a0_4 t222 t223 t224)) = some r := H
     have A18 := Aside0.mk A180
     clear A180
     have HC19 := Aside0.mk H
     clear H
     obtain ⟨hcz20_0, hcz20_1, hcz20_2, hcz20_3, hcz20_4, hfz20_0, hfz20_1, hfz20_2, hfz20_3, hfz20_4⟩ := zq5 (w := wc) BK220
     go_upto_region 6 with (first | (go_at_call 74; (with_reducible refine (backseatref01_First.calls kj1 a0_0 t222 t223 t224 _ A18.out).mono ?_); rintro e w21 ⟨rfl, hb⟩; replace BK220 := (zk BK220 hb); replace HB := (zs HB hb); (try clear hb)) | ((with_reducible refine gate_dst (N := 3) rfl ?_); refine box_event ?hg (N := 3) ?hd (cs := #[.int .i32 0, .int .i64 0, .int .i64 0]) (t := 106) ?hr ?_; (case hd => rfl); (case hg => rfl); (case hr => exact zo); intro gb225 hg w22 hbox hb; have n0_ := (zk BK220 hb); have n1_ := (zs HB hb); have n2_ := Aside0.mk (hbox); have n3_ := Aside0.mk ((zg hg : w.heap.size ≤ gb225)); have n4_ := Aside0.mk ((zg hg : w.heap.size ≤ gb225)); have n5_ := Aside0.mk ((by rw [hg]; exact Nat.ne_of_lt (blk_lt (g := gb220) (o := .cells #[.string a0_0, .int .i64 a0_1, .int .i64 a0_2, .int .i64 a0_3, .int .i64 a0_4] 60 (0, 0)) (by exact BK220.out)) : gb220 ≠ gb225)); have n6_ := Aside0.mk ((by rw [hg]; exact Nat.ne_of_gt (blk_lt (g := gb220) (o := .cells #[.string a0_0, .int .i64 a0_1, .int .i64 a0_2, .int .i64 a0_3, .int .i64 a0_4] 60 (0, 0)) (by exact BK220.out)) : gb225 ≠ gb220)); clear BK220; clear HB; have BK220 := n0_; have HB := n1_; have BK225 := n2_; have GW225 := n3_; have GE225 := n4_; have NB220_225 := n5_; have NB225_220 := n6_; clear n0_ n1_ n2_ n3_ n4_ n5_ n6_; clear hb hbox hg; have hnb23 := NB225_220.out; have hnc23 := NB220_225.out; obtain ⟨hcz24_0, hcz24_1, hcz24_2, hfz24_0, hfz24_1, hfz24_2⟩ := zq3 (w := w22) BK225))
     repeat (go_quiet (first | (go_at_call 74; (with_reducible refine (backseatref01_First.calls kj1 a0_0 t222 t223 t224 _ A18.out).mono ?_); rintro e w21 ⟨rfl, hb⟩; replace BK220 := (zk BK220 hb); replace HB := (zs HB hb); (try clear hb)) | ((with_reducible refine gate_dst (N := 3) rfl ?_); refine box_event ?hg (N := 3) ?hd (cs := #[.int .i32 0, .int .i64 0, .int .i64 0]) (t := 106) ?hr ?_; (case hd => rfl); (case hg => rfl); (case hr => exact zo); intro gb225 hg w22 hbox hb; have n0_ := (zk BK220 hb); have n1_ := (zs HB hb); have n2_ := Aside0.mk (hbox); have n3_ := Aside0.mk ((zg hg : w.heap.size ≤ gb225)); have n4_ := Aside0.mk ((zg hg : w.heap.size ≤ gb225)); have n5_ := Aside0.mk ((by rw [hg]; exact Nat.ne_of_lt (blk_lt (g := gb220) (o := .cells #[.string a0_0, .int .i64 a0_1, .int .i64 a0_2, .int .i64 a0_3, .int .i64 a0_4] 60 (0, 0)) (by exact BK220.out)) : gb220 ≠ gb225)); have n6_ := Aside0.mk ((by rw [hg]; exact Nat.ne_of_gt (blk_lt (g := gb220) (o := .cells #[.string a0_0, .int .i64 a0_1, .int .i64 a0_2, .int .i64 a0_3, .int .i64 a0_4] 60 (0, 0)) (by exact BK220.out)) : gb225 ≠ gb220)); clear BK220; clear HB; have BK220 := n0_; have HB := n1_; have BK225 := n2_; have GW225 := n3_; have GE225 := n4_; have NB220_225 := n5_; have NB225_220 := n6_; clear n0_ n1_ n2_ n3_ n4_ n5_ n6_; clear hb hbox hg; have hnb23 := NB225_220.out; have hnc23 := NB220_225.out; obtain ⟨hcz24_0, hcz24_1, hcz24_2, hfz24_0, hfz24_1, hfz24_2⟩ := zq3 (w := w22) BK225)); go_upto_region 6 with (first | (go_at_call 74; (with_reducible refine (backseatref01_First.calls kj1 a0_0 t222 t223 t224 _ A18.out).mono ?_); rintro e w21 ⟨rfl, hb⟩; replace BK220 := (zk BK220 hb); replace HB := (zs HB hb); (try clear hb)) | ((with_reducible refine gate_dst (N := 3) rfl ?_); refine box_event ?hg (N := 3) ?hd (cs := #[.int .i32 0, .int .i64 0, .int .i64 0]) (t := 106) ?hr ?_; (case hd => rfl); (case hg => rfl); (case hr => exact zo); intro gb225 hg w22 hbox hb; have n0_ := (zk BK220 hb); have n1_ := (zs HB hb); have n2_ := Aside0.mk (hbox); have n3_ := Aside0.mk ((zg hg : w.heap.size ≤ gb225)); have n4_ := Aside0.mk ((zg hg : w.heap.size ≤ gb225)); have n5_ := Aside0.mk ((by rw [hg]; exact Nat.ne_of_lt (blk_lt (g := gb220) (o := .cells #[.string a0_0, .int .i64 a0_1, .int .i64 a0_2, .int .i64 a0_3, .int .i64 a0_4] 60 (0, 0)) (by exact BK220.out)) : gb220 ≠ gb225)); have n6_ := Aside0.mk ((by rw [hg]; exact Nat.ne_of_gt (blk_lt (g := gb220) (o := .cells #[.string a0_0, .int .i64 a0_1, .int .i64 a0_2, .int .i64 a0_3, .int .i64 a0_4] 60 (0, 0)) (by exact BK220.out)) : gb225 ≠ gb220)); clear BK220; clear HB; have BK220 := n0_; have HB := n1_; have BK225 := n2_; have GW225 := n3_; have GE225 := n4_; have NB220_225 := n5_; have NB225_220 := n6_; clear n0_ n1_ n2_ n3_ n4_ n5_ n6_; clear hb hbox hg; have hnb23 := NB225_220.out; have hnc23 := NB220_225.out; obtain ⟨hcz24_0, hcz24_1, hcz24_2, hfz24_0, hfz24_1, hfz24_2⟩ := zq3 (w := w22) BK225)))
     (try simp only [Act.put, List.setIfInBounds_toArray, List.set_cons_zero, List.set_cons_succ])
     go_cut [45] (fun v45 wc => ∃ (kq : Nat) (x45_18 : Bool), v45 = .bool x45_18 ∧ Aside0 (backseatref04_Right.j1 kq x45_18 a0_0 a0_1 a0_2 a0_3 a0_4 t222 t223 t224 = some r) ∧ Aside0 (kq ≤ kj1) ∧ Aside0 (wc.heap[gb220]? = some (.cells #[.string a0_0, .int .i64 a0_1, .int .i64 a0_2, .int .i64 a0_3, .int .i64 a0_4] 60 (0, 0))) ∧ Aside0 (wc.heap[gb225]? = some (.cells #[.int .i32 t222, .int .i64 t223, .int .i64 t224] 106 (0, 0))) ∧ Aside0 (Below w.heap.size w wc))
     case first =>
      have H := HC19.out
      clear HC19
      by_cases c25 : t224 = 0
      ·rw [if_pos c25] at H
       have c25b0 : (t224 == 0) = true := beq_iff_eq.mpr c25
       have c25b1 : (t224 != 0) = false := bne_eq_false_iff_eq.mpr c25
       clear c25
       (first | rw [c25b0] | (simp only [i64_w, i32_w]; rw [c25b0]) | skip)
       by_cases c26 : a0_1 = 0
       ·rw [if_pos c26] at H
        have c26b0 : (a0_1 == 0) = true := beq_iff_eq.mpr c26
        have c26b1 : (a0_1 != 0) = false := bne_eq_false_iff_eq.mpr c26
        clear c26
        have H' := Aside0.mk H
        clear H
        have hnb27 := NB225_220.out
        have hnc27 := NB220_225.out
        obtain ⟨hcz28_0, hcz28_1, hcz28_2, hfz28_0, hfz28_1, hfz28_2⟩ := zq3 (w := w22) BK225
        obtain ⟨hcz29_0, hcz29_1, hcz29_2, hcz29_3, hcz29_4, hfz29_0, hfz29_1, hfz29_2, hfz29_3, hfz29_4⟩ := zq5 (w := w22) BK220
        go_wp2
        repeat (go_quiet (fail); try go_wp2)
        go_meet
        case rel => exact ⟨_, (true), zf, H', ⟨by have := HJ1.out; first | omega | exact Nat.le_refl _⟩, ⟨by refine blk_far ?_ NB220_225.out _; refine blk_far ?_ NB220_225.out _; refine blk_far ?_ NB220_225.out _; exact BK220.out⟩, ⟨by refine blk_put (cs := #[.int .i32 t222, .int .i64 t223, .int .i64 0]) ?_ 2 _ rfl; refine blk_put (cs := #[.int .i32 t222, .int .i64 0, .int .i64 0]) ?_ 1 _ rfl; refine blk_put (cs := #[.int .i32 0, .int .i64 0, .int .i64 0]) ?_ 0 _ rfl; exact BK225.out⟩, ⟨zb⟩⟩
       ·rw [if_neg c26] at H
        have c26b0 : (a0_1 == 0) = false := beq_eq_false_iff_ne.mpr c26
        have c26b1 : (a0_1 != 0) = true := bne_iff_ne.mpr c26
        replace H := Option.bind_eq_some_iff.mp H
        obtain ⟨t226, A300, H⟩ := H
        replace H : (backseatref04_Right.j1 kj1 (t226 != a0_1) a0_0 a0_1 a0_2 a0_3 a0_4 t222 t223 t224) = some r := H
        have A30 := Aside0.mk A300
        clear A300
        have H' := Aside0.mk H
        clear H
        have hnb31 := NB225_220.out
        have hnc31 := NB220_225.out
        obtain ⟨hcz32_0, hcz32_1, hcz32_2, hfz32_0, hfz32_1, hfz32_2⟩ := zq3 (w := w22) BK225
        obtain ⟨hcz33_0, hcz33_1, hcz33_2, hcz33_3, hcz33_4, hfz33_0, hfz33_1, hfz33_2, hfz33_3, hfz33_4⟩ := zq5 (w := w22) BK220
        go_wp2_with (first | (go_at_call 75; (with_reducible refine (backseatref01_Width.calls kj1 t222 t226 _ A30.out).mono ?_); rintro e w' ⟨rfl, ⟨nd, rfl⟩⟩; (try first | exact ⟨rfl, _, World.drewN_drewN _ _ _⟩ | exact ⟨rfl, _, Eq.trans (World.drewN_drewN _ _ _) (congrArg (World.drewN _) (Nat.add_assoc _ _ _))⟩)))
        repeat (go_quiet (first | (go_at_call 75; (with_reducible refine (backseatref01_Width.calls kj1 t222 t226 _ A30.out).mono ?_); rintro e w' ⟨rfl, ⟨nd, rfl⟩⟩; (try first | exact ⟨rfl, _, World.drewN_drewN _ _ _⟩ | exact ⟨rfl, _, Eq.trans (World.drewN_drewN _ _ _) (congrArg (World.drewN _) (Nat.add_assoc _ _ _))⟩))); try go_wp2_with (first | (go_at_call 75; (with_reducible refine (backseatref01_Width.calls kj1 t222 t226 _ A30.out).mono ?_); rintro e w' ⟨rfl, ⟨nd, rfl⟩⟩; (try first | exact ⟨rfl, _, World.drewN_drewN _ _ _⟩ | exact ⟨rfl, _, Eq.trans (World.drewN_drewN _ _ _) (congrArg (World.drewN _) (Nat.add_assoc _ _ _))⟩))))
        go_meet
        case rel => exact ⟨_, ((t226 != a0_1)), zf, H', ⟨by have := HJ1.out; first | omega | exact Nat.le_refl _⟩, ⟨by refine blk_far ?_ NB220_225.out _; refine blk_far ?_ NB220_225.out _; refine blk_far ?_ NB220_225.out _; exact BK220.out⟩, ⟨by refine blk_put (cs := #[.int .i32 t222, .int .i64 t223, .int .i64 0]) ?_ 2 _ rfl; refine blk_put (cs := #[.int .i32 t222, .int .i64 0, .int .i64 0]) ?_ 1 _ rfl; refine blk_put (cs := #[.int .i32 0, .int .i64 0, .int .i64 0]) ?_ 0 _ rfl; exact BK225.out⟩, ⟨zb⟩⟩
      ·rw [if_neg c25] at H
       have c25b0 : (t224 == 0) = false := beq_eq_false_iff_ne.mpr c25
       have c25b1 : (t224 != 0) = true := bne_iff_ne.mpr c25
       (first | rw [c25b0] | (simp only [i64_w, i32_w]; rw [c25b0]) | skip)
       have H' := Aside0.mk H
       clear H
       have hnb34 := NB225_220.out
       have hnc34 := NB220_225.out
       obtain ⟨hcz35_0, hcz35_1, hcz35_2, hfz35_0, hfz35_1, hfz35_2⟩ := zq3 (w := w22) BK225
       go_wp2
       repeat (go_quiet (fail); try go_wp2)
       go_meet
       case rel => exact ⟨_, (true), zf, H', ⟨by have := HJ1.out; first | omega | exact Nat.le_refl _⟩, ⟨by refine blk_far ?_ NB220_225.out _; refine blk_far ?_ NB220_225.out _; refine blk_far ?_ NB220_225.out _; exact BK220.out⟩, ⟨by refine blk_put (cs := #[.int .i32 t222, .int .i64 t223, .int .i64 0]) ?_ 2 _ rfl; refine blk_put (cs := #[.int .i32 t222, .int .i64 0, .int .i64 0]) ?_ 1 _ rfl; refine blk_put (cs := #[.int .i32 0, .int .i64 0, .int .i64 0]) ?_ 0 _ rfl; exact BK225.out⟩, ⟨zb⟩⟩
     case rest =>
      clear HC19
      try clear c15
      try clear c16
      try clear c16b0
      try clear c16b1
      try clear hcz20_0
      try clear hcz20_1
      try clear hcz20_2
      try clear hcz20_3
      try clear hcz20_4
      try clear hcz24_0
      try clear hcz24_1
      try clear hcz24_2
      try clear hfz20_0
      try clear hfz20_1
      try clear hfz20_2
      try clear hfz20_3
      try clear hfz20_4
      try clear hfz24_0
      try clear hfz24_1
      try clear hfz24_2
      obtain ⟨kq, x45_18, rfl, HA, HJ18, BK220, BK225, HB⟩ := hcut
      cases kq with
      | zero => exact absurd HA.out (by simp [backseatref04_Right.j1])
      | succ kj18 =>
       have H := HA.out
       clear HA
       simp only [backseatref04_Right.j1] at H
       by_cases c36 : x45_18 = true
       ·subst c36
        have H1 : (some false) = some r := by rw [if_pos rfl] at H; exact H
        clear H
        have H := H1
        clear H1
        obtain rfl := Option.some.inj H
        go_wp2
        repeat (go_quiet (fail); try go_wp2)
        go_ret
        exact ⟨ze, zb⟩
       ·replace c36 := Bool.eq_false_iff.mpr c36
        subst c36
        have H1 : (if 0 ≤ t223 then (if t223 ≤ (a0_0.size : Int) then (backseatref04_Right.l0 kj18 (a0_0.extract (t223 : Int).toNat a0_0.size) 0) else (none)) else (none)) = some r := by rw [if_neg (show ¬ (false = true) by decide)] at H; exact H
        clear H
        have H := H1
        clear H1
        by_cases c37 : 0 ≤ t223
        ·rw [if_pos c37] at H
         have c37b0 := eq_true c37
         have c37b1 : decide (0 ≤ t223) = true := decide_eq_true c37
         clear c37
         by_cases c38 : t223 ≤ (a0_0.size : Int)
         ·rw [if_pos c38] at H
          have c38b0 := eq_true c38
          have c38b1 : decide (t223 ≤ (a0_0.size : Int)) = true := decide_eq_true c38
          clear c38
          have H' := Aside0.mk H
          clear H
          have hnb39 := NB220_225.out
          have hnc39 := NB225_220.out
          obtain ⟨hcz40_0, hcz40_1, hcz40_2, hcz40_3, hcz40_4, hfz40_0, hfz40_1, hfz40_2, hfz40_3, hfz40_4⟩ := zq5 (w := wc) BK220
          obtain ⟨hcz41_0, hcz41_1, hcz41_2, hfz41_0, hfz41_1, hfz41_2⟩ := zq3 (w := wc) BK225
          go_wp2
          repeat (go_quiet (fail); try go_wp2)
          go_loopg [4, 5] kj18 (fun kq v4 v5 w' => ∃ (x4_3 : ByteArray) (x5_3 : Int), v4 = .string x4_3 ∧ v5 = .int .i64 x5_3 ∧ Aside0 (backseatref04_Right.l0 kq x4_3 x5_3 = some r) ∧ Aside0 (kq ≤ kj18) ∧ Aside0 (w'.heap[gb220]? = some (.cells #[.string a0_0, .int .i64 a0_1, .int .i64 a0_2, .int .i64 a0_3, .int .i64 a0_4] 60 (0, 0))) ∧ Aside0 (w'.heap[gb225]? = some (.cells #[.int .i32 t222, .int .i64 t223, .int .i64 t224] 106 (0, 0))) ∧ Aside0 (Below w.heap.size w w'))
          case atStart => exact ⟨(a0_0.extract (t223 : Int).toNat a0_0.size), (0), zf, zf, H', ⟨Nat.le_refl _⟩, ⟨by exact BK220.out⟩, ⟨by exact BK225.out⟩, ⟨zb⟩⟩
          case round =>
           clear H'
           try clear c15
           try clear c16
           try clear c16b0
           try clear c16b1
           try clear c36
           try clear c37
           try clear c37b0
           try clear c37b1
           try clear c38
           try clear c38b0
           try clear c38b1
           try clear hcz20_0
           try clear hcz20_1
           try clear hcz20_2
           try clear hcz20_3
           try clear hcz20_4
           try clear hcz24_0
           try clear hcz24_1
           try clear hcz24_2
           try clear hcz40_0
           try clear hcz40_1
           try clear hcz40_2
           try clear hcz40_3
           try clear hcz40_4
           try clear hcz41_0
           try clear hcz41_1
           try clear hcz41_2
           try clear hfz20_0
           try clear hfz20_1
           try clear hfz20_2
           try clear hfz20_3
           try clear hfz20_4
           try clear hfz24_0
           try clear hfz24_1
           try clear hfz24_2
           try clear hfz40_0
           try clear hfz40_1
           try clear hfz40_2
           try clear hfz40_3
           try clear hfz40_4
           try clear hfz41_0
           try clear hfz41_1
           try clear hfz41_2
           obtain ⟨x4_3, x5_3, rfl, rfl, HA, HK3, BK220, BK225, HB⟩ := hrel
           cases gk with
           | zero => exact absurd HA.out (by simp [backseatref04_Right.l0])
           | succ k3 =>
            have H := HA.out
            clear HA
            simp only [backseatref04_Right.l0] at H
            by_cases c42 : (x4_3.size : Int) > 0
            ·rw [if_pos c42] at H
             have c42b0 : decide (0 < (x4_3.size : Int)) = true := decide_eq_true c42
             have c42b1 : decide (0 < x4_3.size) = true := decide_eq_true (by omega)
             clear c42
             replace H := Option.bind_eq_some_iff.mp H
             obtain ⟨⟨t227, t228, t229⟩, A430, H⟩ := H
             replace H : (if t229 = 0 then ((backseatref01_Width.f k3 t227).bind fun t231 => (if t231 = 0 then (if 0 ≤ t228 then (if t228 ≤ (x4_3.size : Int) then (backseatref04_Right.l0 k3 (x4_3.extract (t228 : Int).toNat x4_3.size) (wrap64 (x5_3 + 1))) else (none)) else (none)) else (some false))) else (some false)) = some r := H
             have A43 := Aside0.mk A430
             clear A430
             by_cases c44 : t229 = 0
             ·rw [if_pos c44] at H
              have c44b0 : (t229 == 0) = true := beq_iff_eq.mpr c44
              have c44b1 : (t229 != 0) = false := bne_eq_false_iff_eq.mpr c44
              clear c44
              replace H := Option.bind_eq_some_iff.mp H
              obtain ⟨t231, A450, H⟩ := H
              replace H : (if t231 = 0 then (if 0 ≤ t228 then (if t228 ≤ (x4_3.size : Int) then (backseatref04_Right.l0 k3 (x4_3.extract (t228 : Int).toNat x4_3.size) (wrap64 (x5_3 + 1))) else (none)) else (none)) else (some false)) = some r := H
              have A45 := Aside0.mk A450
              clear A450
              by_cases c46 : t231 = 0
              ·rw [if_pos c46] at H
               have c46b0 : (t231 == 0) = true := beq_iff_eq.mpr c46
               have c46b1 : (t231 != 0) = false := bne_eq_false_iff_eq.mpr c46
               clear c46
               by_cases c47 : 0 ≤ t228
               ·rw [if_pos c47] at H
                have c47b0 := eq_true c47
                have c47b1 : decide (0 ≤ t228) = true := decide_eq_true c47
                clear c47
                by_cases c48 : t228 ≤ (x4_3.size : Int)
                ·rw [if_pos c48] at H
                 have c48b0 := eq_true c48
                 have c48b1 : decide (t228 ≤ (x4_3.size : Int)) = true := decide_eq_true c48
                 clear c48
                 have H' := Aside0.mk H
                 clear H
                 go_wp2_with (first | (go_at_call 74; (with_reducible refine (backseatref01_First.calls k3 x4_3 t227 t228 t229 _ A43.out).mono ?_); rintro e w49 ⟨rfl, hb⟩; replace BK220 := (zk BK220 hb); replace BK225 := (zk BK225 hb); replace HB := (zs HB hb); (try clear hb)) | ((with_reducible refine gate_dst (N := 6) rfl ?_); refine box_event ?hg (N := 6) ?hd (cs := #[.int .i32 0, .int .i64 0, .int .i64 0]) (t := 106) ?hr ?_; (case hd => rfl); (case hg => rfl); (case hr => exact zo); intro gb230 hg w50 hbox hb; have n0_ := (zk BK220 hb); have n1_ := (zk BK225 hb); have n2_ := (zs HB hb); have n3_ := Aside0.mk (hbox); have n4_ := Aside0.mk ((zg hg : w.heap.size ≤ gb230)); have n5_ := Aside0.mk ((zg hg : w.heap.size ≤ gb230)); have n6_ := Aside0.mk ((by rw [hg]; exact Nat.ne_of_lt (blk_lt (g := gb220) (o := .cells #[.string a0_0, .int .i64 a0_1, .int .i64 a0_2, .int .i64 a0_3, .int .i64 a0_4] 60 (0, 0)) (by exact BK220.out)) : gb220 ≠ gb230)); have n7_ := Aside0.mk ((by rw [hg]; exact Nat.ne_of_gt (blk_lt (g := gb220) (o := .cells #[.string a0_0, .int .i64 a0_1, .int .i64 a0_2, .int .i64 a0_3, .int .i64 a0_4] 60 (0, 0)) (by exact BK220.out)) : gb230 ≠ gb220)); have n8_ := Aside0.mk ((by rw [hg]; exact Nat.ne_of_lt (blk_lt (g := gb225) (o := .cells #[.int .i32 t222, .int .i64 t223, .int .i64 t224] 106 (0, 0)) (by exact BK225.out)) : gb225 ≠ gb230)); have n9_ := Aside0.mk ((by rw [hg]; exact Nat.ne_of_gt (blk_lt (g := gb225) (o := .cells #[.int .i32 t222, .int .i64 t223, .int .i64 t224] 106 (0, 0)) (by exact BK225.out)) : gb230 ≠ gb225)); clear BK220; clear BK225; clear HB; have BK220 := n0_; have BK225 := n1_; have HB := n2_; have BK230 := n3_; have GW230 := n4_; have GE230 := n5_; have NB220_230 := n6_; have NB230_220 := n7_; have NB225_230 := n8_; have NB230_225 := n9_; clear n0_ n1_ n2_ n3_ n4_ n5_ n6_ n7_ n8_ n9_; clear hb hbox hg; have hnb51 := NB230_220.out; have hnc51 := NB220_230.out; have hnb52 := NB230_225.out; have hnc52 := NB225_230.out; obtain ⟨hcz53_0, hcz53_1, hcz53_2, hfz53_0, hfz53_1, hfz53_2⟩ := zq3 (w := w50) BK230) | (go_at_call 75; (with_reducible refine (backseatref01_Width.calls k3 t227 t231 _ A45.out).mono ?_); rintro e w' ⟨rfl, ⟨nd, rfl⟩⟩; (try first | exact ⟨rfl, _, World.drewN_drewN _ _ _⟩ | exact ⟨rfl, _, Eq.trans (World.drewN_drewN _ _ _) (congrArg (World.drewN _) (Nat.add_assoc _ _ _))⟩)))
                 repeat (go_quiet (first | (go_at_call 74; (with_reducible refine (backseatref01_First.calls k3 x4_3 t227 t228 t229 _ A43.out).mono ?_); rintro e w49 ⟨rfl, hb⟩; replace BK220 := (zk BK220 hb); replace BK225 := (zk BK225 hb); replace HB := (zs HB hb); (try clear hb)) | ((with_reducible refine gate_dst (N := 6) rfl ?_); refine box_event ?hg (N := 6) ?hd (cs := #[.int .i32 0, .int .i64 0, .int .i64 0]) (t := 106) ?hr ?_; (case hd => rfl); (case hg => rfl); (case hr => exact zo); intro gb230 hg w50 hbox hb; have n0_ := (zk BK220 hb); have n1_ := (zk BK225 hb); have n2_ := (zs HB hb); have n3_ := Aside0.mk (hbox); have n4_ := Aside0.mk ((zg hg : w.heap.size ≤ gb230)); have n5_ := Aside0.mk ((zg hg : w.heap.size ≤ gb230)); have n6_ := Aside0.mk ((by rw [hg]; exact Nat.ne_of_lt (blk_lt (g := gb220) (o := .cells #[.string a0_0, .int .i64 a0_1, .int .i64 a0_2, .int .i64 a0_3, .int .i64 a0_4] 60 (0, 0)) (by exact BK220.out)) : gb220 ≠ gb230)); have n7_ := Aside0.mk ((by rw [hg]; exact Nat.ne_of_gt (blk_lt (g := gb220) (o := .cells #[.string a0_0, .int .i64 a0_1, .int .i64 a0_2, .int .i64 a0_3, .int .i64 a0_4] 60 (0, 0)) (by exact BK220.out)) : gb230 ≠ gb220)); have n8_ := Aside0.mk ((by rw [hg]; exact Nat.ne_of_lt (blk_lt (g := gb225) (o := .cells #[.int .i32 t222, .int .i64 t223, .int .i64 t224] 106 (0, 0)) (by exact BK225.out)) : gb225 ≠ gb230)); have n9_ := Aside0.mk ((by rw [hg]; exact Nat.ne_of_gt (blk_lt (g := gb225) (o := .cells #[.int .i32 t222, .int .i64 t223, .int .i64 t224] 106 (0, 0)) (by exact BK225.out)) : gb230 ≠ gb225)); clear BK220; clear BK225; clear HB; have BK220 := n0_; have BK225 := n1_; have HB := n2_; have BK230 := n3_; have GW230 := n4_; have GE230 := n5_; have NB220_230 := n6_; have NB230_220 := n7_; have NB225_230 := n8_; have NB230_225 := n9_; clear n0_ n1_ n2_ n3_ n4_ n5_ n6_ n7_ n8_ n9_; clear hb hbox hg; have hnb51 := NB230_220.out; have hnc51 := NB220_230.out; have hnb52 := NB230_225.out; have hnc52 := NB225_230.out; obtain ⟨hcz53_0, hcz53_1, hcz53_2, hfz53_0, hfz53_1, hfz53_2⟩ := zq3 (w := w50) BK230) | (go_at_call 75; (with_reducible refine (backseatref01_Width.calls k3 t227 t231 _ A45.out).mono ?_); rintro e w' ⟨rfl, ⟨nd, rfl⟩⟩; (try first | exact ⟨rfl, _, World.drewN_drewN _ _ _⟩ | exact ⟨rfl, _, Eq.trans (World.drewN_drewN _ _ _) (congrArg (World.drewN _) (Nat.add_assoc _ _ _))⟩))); try go_wp2_with (first | (go_at_call 74; (with_reducible refine (backseatref01_First.calls k3 x4_3 t227 t228 t229 _ A43.out).mono ?_); rintro e w49 ⟨rfl, hb⟩; replace BK220 := (zk BK220 hb); replace BK225 := (zk BK225 hb); replace HB := (zs HB hb); (try clear hb)) | ((with_reducible refine gate_dst (N := 6) rfl ?_); refine box_event ?hg (N := 6) ?hd (cs := #[.int .i32 0, .int .i64 0, .int .i64 0]) (t := 106) ?hr ?_; (case hd => rfl); (case hg => rfl); (case hr => exact zo); intro gb230 hg w50 hbox hb; have n0_ := (zk BK220 hb); have n1_ := (zk BK225 hb); have n2_ := (zs HB hb); have n3_ := Aside0.mk (hbox); have n4_ := Aside0.mk ((zg hg : w.heap.size ≤ gb230)); have n5_ := Aside0.mk ((zg hg : w.heap.size ≤ gb230)); have n6_ := Aside0.mk ((by rw [hg]; exact Nat.ne_of_lt (blk_lt (g := gb220) (o := .cells #[.string a0_0, .int .i64 a0_1, .int .i64 a0_2, .int .i64 a0_3, .int .i64 a0_4] 60 (0, 0)) (by exact BK220.out)) : gb220 ≠ gb230)); have n7_ := Aside0.mk ((by rw [hg]; exact Nat.ne_of_gt (blk_lt (g := gb220) (o := .cells #[.string a0_0, .int .i64 a0_1, .int .i64 a0_2, .int .i64 a0_3, .int .i64 a0_4] 60 (0, 0)) (by exact BK220.out)) : gb230 ≠ gb220)); have n8_ := Aside0.mk ((by rw [hg]; exact Nat.ne_of_lt (blk_lt (g := gb225) (o := .cells #[.int .i32 t222, .int .i64 t223, .int .i64 t224] 106 (0, 0)) (by exact BK225.out)) : gb225 ≠ gb230)); have n9_ := Aside0.mk ((by rw [hg]; exact Nat.ne_of_gt (blk_lt (g := gb225) (o := .cells #[.int .i32 t222, .int .i64 t223, .int .i64 t224] 106 (0, 0)) (by exact BK225.out)) : gb230 ≠ gb225)); clear BK220; clear BK225; clear HB; have BK220 := n0_; have BK225 := n1_; have HB := n2_; have BK230 := n3_; have GW230 := n4_; have GE230 := n5_; have NB220_230 := n6_; have NB230_220 := n7_; have NB225_230 := n8_; have NB230_225 := n9_; clear n0_ n1_ n2_ n3_ n4_ n5_ n6_ n7_ n8_ n9_; clear hb hbox hg; have hnb51 := NB230_220.out; have hnc51 := NB220_230.out; have hnb52 := NB230_225.out; have hnc52 := NB225_230.out; obtain ⟨hcz53_0, hcz53_1, hcz53_2, hfz53_0, hfz53_1, hfz53_2⟩ := zq3 (w := w50) BK230) | (go_at_call 75; (with_reducible refine (backseatref01_Width.calls k3 t227 t231 _ A45.out).mono ?_); rintro e w' ⟨rfl, ⟨nd, rfl⟩⟩; (try first | exact ⟨rfl, _, World.drewN_drewN _ _ _⟩ | exact ⟨rfl, _, Eq.trans (World.drewN_drewN _ _ _) (congrArg (World.drewN _) (Nat.add_assoc _ _ _))⟩))))
                 go_roundg k3
                 case measure => have := HJ1.out; have := HJ18.out; have := HK3.out; omega
                 case rel => exact ⟨(x4_3.extract (t228 : Int).toNat x4_3.size), (wrap64 (x5_3 + 1)), zf, zf, H', ⟨by have := HJ1.out; have := HJ18.out; have := HK3.out; omega⟩, ⟨by refine blk_far ?_ NB220_230.out _; refine blk_far ?_ NB220_230.out _; refine blk_far ?_ NB220_230.out _; exact BK220.out⟩, ⟨by refine blk_far ?_ NB225_230.out _; refine blk_far ?_ NB225_230.out _; refine blk_far ?_ NB225_230.out _; exact BK225.out⟩, ⟨zb⟩⟩
                ·rw [if_neg c48] at H
                 exact absurd H (by simp)
               ·rw [if_neg c47] at H
                exact absurd H (by simp)
              ·rw [if_neg c46] at H
               have c46b0 : (t231 == 0) = false := beq_eq_false_iff_ne.mpr c46
               have c46b1 : (t231 != 0) = true := bne_iff_ne.mpr c46
               obtain rfl := Option.some.inj H
               go_wp2_with (first | (go_at_call 74; (with_reducible refine (backseatref01_First.calls k3 x4_3 t227 t228 t229 _ A43.out).mono ?_); rintro e w54 ⟨rfl, hb⟩; replace BK220 := (zk BK220 hb); replace BK225 := (zk BK225 hb); replace HB := (zs HB hb); (try clear hb)) | ((with_reducible refine gate_dst (N := 6) rfl ?_); refine box_event ?hg (N := 6) ?hd (cs := #[.int .i32 0, .int .i64 0, .int .i64 0]) (t := 106) ?hr ?_; (case hd => rfl); (case hg => rfl); (case hr => exact zo); intro gb230 hg w55 hbox hb; have n0_ := (zk BK220 hb); have n1_ := (zk BK225 hb); have n2_ := (zs HB hb); have n3_ := Aside0.mk (hbox); have n4_ := Aside0.mk ((zg hg : w.heap.size ≤ gb230)); have n5_ := Aside0.mk ((zg hg : w.heap.size ≤ gb230)); have n6_ := Aside0.mk ((by rw [hg]; exact Nat.ne_of_lt (blk_lt (g := gb220) (o := .cells #[.string a0_0, .int .i64 a0_1, .int .i64 a0_2, .int .i64 a0_3, .int .i64 a0_4] 60 (0, 0)) (by exact BK220.out)) : gb220 ≠ gb230)); have n7_ := Aside0.mk ((by rw [hg]; exact Nat.ne_of_gt (blk_lt (g := gb220) (o := .cells #[.string a0_0, .int .i64 a0_1, .int .i64 a0_2, .int .i64 a0_3, .int .i64 a0_4] 60 (0, 0)) (by exact BK220.out)) : gb230 ≠ gb220)); have n8_ := Aside0.mk ((by rw [hg]; exact Nat.ne_of_lt (blk_lt (g := gb225) (o := .cells #[.int .i32 t222, .int .i64 t223, .int .i64 t224] 106 (0, 0)) (by exact BK225.out)) : gb225 ≠ gb230)); have n9_ := Aside0.mk ((by rw [hg]; exact Nat.ne_of_gt (blk_lt (g := gb225) (o := .cells #[.int .i32 t222, .int .i64 t223, .int .i64 t224] 106 (0, 0)) (by exact BK225.out)) : gb230 ≠ gb225)); clear BK220; clear BK225; clear HB; have BK220 := n0_; have BK225 := n1_; have HB := n2_; have BK230 := n3_; have GW230 := n4_; have GE230 := n5_; have NB220_230 := n6_; have NB230_220 := n7_; have NB225_230 := n8_; have NB230_225 := n9_; clear n0_ n1_ n2_ n3_ n4_ n5_ n6_ n7_ n8_ n9_; clear hb hbox hg; have hnb56 := NB230_220.out; have hnc56 := NB220_230.out; have hnb57 := NB230_225.out; have hnc57 := NB225_230.out; obtain ⟨hcz58_0, hcz58_1, hcz58_2, hfz58_0, hfz58_1, hfz58_2⟩ := zq3 (w := w55) BK230) | (go_at_call 75; (with_reducible refine (backseatref01_Width.calls k3 t227 t231 _ A45.out).mono ?_); rintro e w' ⟨rfl, ⟨nd, rfl⟩⟩; (try first | exact ⟨rfl, _, World.drewN_drewN _ _ _⟩ | exact ⟨rfl, _, Eq.trans (World.drewN_drewN _ _ _) (congrArg (World.drewN _) (Nat.add_assoc _ _ _))⟩)))
               repeat (go_quiet (first | (go_at_call 74; (with_reducible refine (backseatref01_First.calls k3 x4_3 t227 t228 t229 _ A43.out).mono ?_); rintro e w54 ⟨rfl, hb⟩; replace BK220 := (zk BK220 hb); replace BK225 := (zk BK225 hb); replace HB := (zs HB hb); (try clear hb)) | ((with_reducible refine gate_dst (N := 6) rfl ?_); refine box_event ?hg (N := 6) ?hd (cs := #[.int .i32 0, .int .i64 0, .int .i64 0]) (t := 106) ?hr ?_; (case hd => rfl); (case hg => rfl); (case hr => exact zo); intro gb230 hg w55 hbox hb; have n0_ := (zk BK220 hb); have n1_ := (zk BK225 hb); have n2_ := (zs HB hb); have n3_ := Aside0.mk (hbox); have n4_ := Aside0.mk ((zg hg : w.heap.size ≤ gb230)); have n5_ := Aside0.mk ((zg hg : w.heap.size ≤ gb230)); have n6_ := Aside0.mk ((by rw [hg]; exact Nat.ne_of_lt (blk_lt (g := gb220) (o := .cells #[.string a0_0, .int .i64 a0_1, .int .i64 a0_2, .int .i64 a0_3, .int .i64 a0_4] 60 (0, 0)) (by exact BK220.out)) : gb220 ≠ gb230)); have n7_ := Aside0.mk ((by rw [hg]; exact Nat.ne_of_gt (blk_lt (g := gb220) (o := .cells #[.string a0_0, .int .i64 a0_1, .int .i64 a0_2, .int .i64 a0_3, .int .i64 a0_4] 60 (0, 0)) (by exact BK220.out)) : gb230 ≠ gb220)); have n8_ := Aside0.mk ((by rw [hg]; exact Nat.ne_of_lt (blk_lt (g := gb225) (o := .cells #[.int .i32 t222, .int .i64 t223, .int .i64 t224] 106 (0, 0)) (by exact BK225.out)) : gb225 ≠ gb230)); have n9_ := Aside0.mk ((by rw [hg]; exact Nat.ne_of_gt (blk_lt (g := gb225) (o := .cells #[.int .i32 t222, .int .i64 t223, .int .i64 t224] 106 (0, 0)) (by exact BK225.out)) : gb230 ≠ gb225)); clear BK220; clear BK225; clear HB; have BK220 := n0_; have BK225 := n1_; have HB := n2_; have BK230 := n3_; have GW230 := n4_; have GE230 := n5_; have NB220_230 := n6_; have NB230_220 := n7_; have NB225_230 := n8_; have NB230_225 := n9_; clear n0_ n1_ n2_ n3_ n4_ n5_ n6_ n7_ n8_ n9_; clear hb hbox hg; have hnb56 := NB230_220.out; have hnc56 := NB220_230.out; have hnb57 := NB230_225.out; have hnc57 := NB225_230.out; obtain ⟨hcz58_0, hcz58_1, hcz58_2, hfz58_0, hfz58_1, hfz58_2⟩ := zq3 (w := w55) BK230) | (go_at_call 75; (with_reducible refine (backseatref01_Width.calls k3 t227 t231 _ A45.out).mono ?_); rintro e w' ⟨rfl, ⟨nd, rfl⟩⟩; (try first | exact ⟨rfl, _, World.drewN_drewN _ _ _⟩ | exact ⟨rfl, _, Eq.trans (World.drewN_drewN _ _ _) (congrArg (World.drewN _) (Nat.add_assoc _ _ _))⟩))); try go_wp2_with (first | (go_at_call 74; (with_reducible refine (backseatref01_First.calls k3 x4_3 t227 t228 t229 _ A43.out).mono ?_); rintro e w54 ⟨rfl, hb⟩; replace BK220 := (zk BK220 hb); replace BK225 := (zk BK225 hb); replace HB := (zs HB hb); (try clear hb)) | ((with_reducible refine gate_dst (N := 6) rfl ?_); refine box_event ?hg (N := 6) ?hd (cs := #[.int .i32 0, .int .i64 0, .int .i64 0]) (t := 106) ?hr ?_; (case hd => rfl); (case hg => rfl); (case hr => exact zo); intro gb230 hg w55 hbox hb; have n0_ := (zk BK220 hb); have n1_ := (zk BK225 hb); have n2_ := (zs HB hb); have n3_ := Aside0.mk (hbox); have n4_ := Aside0.mk ((zg hg : w.heap.size ≤ gb230)); have n5_ := Aside0.mk ((zg hg : w.heap.size ≤ gb230)); have n6_ := Aside0.mk ((by rw [hg]; exact Nat.ne_of_lt (blk_lt (g := gb220) (o := .cells #[.string a0_0, .int .i64 a0_1, .int .i64 a0_2, .int .i64 a0_3, .int .i64 a0_4] 60 (0, 0)) (by exact BK220.out)) : gb220 ≠ gb230)); have n7_ := Aside0.mk ((by rw [hg]; exact Nat.ne_of_gt (blk_lt (g := gb220) (o := .cells #[.string a0_0, .int .i64 a0_1, .int .i64 a0_2, .int .i64 a0_3, .int .i64 a0_4] 60 (0, 0)) (by exact BK220.out)) : gb230 ≠ gb220)); have n8_ := Aside0.mk ((by rw [hg]; exact Nat.ne_of_lt (blk_lt (g := gb225) (o := .cells #[.int .i32 t222, .int .i64 t223, .int .i64 t224] 106 (0, 0)) (by exact BK225.out)) : gb225 ≠ gb230)); have n9_ := Aside0.mk ((by rw [hg]; exact Nat.ne_of_gt (blk_lt (g := gb225) (o := .cells #[.int .i32 t222, .int .i64 t223, .int .i64 t224] 106 (0, 0)) (by exact BK225.out)) : gb230 ≠ gb225)); clear BK220; clear BK225; clear HB; have BK220 := n0_; have BK225 := n1_; have HB := n2_; have BK230 := n3_; have GW230 := n4_; have GE230 := n5_; have NB220_230 := n6_; have NB230_220 := n7_; have NB225_230 := n8_; have NB230_225 := n9_; clear n0_ n1_ n2_ n3_ n4_ n5_ n6_ n7_ n8_ n9_; clear hb hbox hg; have hnb56 := NB230_220.out; have hnc56 := NB220_230.out; have hnb57 := NB230_225.out; have hnc57 := NB225_230.out; obtain ⟨hcz58_0, hcz58_1, hcz58_2, hfz58_0, hfz58_1, hfz58_2⟩ := zq3 (w := w55) BK230) | (go_at_call 75; (with_reducible refine (backseatref01_Width.calls k3 t227 t231 _ A45.out).mono ?_); rintro e w' ⟨rfl, ⟨nd, rfl⟩⟩; (try first | exact ⟨rfl, _, World.drewN_drewN _ _ _⟩ | exact ⟨rfl, _, Eq.trans (World.drewN_drewN _ _ _) (congrArg (World.drewN _) (Nat.add_assoc _ _ _))⟩))))
               go_ret
               exact ⟨ze, zb⟩
             ·rw [if_neg c44] at H
              have c44b0 : (t229 == 0) = false := beq_eq_false_iff_ne.mpr c44
              have c44b1 : (t229 != 0) = true := bne_iff_ne.mpr c44
              obtain rfl := Option.some.inj H
              go_wp2_with (first | (go_at_call 74; (with_reducible refine (backseatref01_First.calls k3 x4_3 t227 t228 t229 _ A43.out).mono ?_); rintro e w59 ⟨rfl, hb⟩; replace BK220 := (zk BK220 hb); replace BK225 := (zk BK225 hb); replace HB := (zs HB hb); (try clear hb)) | ((with_reducible refine gate_dst (N := 6) rfl ?_); refine box_event ?hg (N := 6) ?hd (cs := #[.int .i32 0, .int .i64 0, .int .i64 0]) (t := 106) ?hr ?_; (case hd => rfl); (case hg => rfl); (case hr => exact zo); intro gb230 hg w60 hbox hb; have n0_ := (zk BK220 hb); have n1_ := (zk BK225 hb); have n2_ := (zs HB hb); have n3_ := Aside0.mk (hbox); have n4_ := Aside0.mk ((zg hg : w.heap.size ≤ gb230)); have n5_ := Aside0.mk ((zg hg : w.heap.size ≤ gb230)); have n6_ := Aside0.mk ((by rw [hg]; exact Nat.ne_of_lt (blk_lt (g := gb220) (o := .cells #[.string a0_0, .int .i64 a0_1, .int .i64 a0_2, .int .i64 a0_3, .int .i64 a0_4] 60 (0, 0)) (by exact BK220.out)) : gb220 ≠ gb230)); have n7_ := Aside0.mk ((by rw [hg]; exact Nat.ne_of_gt (blk_lt (g := gb220) (o := .cells #[.string a0_0, .int .i64 a0_1, .int .i64 a0_2, .int .i64 a0_3, .int .i64 a0_4] 60 (0, 0)) (by exact BK220.out)) : gb230 ≠ gb220)); have n8_ := Aside0.mk ((by rw [hg]; exact Nat.ne_of_lt (blk_lt (g := gb225) (o := .cells #[.int .i32 t222, .int .i64 t223, .int .i64 t224] 106 (0, 0)) (by exact BK225.out)) : gb225 ≠ gb230)); have n9_ := Aside0.mk ((by rw [hg]; exact Nat.ne_of_gt (blk_lt (g := gb225) (o := .cells #[.int .i32 t222, .int .i64 t223, .int .i64 t224] 106 (0, 0)) (by exact BK225.out)) : gb230 ≠ gb225)); clear BK220; clear BK225; clear HB; have BK220 := n0_; have BK225 := n1_; have HB := n2_; have BK230 := n3_; have GW230 := n4_; have GE230 := n5_; have NB220_230 := n6_; have NB230_220 := n7_; have NB225_230 := n8_; have NB230_225 := n9_; clear n0_ n1_ n2_ n3_ n4_ n5_ n6_ n7_ n8_ n9_; clear hb hbox hg; have hnb61 := NB230_220.out; have hnc61 := NB220_230.out; have hnb62 := NB230_225.out; have hnc62 := NB225_230.out; obtain ⟨hcz63_0, hcz63_1, hcz63_2, hfz63_0, hfz63_1, hfz63_2⟩ := zq3 (w := w60) BK230))
              repeat (go_quiet (first | (go_at_call 74; (with_reducible refine (backseatref01_First.calls k3 x4_3 t227 t228 t229 _ A43.out).mono ?_); rintro e w59 ⟨rfl, hb⟩; replace BK220 := (zk BK220 hb); replace BK225 := (zk BK225 hb); replace HB := (zs HB hb); (try clear hb)) | ((with_reducible refine gate_dst (N := 6) rfl ?_); refine box_event ?hg (N := 6) ?hd (cs := #[.int .i32 0, .int .i64 0, .int .i64 0]) (t := 106) ?hr ?_; (case hd => rfl); (case hg => rfl); (case hr => exact zo); intro gb230 hg w60 hbox hb; have n0_ := (zk BK220 hb); have n1_ := (zk BK225 hb); have n2_ := (zs HB hb); have n3_ := Aside0.mk (hbox); have n4_ := Aside0.mk ((zg hg : w.heap.size ≤ gb230)); have n5_ := Aside0.mk ((zg hg : w.heap.size ≤ gb230)); have n6_ := Aside0.mk ((by rw [hg]; exact Nat.ne_of_lt (blk_lt (g := gb220) (o := .cells #[.string a0_0, .int .i64 a0_1, .int .i64 a0_2, .int .i64 a0_3, .int .i64 a0_4] 60 (0, 0)) (by exact BK220.out)) : gb220 ≠ gb230)); have n7_ := Aside0.mk ((by rw [hg]; exact Nat.ne_of_gt (blk_lt (g := gb220) (o := .cells #[.string a0_0, .int .i64 a0_1, .int .i64 a0_2, .int .i64 a0_3, .int .i64 a0_4] 60 (0, 0)) (by exact BK220.out)) : gb230 ≠ gb220)); have n8_ := Aside0.mk ((by rw [hg]; exact Nat.ne_of_lt (blk_lt (g := gb225) (o := .cells #[.int .i32 t222, .int .i64 t223, .int .i64 t224] 106 (0, 0)) (by exact BK225.out)) : gb225 ≠ gb230)); have n9_ := Aside0.mk ((by rw [hg]; exact Nat.ne_of_gt (blk_lt (g := gb225) (o := .cells #[.int .i32 t222, .int .i64 t223, .int .i64 t224] 106 (0, 0)) (by exact BK225.out)) : gb230 ≠ gb225)); clear BK220; clear BK225; clear HB; have BK220 := n0_; have BK225 := n1_; have HB := n2_; have BK230 := n3_; have GW230 := n4_; have GE230 := n5_; have NB220_230 := n6_; have NB230_220 := n7_; have NB225_230 := n8_; have NB230_225 := n9_; clear n0_ n1_ n2_ n3_ n4_ n5_ n6_ n7_ n8_ n9_; clear hb hbox hg; have hnb61 := NB230_220.out; have hnc61 := NB220_230.out; have hnb62 := NB230_225.out; have hnc62 := NB225_230.out; obtain ⟨hcz63_0, hcz63_1, hcz63_2, hfz63_0, hfz63_1, hfz63_2⟩ := zq3 (w := w60) BK230)); try go_wp2_with (first | (go_at_call 74; (with_reducible refine (backseatref01_First.calls k3 x4_3 t227 t228 t229 _ A43.out).mono ?_); rintro e w59 ⟨rfl, hb⟩; replace BK220 := (zk BK220 hb); replace BK225 := (zk BK225 hb); replace HB := (zs HB hb); (try clear hb)) | ((with_reducible refine gate_dst (N := 6) rfl ?_); refine box_event ?hg (N := 6) ?hd (cs := #[.int .i32 0, .int .i64 0, .int .i64 0]) (t := 106) ?hr ?_; (case hd => rfl); (case hg => rfl); (case hr => exact zo); intro gb230 hg w60 hbox hb; have n0_ := (zk BK220 hb); have n1_ := (zk BK225 hb); have n2_ := (zs HB hb); have n3_ := Aside0.mk (hbox); have n4_ := Aside0.mk ((zg hg : w.heap.size ≤ gb230)); have n5_ := Aside0.mk ((zg hg : w.heap.size ≤ gb230)); have n6_ := Aside0.mk ((by rw [hg]; exact Nat.ne_of_lt (blk_lt (g := gb220) (o := .cells #[.string a0_0, .int .i64 a0_1, .int .i64 a0_2, .int .i64 a0_3, .int .i64 a0_4] 60 (0, 0)) (by exact BK220.out)) : gb220 ≠ gb230)); have n7_ := Aside0.mk ((by rw [hg]; exact Nat.ne_of_gt (blk_lt (g := gb220) (o := .cells #[.string a0_0, .int .i64 a0_1, .int .i64 a0_2, .int .i64 a0_3, .int .i64 a0_4] 60 (0, 0)) (by exact BK220.out)) : gb230 ≠ gb220)); have n8_ := Aside0.mk ((by rw [hg]; exact Nat.ne_of_lt (blk_lt (g := gb225) (o := .cells #[.int .i32 t222, .int .i64 t223, .int .i64 t224] 106 (0, 0)) (by exact BK225.out)) : gb225 ≠ gb230)); have n9_ := Aside0.mk ((by rw [hg]; exact Nat.ne_of_gt (blk_lt (g := gb225) (o := .cells #[.int .i32 t222, .int .i64 t223, .int .i64 t224] 106 (0, 0)) (by exact BK225.out)) : gb230 ≠ gb225)); clear BK220; clear BK225; clear HB; have BK220 := n0_; have BK225 := n1_; have HB := n2_; have BK230 := n3_; have GW230 := n4_; have GE230 := n5_; have NB220_230 := n6_; have NB230_220 := n7_; have NB225_230 := n8_; have NB230_225 := n9_; clear n0_ n1_ n2_ n3_ n4_ n5_ n6_ n7_ n8_ n9_; clear hb hbox hg; have hnb61 := NB230_220.out; have hnc61 := NB220_230.out; have hnb62 := NB230_225.out; have hnc62 := NB225_230.out; obtain ⟨hcz63_0, hcz63_1, hcz63_2, hfz63_0, hfz63_1, hfz63_2⟩ := zq3 (w := w60) BK230)))
              go_ret
              exact ⟨ze, zb⟩
            ·rw [if_neg c42] at H
             have c42b0 : decide (0 < (x4_3.size : Int)) = false := decide_eq_false c42
             have c42b1 : decide (0 < x4_3.size) = false := decide_eq_false (by omega)
             clear c42
             obtain rfl := Option.some.inj H
             go_wp2
             repeat (go_quiet (fail); try go_wp2)
             go_ret
             exact ⟨ze, zb⟩
         ·rw [if_neg c38] at H
          exact absurd H (by simp)
        ·rw [if_neg c37] at H
         exact absurd H (by simp)
end Go.Proofs.YtckkdaehmccjlaaDoor.P
namespace Go.Proofs.YtckkdaehmccjlaaDoor.P
open Go.RowKit Go.Proofs.YtckkdaehmccjlaaDoorW.PrintWords Go.Proofs.YtckkdaehmccjlaaDoorW.PrintLast Go.Proofs.YtckkdaehmccjlaaDoorW.PrintMore Go.Lib
set_option linter.unusedVariables false
set_option linter.unusedSimpArgs false
theorem toList_nil (s : ByteArray) : s.toList = ([] : List UInt8) ↔ s.size = 0 := by
 rw [ByteArray.toList_eq]
 constructor
 ·intro h; have := congrArg List.length h; rw [Array.length_toList] at this; exact this
 ·intro h; exact List.eq_nil_of_length_eq_zero (by rw [Array.length_toList]; exact h)
theorem cell_in_f (r lo hi : Int) : cell_in.f r lo hi = some (inB r lo hi) := by
 unfold cell_in.f inB
 by_cases h : lo ≤ r <;> simp [h]
theorem ref04_in_f (r lo hi : Int) : backseatref04_in.f r lo hi = some (inB r lo hi) := by
 unfold backseatref04_in.f inB
 by_cases h : lo ≤ r <;> simp [h]
def lookB (x y z : Int) : Bool := inB x 0 256 && (inB y 0 256 && inB z 0 255)
theorem look_f (x y z : Int) : cell_Look.f x y z = some (lookB x y z) := by
 unfold cell_Look.f lookB
 simp only [cell_in_f, Option.bind_some]
 cases inB x 0 256 <;> cases inB y 0 256 <;> simp
theorem ref_look_f (x y z : Int) : backseatref04_Look.f x y z = some (lookB x y z) := by
 unfold backseatref04_Look.f lookB
 simp only [ref04_in_f, Option.bind_some]
 cases inB x 0 256 <;> cases inB y 0 256 <;> simp
theorem inB_iff {r lo hi : Int} : inB r lo hi = true ↔ lo ≤ r ∧ r ≤ hi := by unfold inB; simp
theorem rest_size (s : ByteArray) (n : Nat) (h : n ≤ s.size) : (s.extract n s.size).size = s.size - n := by simp [ByteArray.size_extract]
theorem go_size {s : ByteArray} (h : okD s) : 1 ≤ (decodeGo s).2 ∧ (decodeGo s).2 ≤ s.size := by
 have h0 : s.size ≠ 0 := fun e => empty_not s e h
 exact ⟨by rw [dec_go s h0]; exact decodeN_ge1 _ _ _ _ _, decodeGo_le_size s⟩
def marksI (c : Nat) : Option Nat → Int
 | some m => ((c + m : Nat) : Int)
 | none => -1
def marksB (c : Nat) : Option Nat → Bool
 | some m => decide (((c + m : Nat) : Int) ≤ 2)
 | none => false
theorem marks_same : ∀ (n : Nat) (s : ByteArray) (c : Nat), s.size = n → ((c + n : Nat) : Int) ≤ 9223372036854775806 → ∃ o, Ev (fun k => cell_marks.l0 k s (c : Int)) (marksI c o) ∧ Ev (fun k => backseatref04_Right.l0 k s (c : Int)) (marksB c o) := by
 intro n
 induction n using Nat.strongRecOn with
 | _ n ih =>
  intro s c hn hc
  by_cases h0 : s.size = 0
  ·refine ⟨some 0, Ev.succ ?_, Ev.succ ?_⟩
   ·simp only [cell_marks.l0]
    exact Ev.pos ((toList_nil s).2 h0) (Ev.ret _)
   ·simp only [backseatref04_Right.l0]
    exact Ev.neg (by omega) (Ev.ret _)
  ·obtain ⟨r, hr, hF⟩ := utf_first s (by omega)
   obtain ⟨r', hr', hF'⟩ := ref_first s (by omega)
   have hne : ¬ s.toList = ([] : List UInt8) := fun e => h0 ((toList_nil s).1 e)
   rcases hF with ⟨ok, rfl⟩ | ⟨no, hz⟩
   ·rcases hF' with ⟨_, rfl⟩ | ⟨no, _⟩
    rotate_left
    ·exact absurd ok no
    have hg := go_size ok
    by_cases hw : widthP (decodeGo s).1 = 0
    ·obtain ⟨o, h1, h2⟩ := ih (s.size - (decodeGo s).2) (by omega) (s.extract (decodeGo s).2 s.size) (c + 1) (rest_size s _ hg.2) (by omega)
     have hwr := w64 c (by omega)
     refine ⟨o.map (· + 1), Ev.succ ?_, Ev.succ ?_⟩
     ·simp only [cell_marks.l0]
      refine Ev.neg hne (Ev.bind hr (Ev.pos rfl (Ev.bind (Ev.of (utf_width _)) (Ev.pos hw (Ev.pos (by simp only; omega) (Ev.pos (by simp only; omega) ?_))))))
      rw [hwr]
      have e : marksI c (o.map (· + 1)) = marksI (c + 1) o := by cases o with
       | none => rfl
       | some m => simp only [marksI, Option.map_some]; omega
      rw [e]; exact h1
     ·simp only [backseatref04_Right.l0]
      refine Ev.pos (by omega) (Ev.bind hr' (Ev.pos rfl (Ev.bind (ref_width_ev _) (Ev.pos hw (Ev.pos (by simp only; omega) (Ev.pos (by simp only; omega) ?_))))))
      rw [hwr]
      have e : marksB c (o.map (· + 1)) = marksB (c + 1) o := by cases o with
       | none => rfl
       | some m => simp only [marksB, Option.map_some]; rw [show c + (m + 1) = c + 1 + m by omega]
      rw [e]; exact h2
    ·refine ⟨none, Ev.succ ?_, Ev.succ ?_⟩
     ·simp only [cell_marks.l0]
      exact Ev.neg hne (Ev.bind hr (Ev.pos rfl (Ev.bind (Ev.of (utf_width _)) (Ev.neg hw (Ev.ret _)))))
     ·simp only [backseatref04_Right.l0]
      exact Ev.pos (by omega) (Ev.bind hr' (Ev.pos rfl (Ev.bind (ref_width_ev _) (Ev.neg hw (Ev.ret _)))))
   ·rcases hF' with ⟨ok, rfl⟩ | ⟨_, hz'⟩
    ·exact absurd ok no
    refine ⟨none, Ev.succ ?_, Ev.succ ?_⟩
    ·simp only [cell_marks.l0]
     exact Ev.neg hne (Ev.bind hr (Ev.neg hz (Ev.ret _)))
    ·simp only [backseatref04_Right.l0]
     exact Ev.pos (by omega) (Ev.bind hr' (Ev.neg hz' (Ev.ret _)))
theorem right_same (s : ByteArray) (wd x y z : Int) (hs : (s.size : Int) ≤ 9223372036854775806) : ∃ b, Ev (fun k => cell_Right.f k s wd x y z) b ∧ Ev (fun k => backseatref04_Right.f k s wd x y z) b := by
 have ref0 : Ev (fun k => backseatref04_Right.j0 k true s wd x y z) false := Ev.succ (by simp only [backseatref04_Right.j0]; exact Ev.pos trivial (Ev.ret _))
 have ref1 : ∀ a b c, Ev (fun k => backseatref04_Right.j1 k true s wd x y z a b c) false := fun a b c => Ev.succ (by simp only [backseatref04_Right.j1]; exact Ev.pos trivial (Ev.ret _))
 have prg0 : ∀ n, Ev (fun k => cell_Right.j0 k n true s wd x y z) false := fun n => Ev.succ (by simp only [cell_Right.j0]; exact Ev.pos trivial (Ev.ret _))
 have refNo : (lookB x y z = false ∨ wd < 0 ∨ 2 < wd) → Ev (fun k => backseatref04_Right.f k s wd x y z) false := fun h => by
  unfold backseatref04_Right.f
  refine Ev.bind (Ev.of (ref_look_f x y z)) ?_
  by_cases hl : lookB x y z = true
  ·refine Ev.pos hl ?_
   by_cases h1 : wd < 0
   ·exact Ev.pos h1 ref0
   ·refine Ev.neg h1 ?_
    rw [decide_eq_true (by rcases h with h | h | h <;> first | (rw [h] at hl; cases hl) | omega)]
    exact ref0
  ·exact Ev.neg hl ref0
 have refYes : ∀ b, lookB x y z = true → ¬ wd < 0 → ¬ 2 < wd → Ev (fun k => if s.toList = ([] : List UInt8) then (some (decide (wd < 2))) else ((backseatref01_First.f k s).bind fun bt222 => (if bt222.2.2 = 0 then (if wd = 0 then (backseatref04_Right.j1 k true s wd x y z bt222.1 bt222.2.1 bt222.2.2) else ((backseatref01_Width.f k bt222.1).bind fun t226 => (backseatref04_Right.j1 k (t226 != wd) s wd x y z bt222.1 bt222.2.1 bt222.2.2))) else (backseatref04_Right.j1 k true s wd x y z bt222.1 bt222.2.1 bt222.2.2)))) b → Ev (fun k => backseatref04_Right.f k s wd x y z) b := fun b hl h1 h2 hb => by
  unfold backseatref04_Right.f
  refine Ev.bind (Ev.of (ref_look_f x y z)) (Ev.pos hl (Ev.neg h1 ?_))
  rw [decide_eq_false h2]
  refine Ev.succ ?_
  simp only [backseatref04_Right.j0]
  exact Ev.neg (by decide) hb
 by_cases h0 : s.size = 0
 ·have hE := (toList_nil s).2 h0
  have hp : Ev (fun k => cell_Right.f k s wd x y z) (lookB x y z && inB wd 0 1) := by
   unfold cell_Right.f
   refine Ev.pos hE (Ev.bind (Ev.of (look_f x y z)) ?_)
   cases hl : lookB x y z
   ·exact Ev.neg (by decide) (Ev.ret _)
   ·exact Ev.pos rfl (Ev.bind (Ev.of (cell_in_f _ _ _)) (Ev.ret _))
  refine ⟨_, hp, ?_⟩
  by_cases hl : lookB x y z = true
  ·by_cases h1 : wd < 0
   ·have e : (lookB x y z && inB wd 0 1) = false := by rw [hl]; unfold inB; simp; omega
    rw [e]; exact refNo (Or.inr (Or.inl h1))
   ·by_cases h2 : 2 < wd
    ·have e : (lookB x y z && inB wd 0 1) = false := by rw [hl]; unfold inB; simp; omega
     rw [e]; exact refNo (Or.inr (Or.inr h2))
    ·have e : (lookB x y z && inB wd 0 1) = decide (wd < 2) := by rw [hl]; unfold inB; rw [Bool.true_and, decide_eq_true (by omega), Bool.true_and, decide_eq_decide]; omega
     rw [e]; exact refYes _ hl h1 h2 (Ev.pos hE (Ev.ret _))
  ·have e : (lookB x y z && inB wd 0 1) = false := by rw [Bool.eq_false_iff.2 hl, Bool.false_and]
   rw [e]; exact refNo (Or.inl (Bool.eq_false_iff.2 hl))
 ·have hne : ¬ s.toList = ([] : List UInt8) := fun e => h0 ((toList_nil s).1 e)
  obtain ⟨r, hr, hF⟩ := utf_first s (by omega)
  obtain ⟨r', hr', hF'⟩ := ref_first s (by omega)
  rcases hF with ⟨ok, rfl⟩ | ⟨no, hz⟩
  ·rcases hF' with ⟨_, rfl⟩ | ⟨no, _⟩
   rotate_left
   ·exact absurd ok no
   have hg := go_size ok
   have prgNo : (¬ (1 ≤ wd ∧ wd ≤ 2) ∨ widthP (decodeGo s).1 ≠ wd ∨ lookB x y z = false) → Ev (fun k => cell_Right.f k s wd x y z) false := fun h => by
    unfold cell_Right.f
    refine Ev.neg hne (Ev.bind hr (Ev.pos rfl (Ev.bind (Ev.of (cell_in_f _ _ _)) ?_)))
    by_cases hw : inB wd 1 2 = true
    ·refine Ev.pos hw (Ev.bind (Ev.of (utf_width _)) ?_)
     by_cases hq : widthP (decodeGo s).1 = wd
     ·have hl : lookB x y z = false := by
       rcases h with h | h | h
       ·exact absurd (inB_iff.1 hw) h
       ·exact absurd hq h
       ·exact h
      simp only [hq, bne_self_eq_false]
      refine Ev.succ ?_
      simp only [cell_Right.j0]
      refine Ev.neg (by decide) (Ev.bind (Ev.of (look_f x y z)) ?_)
      rw [hl]; exact Ev.neg (by decide) (Ev.ret _)
     ·have : (widthP (decodeGo s).1 != wd) = true := bne_iff_ne.2 hq
      simp only [this]; exact prg0 _
    ·exact Ev.neg hw (prg0 _)
   by_cases hl : lookB x y z = true
   ·by_cases hw : (1 ≤ wd ∧ wd ≤ 2) ∧ widthP (decodeGo s).1 = wd
    ·obtain ⟨o, m1, m2⟩ := marks_same _ (s.extract (decodeGo s).2 s.size) 0 rfl (by rw [rest_size s _ hg.2]; omega)
     have hbne : (widthP (decodeGo s).1 != wd) = false := by rw [hw.2]; exact bne_self_eq_false _
     refine ⟨marksB 0 o, ?_, ?_⟩
     ·unfold cell_Right.f
      refine Ev.neg hne (Ev.bind hr (Ev.pos rfl (Ev.bind (Ev.of (cell_in_f _ _ _)) (Ev.pos (inB_iff.2 hw.1) (Ev.bind (Ev.of (utf_width _)) ?_)))))
      simp only [hbne]
      refine Ev.succ ?_
      simp only [cell_Right.j0]
      refine Ev.neg (by decide) (Ev.bind (Ev.of (look_f x y z)) (Ev.pos hl (Ev.pos (by omega) (Ev.pos (by omega) ?_))))
      rw [Int.toNat_natCast]
      refine Ev.bind (v := marksI 0 o) ?_ (Ev.bind (Ev.of (cell_in_f _ _ _)) (Ev.of ?_))
      ·unfold cell_marks.f; exact m1
      ·cases o with
       | none => rfl
       | some m => simp only [marksI, marksB, inB]; congr 1
     ·refine refYes _ hl (by omega) (by omega) (Ev.neg hne (Ev.bind hr' (Ev.pos rfl (Ev.neg (by omega) (Ev.bind (ref_width_ev _) ?_)))))
      simp only [hbne]
      refine Ev.succ ?_
      simp only [backseatref04_Right.j1]
      refine Ev.neg (by decide) (Ev.pos (by omega) (Ev.pos (by omega) ?_))
      rw [Int.toNat_natCast]
      exact m2
    ·refine ⟨false, prgNo ((Classical.em (1 ≤ wd ∧ wd ≤ 2)).elim (fun h => Or.inr (Or.inl fun e => hw ⟨h, e⟩)) Or.inl), ?_⟩
     by_cases h1 : wd < 0
     ·exact refNo (Or.inr (Or.inl h1))
     by_cases h2 : 2 < wd
     ·exact refNo (Or.inr (Or.inr h2))
     refine refYes _ hl h1 h2 (Ev.neg hne (Ev.bind hr' (Ev.pos rfl ?_)))
     by_cases h3 : wd = 0
     ·exact Ev.pos h3 (ref1 _ _ _)
     ·refine Ev.neg h3 (Ev.bind (ref_width_ev _) ?_)
      have : (widthP (decodeGo s).1 != wd) = true := bne_iff_ne.2 (fun e => hw ⟨by omega, e⟩)
      simp only [this]; exact ref1 _ _ _
   ·exact ⟨false, prgNo (Or.inr (Or.inr (Bool.eq_false_iff.2 hl))), refNo (Or.inl (Bool.eq_false_iff.2 hl))⟩
  ·rcases hF' with ⟨ok, rfl⟩ | ⟨_, hz'⟩
   ·exact absurd ok no
   refine ⟨false, ?_, ?_⟩
   ·unfold cell_Right.f
    exact Ev.neg hne (Ev.bind hr (Ev.neg hz (prg0 _)))
   ·by_cases hl : lookB x y z = true
    ·by_cases h1 : wd < 0
     ·exact refNo (Or.inr (Or.inl h1))
     by_cases h2 : 2 < wd
     ·exact refNo (Or.inr (Or.inr h2))
     exact refYes _ hl h1 h2 (Ev.neg hne (Ev.bind hr' (Ev.neg hz' (ref1 _ _ _))))
    ·exact refNo (Or.inl (Bool.eq_false_iff.2 hl))
end Go.Proofs.YtckkdaehmccjlaaDoor.P
namespace Go.Proofs.YtckkdaehmccjlaaDoor.P
open Go.RowKit Go.Proofs.YtckkdaehmccjlaaDoorW.PrintWords Go.Proofs.YtckkdaehmccjlaaDoorW.PrintLast Go.Proofs.YtckkdaehmccjlaaDoorW.PrintMore
attribute [local go_sem] max2_int min2_int max_two min_two max_three min_three max_four min_four   -- for this text's walks alone
set_option linter.unusedVariables false
set_option linter.unusedSimpArgs false
def backseatref06_half.f (l0 : List (S60)) (a1 : Int) : Option (Bool) := if 0 ≤ a1 then (if a1 < (l0.length : Int) then (if ((rd_T60 l0 a1).f1) = 2 then (if (wrap64 (a1 + 1)) = (l0.length : Int) then (some true) else (if 0 ≤ (wrap64 (a1 + 1)) then (if (wrap64 (a1 + 1)) < (l0.length : Int) then (some (((rd_T60 l0 (wrap64 (a1 + 1))).f1) != 0)) else (none)) else (none))) else (if ((rd_T60 l0 a1).f1) = 0 then (if a1 = 0 then (some true) else (if 0 ≤ (wrap64 (a1 - 1)) then (if (wrap64 (a1 - 1)) < (l0.length : Int) then (some (((rd_T60 l0 (wrap64 (a1 - 1))).f1) != 2)) else (none)) else (none))) else (some false))) else (none)) else (none)
set_option maxHeartbeats 8000000 in
set_option maxRecDepth 100000 in
theorem backseatref06_half.calls (A0 : Option Addr) (c0 : Nat) (l0 : List (S60)) (a1 : Int) (r : Bool) (w : World) (hr0 : Kd.C k60 w A0 l0.length l0) (hc0 : l0.length ≤ c0) (h : backseatref06_half.f l0 a1 = some r) :
  Calls Tryd.prog 54 #[.slice A0 l0.length c0, .int .i64 a1] w fun e w' => e = .returned (.bool r) ∧ Drawn0 w w' := by
 have HR0 := Aside0.mk hr0
 have HC0 := Aside0.mk hc0
 clear hr0 hc0
 have H : (if 0 ≤ a1 then (if a1 < (l0.length : Int) then (if ((rd_T60 l0 a1).f1) = 2 then (if (wrap64 (a1 + 1)) = (l0.length : Int) then (some true) else (if 0 ≤ (wrap64 (a1 + 1)) then (if (wrap64 (a1 + 1)) < (l0.length : Int) then (some (((rd_T60 l0 (wrap64 (a1 + 1))).f1) != 0)) else (none)) else (none))) else (if ((rd_T60 l0 a1).f1) = 0 then (if a1 = 0 then (some true) else (if 0 ≤ (wrap64 (a1 - 1)) then (if (wrap64 (a1 - 1)) < (l0.length : Int) then (some (((rd_T60 l0 (wrap64 (a1 - 1))).f1) != 2)) else (none)) else (none))) else (some false))) else (none)) else (none)) = some r := h
 clear h
 by_cases c3 : 0 ≤ a1
 ·rw [if_pos c3] at H
  have c3b0 : decide (0 ≤ a1) = true := decide_eq_true c3
  clear c3
  by_cases c4 : a1 < (l0.length : Int)
  ·rw [if_pos c4] at H
   have c4b0 : decide (a1 < (l0.length : Int)) = true := decide_eq_true c4
   clear c4
   by_cases c5 : ((rd_T60 l0 a1).f1) = 2
   ·rw [if_pos c5] at H
    have c5b0 : (((rd_T60 l0 a1).f1) == 2) = true := beq_iff_eq.mpr c5
    have c5b1 : (((rd_T60 l0 a1).f1) != 2) = false := bne_eq_false_iff_eq.mpr c5
    clear c5
    by_cases c6 : (wrap64 (a1 + 1)) = (l0.length : Int)
    ·rw [if_pos c6] at H
     have c6b0 : ((wrap64 (a1 + 1)) == (l0.length : Int)) = true := beq_iff_eq.mpr c6
     have c6b1 : ((wrap64 (a1 + 1)) != (l0.length : Int)) = false := bne_eq_false_iff_eq.mpr c6
     clear c6
     obtain rfl := Option.some.inj H
     have p232 : 0 ≤ (a1 : Int) := of_decide_eq_true za
     have q232 : a1 < (l0.length : Int) := of_decide_eq_true za
     obtain ⟨ad232, e232, hx232_0, hx232_1, hx232_2, hx232_3, hx232_4⟩ := at_T60 HR0.out a1 p232 q232
     cases e232
     replace p232 := eq_true p232
     replace q232 := eq_true q232
     go_enter Tryd.func54, Tryd.ntmps54
     go_wp2
     go_ret
     exact ⟨by first | rfl | (simp; done) | (simp [*]; done), by repeat (first | exact Drawn0.refl _ | apply Drawn0.step)⟩
    ·rw [if_neg c6] at H
     have c6b0 : ((wrap64 (a1 + 1)) == (l0.length : Int)) = false := beq_eq_false_iff_ne.mpr c6
     have c6b1 : ((wrap64 (a1 + 1)) != (l0.length : Int)) = true := bne_iff_ne.mpr c6
     obtain ⟨ji7, hji7⟩ : ∃ j_ : Int, (wrap64 (a1 + 1)) = j_ := ⟨_, rfl⟩
     replace H : (if 0 ≤ (ji7) then (if (ji7) < (l0.length : Int) then (some (((rd_T60 l0 (ji7)).f1) != 0)) else (none)) else (none)) = some r := by first | (rw [hji7] at H; exact H) | (simp only [hji7] at H ⊢; exact H)
     (try rw [hji7] at c6b0)
     (try rw [hji7] at c6b1)
     have hji7w : (IntKind.i64.wrap (a1 + 1)) = ji7 := (i64_w _).trans hji7
     by_cases c8 : 0 ≤ (ji7)
     ·rw [if_pos c8] at H
      have c8b0 : decide (0 ≤ (ji7)) = true := decide_eq_true c8
      clear c8
      by_cases c9 : (ji7) < (l0.length : Int)
      ·rw [if_pos c9] at H
       have c9b0 : decide ((ji7) < (l0.length : Int)) = true := decide_eq_true c9
       clear c9
       obtain rfl := Option.some.inj H
       have p232 : 0 ≤ (a1 : Int) := of_decide_eq_true za
       have q232 : a1 < (l0.length : Int) := of_decide_eq_true za
       obtain ⟨ad232, e232, hx232_0, hx232_1, hx232_2, hx232_3, hx232_4⟩ := at_T60 HR0.out a1 p232 q232
       cases e232
       replace p232 := eq_true p232
       replace q232 := eq_true q232
       have p233 : 0 ≤ ((ji7) : Int) := of_decide_eq_true za
       have q233 : (ji7) < (l0.length : Int) := of_decide_eq_true za
       obtain ⟨ad233, e233, hx233_0, hx233_1, hx233_2, hx233_3, hx233_4⟩ := at_T60 HR0.out (ji7) p233 q233
       obtain rfl : ad232 = ad233 := (by injection e233)
       replace p233 := eq_true p233
       replace q233 := eq_true q233
       go_enter Tryd.func54, Tryd.ntmps54
       go_wp2
       go_ret
       exact ⟨by first | rfl | (simp; done) | (simp only [← hji7] <;> (first | rfl | (simp; done))) | (simp [*]; done) | (simp; simp only [decide_eq_true_eq, eq_iff_iff, iff_true] at *; omega), by repeat (first | exact Drawn0.refl _ | apply Drawn0.step)⟩
      ·rw [if_neg c9] at H
       exact absurd H (by simp)
     ·rw [if_neg c8] at H
      exact absurd H (by simp)
   ·rw [if_neg c5] at H
    have c5b0 : (((rd_T60 l0 a1).f1) == 2) = false := beq_eq_false_iff_ne.mpr c5
    have c5b1 : (((rd_T60 l0 a1).f1) != 2) = true := bne_iff_ne.mpr c5
    by_cases c10 : ((rd_T60 l0 a1).f1) = 0
    ·rw [if_pos c10] at H
     have c10b0 : (((rd_T60 l0 a1).f1) == 0) = true := beq_iff_eq.mpr c10
     have c10b1 : (((rd_T60 l0 a1).f1) != 0) = false := bne_eq_false_iff_eq.mpr c10
     clear c10
     by_cases c11 : a1 = 0
     ·rw [if_pos c11] at H
      have c11b0 : (a1 == 0) = true := beq_iff_eq.mpr c11
      have c11b1 : (a1 != 0) = false := bne_eq_false_iff_eq.mpr c11
      clear c11
      obtain rfl := Option.some.inj H
      have p232 : 0 ≤ (a1 : Int) := of_decide_eq_true za
      have q232 : a1 < (l0.length : Int) := of_decide_eq_true za
      obtain ⟨ad232, e232, hx232_0, hx232_1, hx232_2, hx232_3, hx232_4⟩ := at_T60 HR0.out a1 p232 q232
      cases e232
      replace p232 := eq_true p232
      replace q232 := eq_true q232
      have p234 : 0 ≤ (a1 : Int) := of_decide_eq_true za
      have q234 : a1 < (l0.length : Int) := of_decide_eq_true za
      obtain ⟨ad234, e234, hx234_0, hx234_1, hx234_2, hx234_3, hx234_4⟩ := at_T60 HR0.out a1 p234 q234
      obtain rfl : ad232 = ad234 := (by injection e234)
      replace p234 := eq_true p234
      replace q234 := eq_true q234
      go_enter Tryd.func54, Tryd.ntmps54
      go_wp2
      go_ret
      exact ⟨by first | rfl | (simp; done) | (simp [*]; done), by repeat (first | exact Drawn0.refl _ | apply Drawn0.step)⟩
     ·rw [if_neg c11] at H
      have c11b0 : (a1 == 0) = false := beq_eq_false_iff_ne.mpr c11
      have c11b1 : (a1 != 0) = true := bne_iff_ne.mpr c11
      obtain ⟨ji12, hji12⟩ : ∃ j_ : Int, (wrap64 (a1 - 1)) = j_ := ⟨_, rfl⟩
      replace H : (if 0 ≤ (ji12) then (if (ji12) < (l0.length : Int) then (some (((rd_T60 l0 (ji12)).f1) != 2)) else (none)) else (none)) = some r := by first | (rw [hji12] at H; exact H) | (simp only [hji12] at H ⊢; exact H)
      have hji12w : (IntKind.i64.wrap (a1 - 1)) = ji12 := (i64_w _).trans hji12
      by_cases c13 : 0 ≤ (ji12)
      ·rw [if_pos c13] at H
       have c13b0 : decide (0 ≤ (ji12)) = true := decide_eq_true c13
       clear c13
       by_cases c14 : (ji12) < (l0.length : Int)
       ·rw [if_pos c14] at H
        have c14b0 : decide ((ji12) < (l0.length : Int)) = true := decide_eq_true c14
        clear c14
        obtain rfl := Option.some.inj H
        have p232 : 0 ≤ (a1 : Int) := of_decide_eq_true za
        have q232 : a1 < (l0.length : Int) := of_decide_eq_true za
        obtain ⟨ad232, e232, hx232_0, hx232_1, hx232_2, hx232_3, hx232_4⟩ := at_T60 HR0.out a1 p232 q232
        cases e232
        replace p232 := eq_true p232
        replace q232 := eq_true q232
        have p234 : 0 ≤ (a1 : Int) := of_decide_eq_true za
        have q234 : a1 < (l0.length : Int) := of_decide_eq_true za
        obtain ⟨ad234, e234, hx234_0, hx234_1, hx234_2, hx234_3, hx234_4⟩ := at_T60 HR0.out a1 p234 q234
        obtain rfl : ad232 = ad234 := (by injection e234)
        replace p234 := eq_true p234
        replace q234 := eq_true q234
        have p235 : 0 ≤ ((ji12) : Int) := of_decide_eq_true za
        have q235 : (ji12) < (l0.length : Int) := of_decide_eq_true za
        obtain ⟨ad235, e235, hx235_0, hx235_1, hx235_2, hx235_3, hx235_4⟩ := at_T60 HR0.out (ji12) p235 q235
        obtain rfl : ad232 = ad235 := (by injection e235)
        replace p235 := eq_true p235
        replace q235 := eq_true q235
        go_enter Tryd.func54, Tryd.ntmps54
        go_wp2
        go_ret
        exact ⟨by first | rfl | (simp; done) | (simp only [← hji12] <;> (first | rfl | (simp; done))) | (simp [*]; done) | (simp; simp only [decide_eq_true_eq, eq_iff_iff, iff_true] at *; omega), by repeat (first | exact Drawn0.refl _ | apply Drawn0.step)⟩
       ·rw [if_neg c14] at H
        exact absurd H (by simp)
      ·rw [if_neg c13] at H
       exact absurd H (by simp)
    ·rw [if_neg c10] at H
     have c10b0 : (((rd_T60 l0 a1).f1) == 0) = false := beq_eq_false_iff_ne.mpr c10
     have c10b1 : (((rd_T60 l0 a1).f1) != 0) = true := bne_iff_ne.mpr c10
     obtain rfl := Option.some.inj H
     have p232 : 0 ≤ (a1 : Int) := of_decide_eq_true za
     have q232 : a1 < (l0.length : Int) := of_decide_eq_true za
     obtain ⟨ad232, e232, hx232_0, hx232_1, hx232_2, hx232_3, hx232_4⟩ := at_T60 HR0.out a1 p232 q232
     cases e232
     replace p232 := eq_true p232
     replace q232 := eq_true q232
     have p234 : 0 ≤ (a1 : Int) := of_decide_eq_true za
     have q234 : a1 < (l0.length : Int) := of_decide_eq_true za
     obtain ⟨ad234, e234, hx234_0, hx234_1, hx234_2, hx234_3, hx234_4⟩ := at_T60 HR0.out a1 p234 q234
     obtain rfl : ad232 = ad234 := (by injection e234)
     replace p234 := eq_true p234
     replace q234 := eq_true q234
     go_enter Tryd.func54, Tryd.ntmps54
     go_wp2
     go_ret
     exact ⟨by first | rfl | (simp; done) | (simp [*]; done), by repeat (first | exact Drawn0.refl _ | apply Drawn0.step)⟩
  ·rw [if_neg c4] at H
   exact absurd H (by simp)
 ·rw [if_neg c3] at H
  exact absurd H (by simp)
def backseatref06_Fits.l0 : Nat → Int → List (S60) → Int → Int → List (S60) → Bool → Option (Bool)
 | 0, _, _, _, _, _, _ => none
 | k + 1, x1, x8, x9, x10, x237000, x237001 => if x10 < x9 then (if 0 ≤ x10 then (if x10 < (x8.length : Int) then ((backseatref04_Right.f k ((rd_T60 x8 x10).f0) ((rd_T60 x8 x10).f1) ((rd_T60 x8 x10).f2.f0) ((rd_T60 x8 x10).f2.f1) ((rd_T60 x8 x10).f2.f2)).bind fun t239 => (if t239 = true then ((backseatref06_half.f x237000 x10).bind fun t240 => (if t240 = true then (some false) else (backseatref06_Fits.l0 k x1 x8 x9 (wrap64 (x10 + 1)) x237000 x237001))) else (some false))) else (none)) else (none)) else (some ((x237000.length : Int) == x1))
def backseatref06_Fits.f (k : Nat) (l0_0 : List (S60)) (a0_1 : Bool) (a1 : Int) : Option (Bool) := backseatref06_Fits.l0 k a1 l0_0 (l0_0.length : Int) 0 l0_0 a0_1
set_option maxHeartbeats 8000000 in
set_option maxRecDepth 100000 in
theorem backseatref06_Fits.calls (k : Nat) (A0_0 : Option Addr) (c0_0 : Nat) (l0_0 : List (S60)) (a0_1 : Bool) (a1 : Int) (r : Bool) (w : World) (hr0_0 : Kd.C k60 w A0_0 l0_0.length l0_0) (hc0_0 : l0_0.length ≤ c0_0) (h : backseatref06_Fits.f k l0_0 a0_1 a1 = some r) :
  Calls Tryd.prog 27 #[.agg #[.slice A0_0 l0_0.length c0_0, .bool a0_1], .int .i64 a1] w fun e w' => e = .returned (.bool r) ∧ Below w.heap.size w w' := by
 have hu38 := Tryd.underlying38
 have hu60 := Tryd.underlying60
 have HR0_0 := Aside0.mk hr0_0
 have HC0_0 := Aside0.mk hc0_0
 clear hr0_0 hc0_0
 have HB := Aside0.mk (Below.refl w.heap.size w)
 have H : (backseatref06_Fits.l0 k a1 l0_0 (l0_0.length : Int) 0 l0_0 a0_1) = some r := h
 clear h
 have H' := Aside0.mk H
 clear H
 go_enter Tryd.func27, Tryd.ntmps27
 go_wp2_with (first | ((with_reducible refine gate_dst (N := 2) rfl ?_); refine box_event ?hg (N := 2) ?hd (cs := #[.slice A0_0 l0_0.length c0_0, .bool a0_1]) (t := 38) ?hr ?_; (case hd => rfl); (case hg => rfl); (case hr => exact zo); intro gb236 hg w3 hbox hb; have BK236 := Aside0.mk (hbox); have GW236 := Aside0.mk ((zg hg : w.heap.size ≤ gb236)); have GE236 := Aside0.mk ((zg hg : w.heap.size ≤ gb236)); replace HB := (zs HB hb); clear hb hbox hg; obtain ⟨hcz4_0, hcz4_1, hfz4_0, hfz4_1⟩ := zq2 (w := w3) BK236))
 go_loopg [10] k (fun kq v10 w' => ∃ (x10_1 : Int), v10 = .int .i64 x10_1 ∧ Aside0 (backseatref06_Fits.l0 kq a1 l0_0 (l0_0.length : Int) x10_1 l0_0 a0_1 = some r) ∧ Aside0 (kq ≤ k) ∧ Aside0 (w'.heap[gb236]? = some (.cells #[(.slice A0_0 l0_0.length c0_0), .bool a0_1] 38 (0, 0))) ∧ Aside0 (Below w.heap.size w w'))
 case atStart => exact ⟨(0), zf, H', ⟨Nat.le_refl _⟩, ⟨by exact BK236.out⟩, ⟨zb⟩⟩
 case round =>
  clear H'
  try clear hcz4_0
  try clear hcz4_1
  try clear hfz4_0
  try clear hfz4_1
  obtain ⟨x10_1, rfl, HA, HK1, BK236, HB⟩ := hrel
  cases gk with
  | zero => exact absurd HA.out (by simp [backseatref06_Fits.l0])
  | succ k1 =>
   have H := HA.out
   clear HA
   simp only [backseatref06_Fits.l0] at H
   by_cases c5 : x10_1 < (l0_0.length : Int)
   ·rw [if_pos c5] at H
    have c5b0 : decide (x10_1 < (l0_0.length : Int)) = true := decide_eq_true c5
    clear c5
    by_cases c6 : 0 ≤ x10_1
    ·rw [if_pos c6] at H
     have c6b0 : decide (0 ≤ x10_1) = true := decide_eq_true c6
     clear c6
     by_cases c7 : x10_1 < (l0_0.length : Int)
     ·rw [if_pos c7] at H
      have c7b0 : decide (x10_1 < (l0_0.length : Int)) = true := decide_eq_true c7
      clear c7
      replace H := Option.bind_eq_some_iff.mp H
      obtain ⟨t239, A80, H⟩ := H
      replace H : (if t239 = true then ((backseatref06_half.f l0_0 x10_1).bind fun t240 => (if t240 = true then (some false) else (backseatref06_Fits.l0 k1 a1 l0_0 (l0_0.length : Int) (wrap64 (x10_1 + 1)) l0_0 a0_1))) else (some false)) = some r := H
      have A8 := Aside0.mk A80
      clear A80
      by_cases c9 : t239 = true
      ·subst c9
       have H1 : ((backseatref06_half.f l0_0 x10_1).bind fun t240 => (if t240 = true then (some false) else (backseatref06_Fits.l0 k1 a1 l0_0 (l0_0.length : Int) (wrap64 (x10_1 + 1)) l0_0 a0_1))) = some r := by rw [if_pos rfl] at H; exact H
       clear H
       have H := H1
       clear H1
       replace H := Option.bind_eq_some_iff.mp H
       obtain ⟨t240, A100, H⟩ := H
       replace H : (if t240 = true then (some false) else (backseatref06_Fits.l0 k1 a1 l0_0 (l0_0.length : Int) (wrap64 (x10_1 + 1)) l0_0 a0_1)) = some r := H
       have A10 := Aside0.mk A100
       clear A100
       by_cases c11 : t240 = true
       ·subst c11
        have H1 : (some false) = some r := by rw [if_pos rfl] at H; exact H
        clear H
        have H := H1
        clear H1
        obtain rfl := Option.some.inj H
        have p237 : 0 ≤ (x10_1 : Int) := of_decide_eq_true za
        have q237 : x10_1 < (l0_0.length : Int) := of_decide_eq_true za
        obtain ⟨ad237, e237, hx237_0, hx237_1, hx237_2, hx237_3, hx237_4⟩ := at_T60 HR0_0.out x10_1 p237 q237
        cases e237
        replace hx237_0 := zc HB hx237_0
        replace hx237_1 := zc HB hx237_1
        replace hx237_2 := zc HB hx237_2
        replace hx237_3 := zc HB hx237_3
        replace hx237_4 := zc HB hx237_4
        replace p237 := eq_true p237
        replace q237 := eq_true q237
        go_wp2_with (first | ((with_reducible refine gate_dst (N := 6) rfl ?_); refine box_event ?hg (N := 6) ?hd (cs := #[.string (⟨#[]⟩ : ByteArray), .int .i64 0, .int .i64 0, .int .i64 0, .int .i64 0]) (t := 60) ?hr ?_; (case hd => rfl); (case hg => rfl); (case hr => exact zo); intro gb238 hg w12 hbox hb; have n0_ := (zk BK236 hb); have n1_ := (zs HB hb); have n2_ := Aside0.mk (hbox); have n3_ := Aside0.mk ((zg hg : w.heap.size ≤ gb238)); have n4_ := Aside0.mk ((zg hg : w.heap.size ≤ gb238)); have n5_ := Aside0.mk ((by rw [hg]; exact Nat.ne_of_lt (blk_lt (g := gb236) (o := .cells #[.slice (some ad237) l0_0.length c0_0, .bool a0_1] 38 (0, 0)) (by exact BK236.out)) : gb236 ≠ gb238)); have n6_ := Aside0.mk ((by rw [hg]; exact Nat.ne_of_gt (blk_lt (g := gb236) (o := .cells #[.slice (some ad237) l0_0.length c0_0, .bool a0_1] 38 (0, 0)) (by exact BK236.out)) : gb238 ≠ gb236)); clear BK236; clear HB; have BK236 := n0_; have HB := n1_; have BK238 := n2_; have GW238 := n3_; have GE238 := n4_; have NB236_238 := n5_; have NB238_236 := n6_; clear n0_ n1_ n2_ n3_ n4_ n5_ n6_; clear hb hbox hg; have hnb13 := NB238_236.out; have hnc13 := NB236_238.out; obtain ⟨hcz14_0, hcz14_1, hcz14_2, hcz14_3, hcz14_4, hfz14_0, hfz14_1, hfz14_2, hfz14_3, hfz14_4⟩ := zq5 (w := w12) BK238) | ((with_reducible refine gate_callee (f := 53) rfl ?_); refine goesL_ (some 16) rfl rfl Tryd.func53 (by kernel_rfl) rfl #[.agg #[.string ((rd_T60 l0_0 x10_1).f0), .int .i64 ((rd_T60 l0_0 x10_1).f1), .int .i64 ((rd_T60 l0_0 x10_1).f2.f0), .int .i64 ((rd_T60 l0_0 x10_1).f2.f1), .int .i64 ((rd_T60 l0_0 x10_1).f2.f2)]] rfl zl ?_; (with_reducible refine (backseatref04_Right.calls k1 ((rd_T60 l0_0 x10_1).f0) ((rd_T60 l0_0 x10_1).f1) ((rd_T60 l0_0 x10_1).f2.f0) ((rd_T60 l0_0 x10_1).f2.f1) ((rd_T60 l0_0 x10_1).f2.f2) true _ A8.out).mono ?_); rintro e w15 ⟨rfl, hb⟩; refine ⟨_, rfl, ?_⟩; replace BK236 := Aside0.mk (blk_below (g := gb236) (o := .cells #[.slice (some ad237) l0_0.length c0_0, .bool a0_1] 38 (0, 0)) (by refine blk_far ?_ NB236_238.out _; refine blk_far ?_ NB236_238.out _; refine blk_far ?_ NB236_238.out _; refine blk_far ?_ NB236_238.out _; refine blk_far ?_ NB236_238.out _; exact BK236.out) hb); replace BK238 := Aside0.mk (blk_below (g := gb238) (o := .cells #[.string ((rd_T60 l0_0 x10_1).f0), .int .i64 ((rd_T60 l0_0 x10_1).f1), .int .i64 ((rd_T60 l0_0 x10_1).f2.f0), .int .i64 ((rd_T60 l0_0 x10_1).f2.f1), .int .i64 ((rd_T60 l0_0 x10_1).f2.f2)] 60 (0, 0)) (by refine blk_put (cs := #[.string ((rd_T60 l0_0 x10_1).f0), .int .i64 ((rd_T60 l0_0 x10_1).f1), .int .i64 ((rd_T60 l0_0 x10_1).f2.f0), .int .i64 ((rd_T60 l0_0 x10_1).f2.f1), .int .i64 0]) ?_ 4 _ rfl; refine blk_put (cs := #[.string ((rd_T60 l0_0 x10_1).f0), .int .i64 ((rd_T60 l0_0 x10_1).f1), .int .i64 ((rd_T60 l0_0 x10_1).f2.f0), .int .i64 0, .int .i64 0]) ?_ 3 _ rfl; refine blk_put (cs := #[.string ((rd_T60 l0_0 x10_1).f0), .int .i64 ((rd_T60 l0_0 x10_1).f1), .int .i64 0, .int .i64 0, .int .i64 0]) ?_ 2 _ rfl; refine blk_put (cs := #[.string ((rd_T60 l0_0 x10_1).f0), .int .i64 0, .int .i64 0, .int .i64 0, .int .i64 0]) ?_ 1 _ rfl; refine blk_put (cs := #[.string (⟨#[]⟩ : ByteArray), .int .i64 0, .int .i64 0, .int .i64 0, .int .i64 0]) ?_ 0 _ rfl; exact BK238.out) hb); replace HB := (zs HB hb); (try clear hb); obtain ⟨hcz16_0, hcz16_1, hfz16_0, hfz16_1⟩ := zq2 (w := w15) BK236) | (go_at_call 54; (with_reducible refine (backseatref06_half.calls _ _ l0_0 x10_1 true _ ?side1 ?side2 A10.out).mono ?_); (case side1 => repeat (first | exact (Kd.C_below HR0_0.out HB.out) | (with_reducible refine Kd.C_alloc ?_ _) | (with_reducible refine Kd.C_drewN ?_ _) | (with_reducible refine Kd.C_drew ?_))); (case side2 => exact HC0_0.out); rintro e w' ⟨rfl, ⟨nd, rfl⟩⟩))
        go_ret
        exact ⟨ze, zb⟩
       ·replace c11 := Bool.eq_false_iff.mpr c11
        subst c11
        have H1 : (backseatref06_Fits.l0 k1 a1 l0_0 (l0_0.length : Int) (wrap64 (x10_1 + 1)) l0_0 a0_1) = some r := by rw [if_neg (show ¬ (false = true) by decide)] at H; exact H
        clear H
        have H := H1
        clear H1
        have H' := Aside0.mk H
        clear H
        have p237 : 0 ≤ (x10_1 : Int) := of_decide_eq_true za
        have q237 : x10_1 < (l0_0.length : Int) := of_decide_eq_true za
        obtain ⟨ad237, e237, hx237_0, hx237_1, hx237_2, hx237_3, hx237_4⟩ := at_T60 HR0_0.out x10_1 p237 q237
        cases e237
        replace hx237_0 := zc HB hx237_0
        replace hx237_1 := zc HB hx237_1
        replace hx237_2 := zc HB hx237_2
        replace hx237_3 := zc HB hx237_3
        replace hx237_4 := zc HB hx237_4
        replace p237 := eq_true p237
        replace q237 := eq_true q237
        go_wp2_with (first | ((with_reducible refine gate_dst (N := 6) rfl ?_); refine box_event ?hg (N := 6) ?hd (cs := #[.string (⟨#[]⟩ : ByteArray), .int .i64 0, .int .i64 0, .int .i64 0, .int .i64 0]) (t := 60) ?hr ?_; (case hd => rfl); (case hg => rfl); (case hr => exact zo); intro gb238 hg w17 hbox hb; have n0_ := (zk BK236 hb); have n1_ := (zs HB hb); have n2_ := Aside0.mk (hbox); have n3_ := Aside0.mk ((zg hg : w.heap.size ≤ gb238)); have n4_ := Aside0.mk ((zg hg : w.heap.size ≤ gb238)); have n5_ := Aside0.mk ((by rw [hg]; exact Nat.ne_of_lt (blk_lt (g := gb236) (o := .cells #[.slice (some ad237) l0_0.length c0_0, .bool a0_1] 38 (0, 0)) (by exact BK236.out)) : gb236 ≠ gb238)); have n6_ := Aside0.mk ((by rw [hg]; exact Nat.ne_of_gt (blk_lt (g := gb236) (o := .cells #[.slice (some ad237) l0_0.length c0_0, .bool a0_1] 38 (0, 0)) (by exact BK236.out)) : gb238 ≠ gb236)); clear BK236; clear HB; have BK236 := n0_; have HB := n1_; have BK238 := n2_; have GW238 := n3_; have GE238 := n4_; have NB236_238 := n5_; have NB238_236 := n6_; clear n0_ n1_ n2_ n3_ n4_ n5_ n6_; clear hb hbox hg; have hnb18 := NB238_236.out; have hnc18 := NB236_238.out; obtain ⟨hcz19_0, hcz19_1, hcz19_2, hcz19_3, hcz19_4, hfz19_0, hfz19_1, hfz19_2, hfz19_3, hfz19_4⟩ := zq5 (w := w17) BK238) | ((with_reducible refine gate_callee (f := 53) rfl ?_); refine goesL_ (some 16) rfl rfl Tryd.func53 (by kernel_rfl) rfl #[.agg #[.string ((rd_T60 l0_0 x10_1).f0), .int .i64 ((rd_T60 l0_0 x10_1).f1), .int .i64 ((rd_T60 l0_0 x10_1).f2.f0), .int .i64 ((rd_T60 l0_0 x10_1).f2.f1), .int .i64 ((rd_T60 l0_0 x10_1).f2.f2)]] rfl zl ?_; (with_reducible refine (backseatref04_Right.calls k1 ((rd_T60 l0_0 x10_1).f0) ((rd_T60 l0_0 x10_1).f1) ((rd_T60 l0_0 x10_1).f2.f0) ((rd_T60 l0_0 x10_1).f2.f1) ((rd_T60 l0_0 x10_1).f2.f2) true _ A8.out).mono ?_); rintro e w20 ⟨rfl, hb⟩; refine ⟨_, rfl, ?_⟩; replace BK236 := Aside0.mk (blk_below (g := gb236) (o := .cells #[.slice (some ad237) l0_0.length c0_0, .bool a0_1] 38 (0, 0)) (by refine blk_far ?_ NB236_238.out _; refine blk_far ?_ NB236_238.out _; refine blk_far ?_ NB236_238.out _; refine blk_far ?_ NB236_238.out _; refine blk_far ?_ NB236_238.out _; exact BK236.out) hb); replace BK238 := Aside0.mk (blk_below (g := gb238) (o := .cells #[.string ((rd_T60 l0_0 x10_1).f0), .int .i64 ((rd_T60 l0_0 x10_1).f1), .int .i64 ((rd_T60 l0_0 x10_1).f2.f0), .int .i64 ((rd_T60 l0_0 x10_1).f2.f1), .int .i64 ((rd_T60 l0_0 x10_1).f2.f2)] 60 (0, 0)) (by refine blk_put (cs := #[.string ((rd_T60 l0_0 x10_1).f0), .int .i64 ((rd_T60 l0_0 x10_1).f1), .int .i64 ((rd_T60 l0_0 x10_1).f2.f0), .int .i64 ((rd_T60 l0_0 x10_1).f2.f1), .int .i64 0]) ?_ 4 _ rfl; refine blk_put (cs := #[.string ((rd_T60 l0_0 x10_1).f0), .int .i64 ((rd_T60 l0_0 x10_1).f1), .int .i64 ((rd_T60 l0_0 x10_1).f2.f0), .int .i64 0, .int .i64 0]) ?_ 3 _ rfl; refine blk_put (cs := #[.string ((rd_T60 l0_0 x10_1).f0), .int .i64 ((rd_T60 l0_0 x10_1).f1), .int .i64 0, .int .i64 0, .int .i64 0]) ?_ 2 _ rfl; refine blk_put (cs := #[.string ((rd_T60 l0_0 x10_1).f0), .int .i64 0, .int .i64 0, .int .i64 0, .int .i64 0]) ?_ 1 _ rfl; refine blk_put (cs := #[.string (⟨#[]⟩ : ByteArray), .int .i64 0, .int .i64 0, .int .i64 0, .int .i64 0]) ?_ 0 _ rfl; exact BK238.out) hb); replace HB := (zs HB hb); (try clear hb); obtain ⟨hcz21_0, hcz21_1, hfz21_0, hfz21_1⟩ := zq2 (w := w20) BK236) | (go_at_call 54; (with_reducible refine (backseatref06_half.calls _ _ l0_0 x10_1 false _ ?side1 ?side2 A10.out).mono ?_); (case side1 => repeat (first | exact (Kd.C_below HR0_0.out HB.out) | (with_reducible refine Kd.C_alloc ?_ _) | (with_reducible refine Kd.C_drewN ?_ _) | (with_reducible refine Kd.C_drew ?_))); (case side2 => exact HC0_0.out); rintro e w' ⟨rfl, ⟨nd, rfl⟩⟩))
        go_roundg k1
        case measure => have := HK1.out; omega
        case rel => exact ⟨(wrap64 (x10_1 + 1)), zf, H', ⟨by have := HK1.out; omega⟩, ⟨by exact BK236.out⟩, ⟨zb⟩⟩
      ·replace c9 := Bool.eq_false_iff.mpr c9
       subst c9
       have H1 : (some false) = some r := by rw [if_neg (show ¬ (false = true) by decide)] at H; exact H
       clear H
       have H := H1
       clear H1
       obtain rfl := Option.some.inj H
       have p237 : 0 ≤ (x10_1 : Int) := of_decide_eq_true za
       have q237 : x10_1 < (l0_0.length : Int) := of_decide_eq_true za
       obtain ⟨ad237, e237, hx237_0, hx237_1, hx237_2, hx237_3, hx237_4⟩ := at_T60 HR0_0.out x10_1 p237 q237
       cases e237
       replace hx237_0 := zc HB hx237_0
       replace hx237_1 := zc HB hx237_1
       replace hx237_2 := zc HB hx237_2
       replace hx237_3 := zc HB hx237_3
       replace hx237_4 := zc HB hx237_4
       replace p237 := eq_true p237
       replace q237 := eq_true q237
       go_wp2_with (first | ((with_reducible refine gate_dst (N := 6) rfl ?_); refine box_event ?hg (N := 6) ?hd (cs := #[.string (⟨#[]⟩ : ByteArray), .int .i64 0, .int .i64 0, .int .i64 0, .int .i64 0]) (t := 60) ?hr ?_; (case hd => rfl); (case hg => rfl); (case hr => exact zo); intro gb238 hg w22 hbox hb; have n0_ := (zk BK236 hb); have n1_ := (zs HB hb); have n2_ := Aside0.mk (hbox); have n3_ := Aside0.mk ((zg hg : w.heap.size ≤ gb238)); have n4_ := Aside0.mk ((zg hg : w.heap.size ≤ gb238)); have n5_ := Aside0.mk ((by rw [hg]; exact Nat.ne_of_lt (blk_lt (g := gb236) (o := .cells #[.slice (some ad237) l0_0.length c0_0, .bool a0_1] 38 (0, 0)) (by exact BK236.out)) : gb236 ≠ gb238)); have n6_ := Aside0.mk ((by rw [hg]; exact Nat.ne_of_gt (blk_lt (g := gb236) (o := .cells #[.slice (some ad237) l0_0.length c0_0, .bool a0_1] 38 (0, 0)) (by exact BK236.out)) : gb238 ≠ gb236)); clear BK236; clear HB; have BK236 := n0_; have HB := n1_; have BK238 := n2_; have GW238 := n3_; have GE238 := n4_; have NB236_238 := n5_; have NB238_236 := n6_; clear n0_ n1_ n2_ n3_ n4_ n5_ n6_; clear hb hbox hg; have hnb23 := NB238_236.out; have hnc23 := NB236_238.out; obtain ⟨hcz24_0, hcz24_1, hcz24_2, hcz24_3, hcz24_4, hfz24_0, hfz24_1, hfz24_2, hfz24_3, hfz24_4⟩ := zq5 (w := w22) BK238) | ((with_reducible refine gate_callee (f := 53) rfl ?_); refine goesL_ (some 16) rfl rfl Tryd.func53 (by kernel_rfl) rfl #[.agg #[.string ((rd_T60 l0_0 x10_1).f0), .int .i64 ((rd_T60 l0_0 x10_1).f1), .int .i64 ((rd_T60 l0_0 x10_1).f2.f0), .int .i64 ((rd_T60 l0_0 x10_1).f2.f1), .int .i64 ((rd_T60 l0_0 x10_1).f2.f2)]] rfl zl ?_; (with_reducible refine (backseatref04_Right.calls k1 ((rd_T60 l0_0 x10_1).f0) ((rd_T60 l0_0 x10_1).f1) ((rd_T60 l0_0 x10_1).f2.f0) ((rd_T60 l0_0 x10_1).f2.f1) ((rd_T60 l0_0 x10_1).f2.f2) false _ A8.out).mono ?_); rintro e w25 ⟨rfl, hb⟩; refine ⟨_, rfl, ?_⟩; replace BK236 := Aside0.mk (blk_below (g := gb236) (o := .cells #[.slice (some ad237) l0_0.length c0_0, .bool a0_1] 38 (0, 0)) (by refine blk_far ?_ NB236_238.out _; refine blk_far ?_ NB236_238.out _; refine blk_far ?_ NB236_238.out _; refine blk_far ?_ NB236_238.out _; refine blk_far ?_ NB236_238.out _; exact BK236.out) hb); replace BK238 := Aside0.mk (blk_below (g := gb238) (o := .cells #[.string ((rd_T60 l0_0 x10_1).f0), .int .i64 ((rd_T60 l0_0 x10_1).f1), .int .i64 ((rd_T60 l0_0 x10_1).f2.f0), .int .i64 ((rd_T60 l0_0 x10_1).f2.f1), .int .i64 ((rd_T60 l0_0 x10_1).f2.f2)] 60 (0, 0)) (by refine blk_put (cs := #[.string ((rd_T60 l0_0 x10_1).f0), .int .i64 ((rd_T60 l0_0 x10_1).f1), .int .i64 ((rd_T60 l0_0 x10_1).f2.f0), .int .i64 ((rd_T60 l0_0 x10_1).f2.f1), .int .i64 0]) ?_ 4 _ rfl; refine blk_put (cs := #[.string ((rd_T60 l0_0 x10_1).f0), .int .i64 ((rd_T60 l0_0 x10_1).f1), .int .i64 ((rd_T60 l0_0 x10_1).f2.f0), .int .i64 0, .int .i64 0]) ?_ 3 _ rfl; refine blk_put (cs := #[.string ((rd_T60 l0_0 x10_1).f0), .int .i64 ((rd_T60 l0_0 x10_1).f1), .int .i64 0, .int .i64 0, .int .i64 0]) ?_ 2 _ rfl; refine blk_put (cs := #[.string ((rd_T60 l0_0 x10_1).f0), .int .i64 0, .int .i64 0, .int .i64 0, .int .i64 0]) ?_ 1 _ rfl; refine blk_put (cs := #[.string (⟨#[]⟩ : ByteArray), .int .i64 0, .int .i64 0, .int .i64 0, .int .i64 0]) ?_ 0 _ rfl; exact BK238.out) hb); replace HB := (zs HB hb); (try clear hb)))
       go_ret
       exact ⟨ze, zb⟩
     ·rw [if_neg c7] at H
      exact absurd H (by simp)
    ·rw [if_neg c6] at H
     exact absurd H (by simp)
   ·rw [if_neg c5] at H
    have c5b0 : decide (x10_1 < (l0_0.length : Int)) = false := decide_eq_false c5
    clear c5
    obtain rfl := Option.some.inj H
    obtain ⟨hcz26_0, hcz26_1, hfz26_0, hfz26_1⟩ := zq2 (w := wr) BK236
    go_wp2
    go_ret
    exact ⟨ze, zb⟩
def backseatref08_May.l0 : Nat → List (S38) → List (S38) → Int → Int → Option (Bool)
 | 0, _, _, _, _ => none
 | k + 1, x0, x5, x6, x7 => if x7 < x6 then (if 0 ≤ x7 then (if x7 < (x5.length : Int) then (if (((rd_T38 x5 x7).f0).length : Int) < 1 then (some false) else (if (((rd_T38 x5 x7).f0).length : Int) > 80 then (some false) else ((backseatref06_Fits.f k ((rd_T38 x5 x7).f0) ((rd_T38 x5 x7).f1) (((rd_T38 x5 x7).f0).length : Int)).bind fun t243 => (if t243 = true then (backseatref08_May.l0 k x0 x5 x6 (wrap64 (x7 + 1))) else (some false))))) else (none)) else (none)) else (some (decide ((x0.length : Int) ≤ 200)))
def backseatref08_May.f (k : Nat) (l0 : List (S38)) : Option (Bool) := backseatref08_May.l0 k l0 l0 (l0.length : Int) 0
set_option maxHeartbeats 8000000 in
set_option maxRecDepth 100000 in
theorem backseatref08_May.calls (k : Nat) (A0 : Option Addr) (c0 : Nat) (l0 : List (S38)) (r : Bool) (w : World) (hr0 : Kd.C k38 w A0 l0.length l0) (hc0 : l0.length ≤ c0) (h : backseatref08_May.f k l0 = some r) :
  Calls Tryd.prog 11 #[.slice A0 l0.length c0] w fun e w' => e = .returned (.bool r) ∧ Below w.heap.size w w' := by
 have hu38 := Tryd.underlying38
 have HR0 := Aside0.mk hr0
 have HC0 := Aside0.mk hc0
 clear hr0 hc0
 have HB := Aside0.mk (Below.refl w.heap.size w)
 have H : (backseatref08_May.l0 k l0 l0 (l0.length : Int) 0) = some r := h
 clear h
 have H' := Aside0.mk H
 clear H
 go_enter Tryd.func11, Tryd.ntmps11
 go_wp2
 go_loopg [7] k (fun kq v7 w' => ∃ (x7_1 : Int), v7 = .int .i64 x7_1 ∧ Aside0 (backseatref08_May.l0 kq l0 l0 (l0.length : Int) x7_1 = some r) ∧ Aside0 (kq ≤ k) ∧ Aside0 (Below w.heap.size w w'))
 case atStart => exact ⟨(0), zf, H', ⟨Nat.le_refl _⟩, ⟨zb⟩⟩
 case round =>
  clear H'
  obtain ⟨x7_1, rfl, HA, HK1, HB⟩ := hrel
  cases gk with
  | zero => exact absurd HA.out (by simp [backseatref08_May.l0])
  | succ k1 =>
   have H := HA.out
   clear HA
   simp only [backseatref08_May.l0] at H
   by_cases c2 : x7_1 < (l0.length : Int)
   ·rw [if_pos c2] at H
    have c2b0 : decide (x7_1 < (l0.length : Int)) = true := decide_eq_true c2
    clear c2
    by_cases c3 : 0 ≤ x7_1
    ·rw [if_pos c3] at H
     have c3b0 : decide (0 ≤ x7_1) = true := decide_eq_true c3
     clear c3
     by_cases c4 : x7_1 < (l0.length : Int)
     ·rw [if_pos c4] at H
      have c4b0 : decide (x7_1 < (l0.length : Int)) = true := decide_eq_true c4
      clear c4
      by_cases c5 : (((rd_T38 l0 x7_1).f0).length : Int) < 1
      ·rw [if_pos c5] at H
       have c5b0 : decide ((((rd_T38 l0 x7_1).f0).length : Int) < 1) = true := decide_eq_true c5
       have c5b1 : decide (((rd_T38 l0 x7_1).f0).length < 1) = true := decide_eq_true (by omega)
       clear c5
       obtain rfl := Option.some.inj H
       have p241 : 0 ≤ (x7_1 : Int) := of_decide_eq_true za
       have q241 : x7_1 < (l0.length : Int) := of_decide_eq_true za
       obtain ⟨ad241, A241_0, c241_0, e241, hx241_0, hx241_1, hl241_0, hi241_0⟩ := at_T38 HR0.out x7_1 p241 q241
       cases e241
       replace hx241_0 := zc HB hx241_0
       replace hx241_1 := zc HB hx241_1
       have HR241_0 := Aside0.mk hi241_0
       have HC241_0 := Aside0.mk hl241_0
       clear hi241_0 hl241_0
       replace p241 := eq_true p241
       replace q241 := eq_true q241
       go_wp2_with (first | ((with_reducible refine gate_dst (N := 4) rfl ?_); (try (refine gate_guard (by rfl) ?_; dsimp only)); refine box_event ?hg (N := 4) ?hd (cs := #[.slice none 0 0, .bool false]) (t := 38) ?hr ?_; (case hd => rfl); (case hg => rfl); (case hr => exact zo); intro gb242 hg w6 hbox hb; have BK242 := Aside0.mk (hbox); have GW242 := Aside0.mk ((zg hg : w.heap.size ≤ gb242)); have GE242 := Aside0.mk ((zg hg : w.heap.size ≤ gb242)); replace HB := (zs HB hb); clear hb hbox hg; obtain ⟨hcz7_0, hcz7_1, hfz7_0, hfz7_1⟩ := zq2 (w := w6) BK242))
       go_ret
       exact ⟨ze, zb⟩
      ·rw [if_neg c5] at H
       have c5b0 : decide ((((rd_T38 l0 x7_1).f0).length : Int) < 1) = false := decide_eq_false c5
       have c5b1 : decide (((rd_T38 l0 x7_1).f0).length < 1) = false := decide_eq_false (by omega)
       clear c5
       by_cases c8 : (((rd_T38 l0 x7_1).f0).length : Int) > 80
       ·rw [if_pos c8] at H
        have c8b0 : decide (80 < (((rd_T38 l0 x7_1).f0).length : Int)) = true := decide_eq_true c8
        have c8b1 : decide (80 < ((rd_T38 l0 x7_1).f0).length) = true := decide_eq_true (by omega)
        clear c8
        obtain rfl := Option.some.inj H
        have p241 : 0 ≤ (x7_1 : Int) := of_decide_eq_true za
        have q241 : x7_1 < (l0.length : Int) := of_decide_eq_true za
        obtain ⟨ad241, A241_0, c241_0, e241, hx241_0, hx241_1, hl241_0, hi241_0⟩ := at_T38 HR0.out x7_1 p241 q241
        cases e241
        replace hx241_0 := zc HB hx241_0
        replace hx241_1 := zc HB hx241_1
        have HR241_0 := Aside0.mk hi241_0
        have HC241_0 := Aside0.mk hl241_0
        clear hi241_0 hl241_0
        replace p241 := eq_true p241
        replace q241 := eq_true q241
        go_wp2_with (first | ((with_reducible refine gate_dst (N := 4) rfl ?_); (try (refine gate_guard (by rfl) ?_; dsimp only)); refine box_event ?hg (N := 4) ?hd (cs := #[.slice none 0 0, .bool false]) (t := 38) ?hr ?_; (case hd => rfl); (case hg => rfl); (case hr => exact zo); intro gb242 hg w9 hbox hb; have BK242 := Aside0.mk (hbox); have GW242 := Aside0.mk ((zg hg : w.heap.size ≤ gb242)); have GE242 := Aside0.mk ((zg hg : w.heap.size ≤ gb242)); replace HB := (zs HB hb); clear hb hbox hg; obtain ⟨hcz10_0, hcz10_1, hfz10_0, hfz10_1⟩ := zq2 (w := w9) BK242))
        go_ret
        exact ⟨ze, zb⟩
       ·rw [if_neg c8] at H
        have c8b0 : decide (80 < (((rd_T38 l0 x7_1).f0).length : Int)) = false := decide_eq_false c8
        have c8b1 : decide (80 < ((rd_T38 l0 x7_1).f0).length) = false := decide_eq_false (by omega)
        clear c8
        replace H := Option.bind_eq_some_iff.mp H
        obtain ⟨t243, A110, H⟩ := H
        replace H : (if t243 = true then (backseatref08_May.l0 k1 l0 l0 (l0.length : Int) (wrap64 (x7_1 + 1))) else (some false)) = some r := H
        have A11 := Aside0.mk A110
        clear A110
        by_cases c12 : t243 = true
        ·subst c12
         have H1 : (backseatref08_May.l0 k1 l0 l0 (l0.length : Int) (wrap64 (x7_1 + 1))) = some r := by rw [if_pos rfl] at H; exact H
         clear H
         have H := H1
         clear H1
         have H' := Aside0.mk H
         clear H
         have p241 : 0 ≤ (x7_1 : Int) := of_decide_eq_true za
         have q241 : x7_1 < (l0.length : Int) := of_decide_eq_true za
         obtain ⟨ad241, A241_0, c241_0, e241, hx241_0, hx241_1, hl241_0, hi241_0⟩ := at_T38 HR0.out x7_1 p241 q241
         cases e241
         replace hx241_0 := zc HB hx241_0
         replace hx241_1 := zc HB hx241_1
         have HR241_0 := Aside0.mk hi241_0
         have HC241_0 := Aside0.mk hl241_0
         clear hi241_0 hl241_0
         replace p241 := eq_true p241
         replace q241 := eq_true q241
         go_wp2_with (first | ((with_reducible refine gate_dst (N := 4) rfl ?_); (try (refine gate_guard (by rfl) ?_; dsimp only)); refine box_event ?hg (N := 4) ?hd (cs := #[.slice none 0 0, .bool false]) (t := 38) ?hr ?_; (case hd => rfl); (case hg => rfl); (case hr => exact zo); intro gb242 hg w13 hbox hb; have BK242 := Aside0.mk (hbox); have GW242 := Aside0.mk ((zg hg : w.heap.size ≤ gb242)); have GE242 := Aside0.mk ((zg hg : w.heap.size ≤ gb242)); replace HB := (zs HB hb); clear hb hbox hg; obtain ⟨hcz14_0, hcz14_1, hfz14_0, hfz14_1⟩ := zq2 (w := w13) BK242) | (go_at_call 27; (with_reducible refine (backseatref06_Fits.calls k1 _ _ ((rd_T38 l0 x7_1).f0) ((rd_T38 l0 x7_1).f1) (((rd_T38 l0 x7_1).f0).length : Int) true _ ?side1 ?side2 A11.out).mono ?_); (case side1 => exact Kd.C_below HR241_0.out zb); (case side2 => exact HC241_0.out); rintro e w15 ⟨rfl, hb⟩; replace BK242 := Aside0.mk (blk_below (g := gb242) (o := .cells #[.slice A241_0 ((rd_T38 l0 x7_1).f0).length c241_0, .bool ((rd_T38 l0 x7_1).f1)] 38 (0, 0)) (by refine blk_put (cs := #[.slice A241_0 ((rd_T38 l0 x7_1).f0).length c241_0, .bool false]) ?_ 1 _ rfl; refine blk_put (cs := #[.slice none 0 0, .bool false]) ?_ 0 _ rfl; exact BK242.out) hb); replace HB := (zs HB hb); (try clear hb)))
         go_roundg k1
         case measure => have := HK1.out; omega
         case rel => exact ⟨(wrap64 (x7_1 + 1)), zf, H', ⟨by have := HK1.out; omega⟩, ⟨zb⟩⟩
        ·replace c12 := Bool.eq_false_iff.mpr c12
         subst c12
         have H1 : (some false) = some r := by rw [if_neg (show ¬ (false = true) by decide)] at H; exact H
         clear H
         have H := H1
         clear H1
         obtain rfl := Option.some.inj H
         have p241 : 0 ≤ (x7_1 : Int) := of_decide_eq_true za
         have q241 : x7_1 < (l0.length : Int) := of_decide_eq_true za
         obtain ⟨ad241, A241_0, c241_0, e241, hx241_0, hx241_1, hl241_0, hi241_0⟩ := at_T38 HR0.out x7_1 p241 q241
         cases e241
         replace hx241_0 := zc HB hx241_0
         replace hx241_1 := zc HB hx241_1
         have HR241_0 := Aside0.mk hi241_0
         have HC241_0 := Aside0.mk hl241_0
         clear hi241_0 hl241_0
         replace p241 := eq_true p241
         replace q241 := eq_true q241
         go_wp2_with (first | ((with_reducible refine gate_dst (N := 4) rfl ?_); (try (refine gate_guard (by rfl) ?_; dsimp only)); refine box_event ?hg (N := 4) ?hd (cs := #[.slice none 0 0, .bool false]) (t := 38) ?hr ?_; (case hd => rfl); (case hg => rfl); (case hr => exact zo); intro gb242 hg w16 hbox hb; have BK242 := Aside0.mk (hbox); have GW242 := Aside0.mk ((zg hg : w.heap.size ≤ gb242)); have GE242 := Aside0.mk ((zg hg : w.heap.size ≤ gb242)); replace HB := (zs HB hb); clear hb hbox hg; obtain ⟨hcz17_0, hcz17_1, hfz17_0, hfz17_1⟩ := zq2 (w := w16) BK242) | (go_at_call 27; (with_reducible refine (backseatref06_Fits.calls k1 _ _ ((rd_T38 l0 x7_1).f0) ((rd_T38 l0 x7_1).f1) (((rd_T38 l0 x7_1).f0).length : Int) false _ ?side1 ?side2 A11.out).mono ?_); (case side1 => exact Kd.C_below HR241_0.out zb); (case side2 => exact HC241_0.out); rintro e w18 ⟨rfl, hb⟩; replace BK242 := Aside0.mk (blk_below (g := gb242) (o := .cells #[.slice A241_0 ((rd_T38 l0 x7_1).f0).length c241_0, .bool ((rd_T38 l0 x7_1).f1)] 38 (0, 0)) (by refine blk_put (cs := #[.slice A241_0 ((rd_T38 l0 x7_1).f0).length c241_0, .bool false]) ?_ 1 _ rfl; refine blk_put (cs := #[.slice none 0 0, .bool false]) ?_ 0 _ rfl; exact BK242.out) hb); replace HB := (zs HB hb); (try clear hb)))
         go_ret
         exact ⟨ze, zb⟩
     ·rw [if_neg c4] at H
      exact absurd H (by simp)
    ·rw [if_neg c3] at H
     exact absurd H (by simp)
   ·rw [if_neg c2] at H
    have c2b0 : decide (x7_1 < (l0.length : Int)) = false := decide_eq_false c2
    clear c2
    obtain rfl := Option.some.inj H
    go_wp2
    go_ret
    exact ⟨ze, zb⟩
end Go.Proofs.YtckkdaehmccjlaaDoor.P
namespace Go.Proofs.YtckkdaehmccjlaaDoor.P
open Go.RowKit Go.Proofs.YtckkdaehmccjlaaDoorW.PrintWords Go.Proofs.YtckkdaehmccjlaaDoorW.PrintLast Go.Proofs.YtckkdaehmccjlaaDoorW.PrintMore Go.Lib
set_option linter.unusedVariables false
set_option linter.unusedSimpArgs false
abbrev CellT := S60
abbrev LineT := S38
theorem w64m (n : Nat) (h : 1 ≤ n) (h' : (n : Int) ≤ 9223372036854775806) : wrap64 ((n : Int) - 1) = ((n - 1 : Nat) : Int) := by
 rw [IntWalk.wrap64_in _ (by omega)]; omega
theorem whole_half (l : List CellT) (i : Nat) (h : i < l.length) (hl : (l.length : Int) ≤ 9223372036854775806) : ∃ b, grid_whole.f l i = some b ∧ backseatref06_half.f l i = some (!b) := by
 unfold grid_whole.f backseatref06_half.f
 have p0 : (0 : Int) ≤ (i : Int) := by omega
 have p1 : (i : Int) < (l.length : Int) := by omega
 rw [w64 i (by omega), if_pos p0, if_pos p1, if_pos p0, if_pos p1]
 by_cases h2 : (rd_T60 l i).f1 = 2
 ·rw [if_pos h2, if_pos h2]
  by_cases h3 : ((i + 1 : Nat) : Int) < (l.length : Int)
  ·rw [if_pos h3, if_pos (by omega), if_neg (by omega), if_pos (by omega), if_pos h3]
   exact ⟨_, rfl, by simp [bne]⟩
  ·rw [if_neg h3, if_pos (by omega)]; exact ⟨_, rfl, rfl⟩
 ·rw [if_neg h2, if_neg h2]
  by_cases h4 : (rd_T60 l i).f1 = 0
  ·rw [if_pos h4, if_pos h4]
   by_cases h5 : (i : Int) > 0
   ·have q0 : (0 : Int) ≤ ((i - 1 : Nat) : Int) := by omega
    have q1 : ((i - 1 : Nat) : Int) < (l.length : Int) := by omega
    rw [if_pos h5, if_neg (show ¬ (i : Int) = 0 by omega), w64m i (by omega) (by omega), if_pos q0, if_pos q1, if_pos q0, if_pos q1]
    exact ⟨_, rfl, by simp [bne]⟩
   ·rw [if_neg h5, if_pos (by omega)]; exact ⟨_, rfl, rfl⟩
  ·rw [if_neg h4, if_neg h4]; exact ⟨_, rfl, rfl⟩
def SmallC (l : List CellT) : Prop := (l.length : Int) ≤ 9223372036854775806 ∧ ∀ c ∈ l, (c.f0.size : Int) ≤ 9223372036854775806
theorem rd_mem {l : List CellT} {i : Nat} (h : i < l.length) : rd_T60 l i ∈ l := by
 have e : rd_T60 l i = l[i] := by unfold rd_T60; simp [List.getD_eq_getElem?_getD, h]
 rw [e]; exact List.getElem_mem h
theorem fits_loop (l : List CellT) (b0 : Bool) (n : Int) (hs : SmallC l) : ∀ m i, i + m = l.length → ∃ b, Ev (fun k => grid_Fits.l0 k n l (l.length : Int) (i : Nat) l b0) b ∧ Ev (fun k => backseatref06_Fits.l0 k n l (l.length : Int) (i : Nat) l b0) b
 | 0, i, hi => ⟨((l.length : Int) == n), Ev.succ (by simp only [grid_Fits.l0]; exact Ev.neg (by omega) (Ev.ret _)), Ev.succ (by simp only [backseatref06_Fits.l0]; exact Ev.neg (by omega) (Ev.ret _))⟩
 | m + 1, i, hi => by
  have hlt : i < l.length := by omega
  have hw := w64 i (by have := hs.1; omega)
  obtain ⟨b, hb1, hb2⟩ := fits_loop l b0 n hs m (i + 1) (by omega)
  obtain ⟨c, hc1, hc2⟩ := right_same (rd_T60 l i).f0 (rd_T60 l i).f1 (rd_T60 l i).f2.f0 (rd_T60 l i).f2.f1 (rd_T60 l i).f2.f2 (hs.2 _ (rd_mem hlt))
  obtain ⟨d, hd1, hd2⟩ := whole_half l i hlt hs.1
  cases c with
  | false =>
   refine ⟨false, Ev.succ ?_, Ev.succ ?_⟩
   ·simp only [grid_Fits.l0]; exact Ev.pos (by omega) (Ev.pos (by omega) (Ev.pos (by omega) (Ev.bind hc1 (Ev.neg (by decide) (Ev.ret _)))))
   ·simp only [backseatref06_Fits.l0]; exact Ev.pos (by omega) (Ev.pos (by omega) (Ev.pos (by omega) (Ev.bind hc2 (Ev.neg (by decide) (Ev.ret _)))))
  | true =>
   cases d with
   | false =>
    refine ⟨false, Ev.succ ?_, Ev.succ ?_⟩
    ·simp only [grid_Fits.l0]; exact Ev.pos (by omega) (Ev.pos (by omega) (Ev.pos (by omega) (Ev.bind hc1 (Ev.pos rfl (Ev.bind (Ev.of hd1) (Ev.neg (by decide) (Ev.ret _)))))))
    ·simp only [backseatref06_Fits.l0]; exact Ev.pos (by omega) (Ev.pos (by omega) (Ev.pos (by omega) (Ev.bind hc2 (Ev.pos rfl (Ev.bind (Ev.of hd2) (Ev.pos rfl (Ev.ret _)))))))
   | true =>
    refine ⟨b, Ev.succ ?_, Ev.succ ?_⟩
    ·simp only [grid_Fits.l0]; refine Ev.pos (by omega) (Ev.pos (by omega) (Ev.pos (by omega) (Ev.bind hc1 (Ev.pos rfl (Ev.bind (Ev.of hd1) (Ev.pos rfl ?_)))))); rw [hw]; exact hb1
    ·simp only [backseatref06_Fits.l0]; refine Ev.pos (by omega) (Ev.pos (by omega) (Ev.pos (by omega) (Ev.bind hc2 (Ev.pos rfl (Ev.bind (Ev.of hd2) (Ev.neg (by decide) ?_)))))); rw [hw]; exact hb2
theorem fits_same (l : List CellT) (b0 : Bool) (n : Int) (hs : SmallC l) : ∃ b, Ev (fun k => grid_Fits.f k l b0 n) b ∧ Ev (fun k => backseatref06_Fits.f k l b0 n) b := by
 have := fits_loop l b0 n hs l.length 0 (by omega)
 simpa [grid_Fits.f, backseatref06_Fits.f] using this
noncomputable def oddB (x : LineT) : Bool := open Classical in if h : ∃ b, Ev (fun k => back_odd.f k x.f0 x.f1) b then Classical.choose h else false
theorem odd_ev (x : LineT) (hs : SmallC x.f0) : Ev (fun k => back_odd.f k x.f0 x.f1) (oddB x) ∧
  (oddB x = false → ¬ (x.f0.length : Int) < 1 ∧ ¬ (x.f0.length : Int) > 80 ∧ Ev (fun k => backseatref06_Fits.f k x.f0 x.f1 (x.f0.length : Int)) true) ∧
  (oddB x = true → (x.f0.length : Int) < 1 ∨ (x.f0.length : Int) > 80 ∨ Ev (fun k => backseatref06_Fits.f k x.f0 x.f1 (x.f0.length : Int)) false) := by
 obtain ⟨b, h1, h2⟩ := fits_same x.f0 x.f1 (x.f0.length : Int) hs
 have key : ∃ o, Ev (fun k => back_odd.f k x.f0 x.f1) o ∧ (o = false → ¬ (x.f0.length : Int) < 1 ∧ ¬ (x.f0.length : Int) > 80 ∧ b = true) ∧ (o = true → (x.f0.length : Int) < 1 ∨ (x.f0.length : Int) > 80 ∨ b = false) := by
  unfold back_odd.f
  by_cases c1 : (x.f0.length : Int) < 1
  ·exact ⟨true, Ev.pos c1 (Ev.ret _), (fun h => by cases h), fun _ => Or.inl c1⟩
  by_cases c2 : (x.f0.length : Int) > 80
  ·exact ⟨true, Ev.neg c1 (Ev.pos c2 (Ev.ret _)), (fun h => by cases h), fun _ => Or.inr (Or.inl c2)⟩
  ·exact ⟨!b, Ev.neg c1 (Ev.neg c2 (Ev.bind h1 (Ev.ret _))), fun h => ⟨c1, c2, by simpa using h⟩, fun h => Or.inr (Or.inr (by simpa using h))⟩
 obtain ⟨o, k1, k2, k3⟩ := key
 have e : oddB x = o := by
  unfold oddB
  rw [dif_pos ⟨o, k1⟩]
  exact Ev.same (Classical.choose_spec (⟨o, k1⟩ : ∃ b, Ev (fun k => back_odd.f k x.f0 x.f1) b)) k1
 rw [e]
 refine ⟨k1, fun h => ⟨(k2 h).1, (k2 h).2.1, ?_⟩, fun h => ?_⟩
 ·rw [← (k2 h).2.2]; exact h2
 ·rcases k3 h with h | h | h
  ·exact Or.inl h
  ·exact Or.inr (Or.inl h)
  ·exact Or.inr (Or.inr (by rw [← h]; exact h2))
def SmallL (l : List LineT) : Prop := (l.length : Int) ≤ 1000000000000 ∧ ∀ x ∈ l, SmallC x.f0
theorem oddIn_ev : ∀ l : List LineT, (∀ x ∈ l, SmallC x.f0) → Ev (fun k => oddIn k l) (l.any oddB)
 | [], _ => Ev.ret _
 | x :: t, h => by
  unfold oddIn
  refine Ev.bind (odd_ev x (h x (by simp))).1 ?_
  cases hx : oddB x
  ·simp only [List.any_cons, hx, Bool.false_or]
   exact Ev.neg (by decide) (oddIn_ev t (fun y hy => h y (by simp [hy])))
  ·simp only [List.any_cons, hx, Bool.true_or]
   exact Ev.pos trivial (Ev.ret _)
theorem right_ev (p : List LineT) (hp : p.length ≤ 40) (h : ∀ x ∈ p, SmallC x.f0) : Ev (fun k => back_Right.f k 40 p) (!p.any oddB) := by
 unfold back_Right.f
 exact Ev.pos (by decide) (Ev.pos (by decide) (Ev.pos (by omega) (Ev.bind (oddIn_ev p h) (Ev.ret _))))
theorem ask_ev (l : List LineT) (h : ∀ x ∈ l, SmallC x.f0) : ∀ j, Ev (fun k => askN k l j) (!(l.take (40 * j)).any oddB)
 | 0 => by simp [askN]; exact Ev.ret _
 | j + 1 => by
  have e : l.take (40 * (j + 1)) = l.take (40 * j) ++ piece l j := by
   unfold piece; rw [show 40 * (j + 1) = 40 * j + 40 by omega, List.take_add]
  unfold askN
  refine Ev.bind (ask_ev l h j) (Ev.bind (right_ev (piece l j) (by unfold piece; rw [List.length_take]; omega) (fun x hx => h x (List.mem_of_mem_drop (List.mem_of_mem_take hx)))) ?_)
  rw [e, List.any_append, Bool.not_or]; exact Ev.ret _
theorem may_ev (l : List LineT) (hs : SmallL l) : Ev (fun k => flow_may.f k l) (!l.any oddB && decide (l.length ≤ 200)) := by
 unfold flow_may.f
 refine Ev.pos (by have := hs.1; omega) (Ev.bind (ask_ev l hs.2 (pieces l)) ?_)
 rw [List.take_of_length_le (by unfold pieces; omega)]
 exact Ev.ret _
theorem rd_line {l : List LineT} {i : Nat} (h : i < l.length) : rd_T38 l i = l[i] := by unfold rd_T38; simp [List.getD_eq_getElem?_getD, h]
theorem refmay_loop (l : List LineT) (hs : SmallL l) : ∀ m i, i + m = l.length → Ev (fun k => backseatref08_May.l0 k l l (l.length : Int) (i : Nat)) (!(l.drop i).any oddB && decide (l.length ≤ 200))
 | 0, i, hi => Ev.succ (by
  simp only [backseatref08_May.l0]
  rw [List.drop_eq_nil_of_le (by omega)]
  refine Ev.neg (by omega) ?_
  have e : decide ((l.length : Int) ≤ 200) = (!([] : List LineT).any oddB && decide (l.length ≤ 200)) := by
   rw [List.any_nil, Bool.not_false, Bool.true_and, decide_eq_decide]; omega
  rw [e]; exact Ev.ret _)
 | m + 1, i, hi => by
  have hlt : i < l.length := by omega
  have hw := w64 i (by have := hs.1; omega)
  have hr := refmay_loop l hs m (i + 1) (by omega)
  obtain ⟨h1, h2, h3⟩ := odd_ev l[i] (hs.2 _ (List.getElem_mem hlt))
  rw [List.drop_eq_getElem_cons hlt, List.any_cons]
  refine Ev.succ ?_
  simp only [backseatref08_May.l0]
  rw [rd_line hlt]
  refine Ev.pos (by omega) (Ev.pos (by omega) (Ev.pos (by omega) ?_))
  cases ho : oddB l[i]
  ·obtain ⟨c1, c2, c3⟩ := h2 ho
   rw [Bool.false_or]
   refine Ev.neg c1 (Ev.neg c2 (Ev.bind c3 (Ev.pos rfl ?_)))
   rw [hw]; exact hr
  ·rw [Bool.true_or, Bool.not_true, Bool.false_and]
   by_cases c1 : (l[i].f0.length : Int) < 1
   ·exact Ev.pos c1 (Ev.ret _)
   by_cases c2 : (l[i].f0.length : Int) > 80
   ·exact Ev.neg c1 (Ev.pos c2 (Ev.ret _))
   have c3 := (h3 ho).resolve_left c1 |>.resolve_left c2
   exact Ev.neg c1 (Ev.neg c2 (Ev.bind c3 (Ev.neg (by decide) (Ev.ret _))))
theorem refmay_ev (l : List LineT) (hs : SmallL l) : Ev (fun k => backseatref08_May.f k l) (!l.any oddB && decide (l.length ≤ 200)) := by
 have := refmay_loop l hs l.length 0 (by omega)
 simpa [backseatref08_May.f] using this
theorem size_list (s : ByteArray) : s.size = s.data.toList.length := by rw [Array.length_toList]; rfl
theorem app_list (a b : ByteArray) : (a ++ b).data.toList = a.data.toList ++ b.data.toList := by simp [ByteArray.data_append]
theorem eq_list {a : ByteArray} {l : List UInt8} (h : a.data.toList = l) : a = ⟨l.toArray⟩ := by
 obtain ⟨⟨x⟩⟩ := a
 subst h; rfl
theorem rd_cell {l : List CellT} {i : Nat} (h : i < l.length) : rd_T60 l i = l[i] := by unfold rd_T60; simp [List.getD_eq_getElem?_getD, h]
theorem say_loop (l : List CellT) (hl : (l.length : Int) ≤ 1000000000000) (hz : (sayL l).length ≤ 140737488355328) : ∀ m i (acc : ByteArray), i + m = l.length → acc.data.toList = sayL (l.take i) →
  Ev (fun k => backseatref08_Say.l0 k acc l (l.length : Int) (i : Nat)) ⟨(sayL l).toArray⟩
 | 0, i, acc, hi, ha => Ev.succ (by
  simp only [backseatref08_Say.l0]
  refine Ev.neg (by omega) ?_
  rw [List.take_of_length_le (by omega)] at ha
  rw [← eq_list ha]; exact Ev.ret _)
 | m + 1, i, acc, hi, ha => by
  have hlt : i < l.length := by omega
  have hw := w64 i (by omega)
  have ht : sayL (l.take (i + 1)) = sayL (l.take i) ++ sayC l[i] := by
   rw [List.take_succ_eq_append_getElem hlt, sayL_append]; simp [sayL]
  have hb : (sayL (l.take i)).length + (sayC l[i]).length ≤ 140737488355328 := by
   have e := congrArg (fun x => (sayL x).length) (List.take_append_drop (i + 1) l)
   simp only [sayL_append, List.length_append, ht] at e
   omega
  have hs : acc.size = (sayL (l.take i)).length := by rw [size_list, ha]
  have hc : l[i].f0.size ≤ (sayC l[i]).length := by rw [size_list]; unfold sayC; rw [List.length_append]; omega
  refine Ev.succ ?_
  simp only [backseatref08_Say.l0]
  rw [rd_cell hlt]
  refine Ev.pos (by omega) (Ev.pos (by omega) (Ev.pos (by omega) ?_))
  by_cases he : l[i].f0.toList = ([] : List UInt8)
  ·refine Ev.pos he ?_
   by_cases h1 : l[i].f1 = 1
   ·have hsc : sayC l[i] = l[i].f0.data.toList ++ [32] := by unfold sayC; rw [if_pos he, if_pos h1]
    have hz0 : l[i].f0.data.toList = [] := by rw [← ByteArray.toList_eq]; exact he
    have h2 := app_list acc (⟨#[32]⟩ : ByteArray)
    have h3 : (acc ++ (⟨#[32]⟩ : ByteArray)).size = acc.size + 1 := by rw [size_list, h2, size_list]; simp
    rw [hsc, List.length_append, ← size_list] at hb
    simp at hb
    refine Ev.pos h1 (Ev.pos (by omega) (Ev.pos (by omega) ?_))
    rw [hw]
    refine say_loop l hl hz m (i + 1) _ (by omega) ?_
    rw [app_list, h2, ht, hsc, ha, hz0]; simp
   ·have hsc : sayC l[i] = l[i].f0.data.toList := by unfold sayC; rw [if_pos he, if_neg h1, List.append_nil]
    refine Ev.neg h1 (Ev.pos (by omega) ?_)
    rw [hw]
    refine say_loop l hl hz m (i + 1) _ (by omega) ?_
    rw [app_list, ht, hsc, ha]
  ·have hsc : sayC l[i] = l[i].f0.data.toList := by unfold sayC; rw [if_neg he, List.append_nil]
   refine Ev.neg he (Ev.pos (by omega) ?_)
   rw [hw]
   refine say_loop l hl hz m (i + 1) _ (by omega) ?_
   rw [app_list, ht, hsc, ha]
theorem say_ev (l : List CellT) (hl : (l.length : Int) ≤ 1000000000000) (hz : (sayL l).length ≤ 140737488355328) : Ev (fun k => backseatref08_Say.f k l) ⟨(sayL l).toArray⟩ := by
 unfold backseatref08_Say.f
 exact say_loop l hl hz l.length 0 _ (by omega) rfl
def preB (t s : ByteArray) : Bool := if (t.size : Int) ≥ (s.size : Int) then ((t.extract 0 ((s.size : Int) : Int).toNat).toList == s.toList) else false
theorem pre_f (t s : ByteArray) : strings_HasPrefix.f t s = some (preB t s) := by
 unfold strings_HasPrefix.f stringslite_HasPrefix.f preB
 by_cases h : (t.size : Int) ≥ (s.size : Int)
 ·rw [if_pos h, if_pos h, if_pos (by omega), if_pos (by omega)]; rfl
 ·rw [if_neg h, if_neg h]; rfl
def textAt (l : List LineT) (p : Nat × Nat) : ByteArray := ⟨(sayL (cellsAt l p)).toArray⟩
def standB (l : List LineT) (s : ByteArray) (p : Nat × Nat) : Bool := if wideAt l p = 0 then false else preB (textAt l p) s
def behB (a b c d : Int) : Bool := if a > c then true else if a = c then decide (b > d) else false
theorem beh_f (a b c d : Int) : backseatref10_Behind.f a b c d = some (behB a b c d) := by
 unfold backseatref10_Behind.f behB
 split
 ·rfl
 ·split <;> rfl
structure FindOK (l : List LineT) : Prop where
 len : (l.length : Int) ≤ 1000000000000
 row : ∀ x ∈ l, (x.f0.length : Int) ≤ 1000000000000
 say : okL l = true
 wide : ∀ p : Nat × Nat, p.1 < l.length → p.2 < lenAt l p.1 → 0 ≤ wideAt l p
theorem say_le {l : List LineT} (h : okL l = true) (p : Nat × Nat) (hp : p.1 < l.length) : (sayL (cellsAt l p)).length ≤ 140737488355328 := by
 obtain ⟨t, ht⟩ := say_at h p hp
 unfold find_say.f at ht
 split at ht
 ·assumption
 ·cases ht
theorem say_is {l : List LineT} (h : okL l = true) (p : Nat × Nat) (hp : p.1 < l.length) : find_say.f (cellsAt l p) = some (textAt l p) := by
 unfold find_say.f; rw [if_pos (say_le h p hp)]; rfl
theorem lenAt_eq {l : List LineT} {r : Nat} (h : r < l.length) : lenAt l r = l[r].f0.length := by unfold lenAt; rw [rd_line h]
theorem wideAt_eq {l : List LineT} {p : Nat × Nat} (h : p.2 < lenAt l p.1) : wideAt l p = (rd_T60 (rd_T38 l p.1).f0 p.2).f1 := by
 unfold lenAt at h
 unfold wideAt cellsAt rd_T60
 simp [List.getD_eq_getElem?_getD]
theorem stands_ev {l : List LineT} (s : ByteArray) (H : FindOK l) (p : Nat × Nat) (h1 : p.1 < l.length) (h2 : p.2 < lenAt l p.1) : Ev (fun k => backseatref10_Stands.f k l s p.1 p.2) (standB l s p) := by
 have hr := H.row _ (List.getElem_mem h1)
 have hle := lenAt_eq h1
 have h2' : p.2 < (rd_T38 l p.1).f0.length := h2
 unfold backseatref10_Stands.f standB
 refine Ev.pos (by omega) (Ev.pos (by omega) (Ev.pos (by omega) (Ev.pos (by omega) ?_)))
 rw [← wideAt_eq h2]
 by_cases hw : wideAt l p = 0
 ·rw [if_pos hw]; exact Ev.pos hw (Ev.ret _)
 ·rw [if_neg hw]
  refine Ev.neg hw (Ev.pos (by omega) (Ev.bind (v := textAt l p) ?_ ?_))
  ·rw [Int.toNat_natCast]
   exact say_ev (cellsAt l p) (by unfold cellsAt; rw [List.length_drop, rd_line h1]; omega) (say_le H.say p h1)
  ·by_cases hp : ((textAt l p).size : Int) ≥ (s.size : Int)
   ·have e : preB (textAt l p) s = (((textAt l p).extract 0 ((s.size : Int) : Int).toNat).toList == s.toList) := by unfold preB; rw [if_pos hp]
    rw [e]; exact Ev.pos hp (Ev.pos (by omega) (Ev.pos (by omega) (Ev.ret _)))
   ·have e : preB (textAt l p) s = false := by unfold preB; rw [if_neg hp]
    rw [e]; exact Ev.neg hp (Ev.ret _)
def hitB (l : List LineT) (s : ByteArray) (row col : Int) (back : Bool) (p : Nat × Nat) : Bool :=
 (if back = true then behB row col p.1 p.2 else behB p.1 p.2 row col) && standB l s p
theorem hit_is {l : List LineT} (s : ByteArray) (H : FindOK l) (row col : Int) (back : Bool) (p : Nat × Nat) (h1 : p.1 < l.length) (h2 : p.2 < lenAt l p.1) : hitO l s row col (sideB back) p = some (hitB l s row col back p) := by
 have hw := H.wide p h1 h2
 unfold hitO hitB standB
 rw [say_is H.say p h1, Option.bind_some, pre_f]
 have e : (orI (cmpI p.1 row) (cmpI p.2 col) = sideB back) ↔ (if back = true then behB row col p.1 p.2 else behB p.1 p.2 row col) = true := by
  unfold orI cmpI sideB behB
  cases back <;> simp <;> repeat' split
  all_goals (simp <;> omega)
 by_cases hc : orI (cmpI p.1 row) (cmpI p.2 col) = sideB back
 ·rw [if_pos hc, e.1 hc, Bool.true_and]
  by_cases h0 : 0 < wideAt l p
  ·rw [if_pos h0, if_neg (by omega)]
  ·rw [if_neg h0, if_pos (by omega)]
 ·have : (if back = true then behB row col p.1 p.2 else behB p.1 p.2 row col) = false := Bool.eq_false_iff.2 (fun h => hc (e.2 h))
  rw [if_neg hc, this, Bool.false_and]
theorem seek_find {l : List LineT} (s : ByteArray) (H : FindOK l) (row col : Int) (back : Bool) : ∀ ps : List (Nat × Nat), (∀ p ∈ ps, p.1 < l.length ∧ p.2 < lenAt l p.1) →
  seekO l s row col (sideB back) ps = some (match ps.find? (hitB l s row col back) with | some p => ((p.1 : Int), (p.2 : Int), (0 : Int)) | none => (0, 0, 5))
 | [], _ => rfl
 | p :: t, h => by
  obtain ⟨a, b⟩ := h p (by simp)
  unfold seekO
  rw [hit_is s H row col back p a b, Option.bind_some, List.find?_cons]
  cases hb : hitB l s row col back p
  ·rw [if_neg (by decide)]; exact seek_find s H row col back t (fun q hq => h q (by simp [hq]))
  ·rfl
end Go.Proofs.YtckkdaehmccjlaaDoor.P
namespace Go.Proofs.YtckkdaehmccjlaaDoor.P
open Go.RowKit Go.Proofs.YtckkdaehmccjlaaDoorW.PrintWords Go.Proofs.YtckkdaehmccjlaaDoorW.PrintLast Go.Proofs.YtckkdaehmccjlaaDoorW.PrintMore
attribute [local go_sem] max2_int min2_int max_two min_two max_three min_three max_four min_four   -- for this text's walks alone
set_option linter.unusedVariables false
set_option linter.unusedSimpArgs false
mutual
def backseatref10_Find.l0 : Nat → List (S38) → ByteArray → Int → Int → Bool → Int → Int → Int → Option (Int × Int)
 | 0, _, _, _, _, _, _, _, _ => none
 | k + 1, x0, x1, x2, x3, x4, x12, x266000, x266001 => if x12 < (x0.length : Int) then (backseatref10_Find.l1 k x0 x1 x2 x3 x4 x12 0 x266000 x266001) else (some (x266000, x266001))
def backseatref10_Find.l1 : Nat → List (S38) → ByteArray → Int → Int → Bool → Int → Int → Int → Int → Option (Int × Int)
 | 0, _, _, _, _, _, _, _, _, _ => none
 | k + 1, x0, x1, x2, x3, x4, x12, x13, x266000, x266001 => if 0 ≤ x12 then (if x12 < (x0.length : Int) then (if x13 < (((rd_T38 x0 x12).f0).length : Int) then ((backseatref10_Stands.f k x0 x1 x12 x13).bind fun t267 => (if t267 = true then (if x4 = true then ((backseatref10_Behind.f x2 x3 x12 x13).bind fun t268 => (backseatref10_Find.j2 k x0 x1 x2 x3 x4 x12 x13 t268 x266000 x266001)) else (backseatref10_Find.j2 k x0 x1 x2 x3 x4 x12 x13 false x266000 x266001)) else (backseatref10_Find.l1 k x0 x1 x2 x3 x4 x12 (wrap64 (x13 + 1)) x266000 x266001))) else (backseatref10_Find.l0 k x0 x1 x2 x3 x4 (wrap64 (x12 + 1)) x266000 x266001)) else (none)) else (none)
def backseatref10_Find.j2 : Nat → List (S38) → ByteArray → Int → Int → Bool → Int → Int → Bool → Int → Int → Option (Int × Int)
 | 0, _, _, _, _, _, _, _, _, _, _ => none
 | k + 1, x0, x1, x2, x3, x4, x12, x13, x44, x266000, x266001 => if x44 = true then (if x4 = true then (backseatref10_Find.l1 k x0 x1 x2 x3 x4 x12 (wrap64 (x13 + 1)) x12 x13) else (if x12 < 0 then ((backseatref10_Behind.f x12 x13 x2 x3).bind fun t269 => (if t269 = true then (backseatref10_Find.l1 k x0 x1 x2 x3 x4 x12 (wrap64 (x13 + 1)) x12 x13) else (backseatref10_Find.l1 k x0 x1 x2 x3 x4 x12 (wrap64 (x13 + 1)) x12 x13))) else (backseatref10_Find.l1 k x0 x1 x2 x3 x4 x12 (wrap64 (x13 + 1)) x12 x13))) else (if x4 = true then (backseatref10_Find.l1 k x0 x1 x2 x3 x4 x12 (wrap64 (x13 + 1)) x266000 x266001) else (if x266000 < 0 then ((backseatref10_Behind.f x12 x13 x2 x3).bind fun t270 => (if t270 = true then (backseatref10_Find.l1 k x0 x1 x2 x3 x4 x12 (wrap64 (x13 + 1)) x12 x13) else (backseatref10_Find.l1 k x0 x1 x2 x3 x4 x12 (wrap64 (x13 + 1)) x266000 x266001))) else (backseatref10_Find.l1 k x0 x1 x2 x3 x4 x12 (wrap64 (x13 + 1)) x266000 x266001)))
end
def backseatref10_Find.f (k : Nat) (l0 : List (S38)) (a1 : ByteArray) (a2 : Int) (a3 : Int) (a4 : Bool) : Option (Int × Int) := backseatref10_Find.l0 k l0 a1 a2 a3 a4 0 (-1) 0
set_option maxHeartbeats 8000000 in
set_option maxRecDepth 100000 in
theorem backseatref10_Find.calls (k : Nat) (A0 : Option Addr) (c0 : Nat) (l0 : List (S38)) (a1 : ByteArray) (a2 : Int) (a3 : Int) (a4 : Bool) (r1 : Int) (r2 : Int) (w : World) (hr0 : Kd.C k38 w A0 l0.length l0) (hc0 : l0.length ≤ c0) (h : backseatref10_Find.f k l0 a1 a2 a3 a4 = some (r1, r2)) :
  Calls Tryd.prog 14 #[.slice A0 l0.length c0, .string a1, .int .i64 a2, .int .i64 a3, .bool a4] w fun e w' => e = .returned (.agg #[.int .i64 r1, .int .i64 r2]) ∧ Below w.heap.size w w' := by
 have hu31 := Tryd.underlying31
 have HR0 := Aside0.mk hr0
 have HC0 := Aside0.mk hc0
 clear hr0 hc0
 have HB := Aside0.mk (Below.refl w.heap.size w)
 have H : (backseatref10_Find.l0 k l0 a1 a2 a3 a4 0 (-1) 0) = some (r1, r2) := h
 clear h
 have H' := Aside0.mk H
 clear H
 go_enter Tryd.func14, Tryd.ntmps14
 go_wp2_with (first | ((with_reducible refine gate_dst (N := 10) rfl ?_); refine box_event ?hg (N := 10) ?hd (cs := #[.int .i64 0, .int .i64 0]) (t := 31) ?hr ?_; (case hd => rfl); (case hg => rfl); (case hr => exact zo); intro gb264 hg w6 hbox hb; have BK264 := Aside0.mk (hbox); have GW264 := Aside0.mk ((zg hg : w.heap.size ≤ gb264)); have GE264 := Aside0.mk ((zg hg : w.heap.size ≤ gb264)); replace HB := (zs HB hb); clear hb hbox hg) | ((with_reducible refine gate_dst (N := 11) rfl ?_); refine box_event ?hg (N := 11) ?hd (cs := #[.int .i64 0, .int .i64 0]) (t := 31) ?hr ?_; (case hd => rfl); (case hg => rfl); (case hr => exact zo); intro gb265 hg w7 hbox hb; have n0_ := (zk BK264 hb); have n1_ := (zs HB hb); have n2_ := Aside0.mk (hbox); have n3_ := Aside0.mk ((zg hg : w.heap.size ≤ gb265)); have n4_ := Aside0.mk ((zg hg : w.heap.size ≤ gb265)); have n5_ := Aside0.mk ((by rw [hg]; exact Nat.ne_of_lt (blk_lt (g := gb264) (o := .cells #[.int .i64 0, .int .i64 0] 31 (0, 0)) (by exact BK264.out)) : gb264 ≠ gb265)); have n6_ := Aside0.mk ((by rw [hg]; exact Nat.ne_of_gt (blk_lt (g := gb264) (o := .cells #[.int .i64 0, .int .i64 0] 31 (0, 0)) (by exact BK264.out)) : gb265 ≠ gb264)); clear BK264; clear HB; have BK264 := n0_; have HB := n1_; have BK265 := n2_; have GW265 := n3_; have GE265 := n4_; have NB264_265 := n5_; have NB265_264 := n6_; clear n0_ n1_ n2_ n3_ n4_ n5_ n6_; clear hb hbox hg; have hnb8 := NB265_264.out; have hnc8 := NB264_265.out; obtain ⟨hcz9_0, hcz9_1, hfz9_0, hfz9_1⟩ := zq2 (w := w7) BK265))
 go_loopg [12] k (fun kq v12 w' => ∃ (x12_1 : Int) (x266000_1 : Int) (x266001_1 : Int), v12 = .int .i64 x12_1 ∧ Aside0 (backseatref10_Find.l0 kq l0 a1 a2 a3 a4 x12_1 x266000_1 x266001_1 = some (r1, r2)) ∧ Aside0 (kq ≤ k) ∧ Aside0 (w'.heap[gb264]? = some (.cells #[.int .i64 0, .int .i64 0] 31 (0, 0))) ∧ Aside0 (w'.heap[gb265]? = some (.cells #[.int .i64 x266000_1, .int .i64 x266001_1] 31 (0, 0))) ∧ Aside0 (Below w.heap.size w w'))
 case atStart => exact ⟨(0), ((-1)), (0), zf, H', ⟨Nat.le_refl _⟩, ⟨by refine blk_far ?_ NB264_265.out _; refine blk_far ?_ NB264_265.out _; exact BK264.out⟩, ⟨by refine blk_put (cs := #[.int .i64 (-1), .int .i64 0]) ?_ 1 _ rfl; refine blk_put (cs := #[.int .i64 0, .int .i64 0]) ?_ 0 _ rfl; exact BK265.out⟩, ⟨zb⟩⟩
 case round =>
  clear H'
  try clear hcz9_0
  try clear hcz9_1
  try clear hfz9_0
  try clear hfz9_1
  obtain ⟨x12_1, x266000_1, x266001_1, rfl, HA, HK1, BK264, BK265, HB⟩ := hrel
  cases gk with
  | zero => exact absurd HA.out (by simp [backseatref10_Find.l0])
  | succ k1 =>
   have H := HA.out
   clear HA
   simp only [backseatref10_Find.l0] at H
   by_cases c10 : x12_1 < (l0.length : Int)
   ·rw [if_pos c10] at H
    have c10b0 : decide (x12_1 < (l0.length : Int)) = true := decide_eq_true c10
    clear c10
    have H' := Aside0.mk H
    clear H
    go_wp2
    go_loopg [13] k1 (fun kq v13 w' => ∃ (x13_2 : Int) (x266000_2 : Int) (x266001_2 : Int), v13 = .int .i64 x13_2 ∧ Aside0 (backseatref10_Find.l1 kq l0 a1 a2 a3 a4 x12_1 x13_2 x266000_2 x266001_2 = some (r1, r2)) ∧ Aside0 (kq ≤ k1) ∧ Aside0 (w'.heap[gb264]? = some (.cells #[.int .i64 0, .int .i64 0] 31 (0, 0))) ∧ Aside0 (w'.heap[gb265]? = some (.cells #[.int .i64 x266000_2, .int .i64 x266001_2] 31 (0, 0))) ∧ Aside0 (Below w.heap.size w w'))
    case atStart => exact ⟨(0), (x266000_1), (x266001_1), zf, H', ⟨Nat.le_refl _⟩, ⟨by exact BK264.out⟩, ⟨by exact BK265.out⟩, ⟨zb⟩⟩
    case round =>
     clear H'
     try clear c10
     try clear c10b0
     try clear hcz9_0
     try clear hcz9_1
     try clear hfz9_0
     try clear hfz9_1
     obtain ⟨x13_2, x266000_2, x266001_2, rfl, HA, HK2, BK264, BK265, HB⟩ := hrel
     cases gk with
     | zero => exact absurd HA.out (by simp [backseatref10_Find.l1])
     | succ k2 =>
      have H := HA.out
      clear HA
      simp only [backseatref10_Find.l1] at H
      by_cases c11 : 0 ≤ x12_1
      ·rw [if_pos c11] at H
       have c11b0 : decide (0 ≤ x12_1) = true := decide_eq_true c11
       clear c11
       by_cases c12 : x12_1 < (l0.length : Int)
       ·rw [if_pos c12] at H
        have c12b0 : decide (x12_1 < (l0.length : Int)) = true := decide_eq_true c12
        clear c12
        by_cases c13 : x13_2 < (((rd_T38 l0 x12_1).f0).length : Int)
        ·rw [if_pos c13] at H
         have c13b0 : decide (x13_2 < (((rd_T38 l0 x12_1).f0).length : Int)) = true := decide_eq_true c13
         clear c13
         replace H := Option.bind_eq_some_iff.mp H
         obtain ⟨t267, A140, H⟩ := H
         replace H : (if t267 = true then (if a4 = true then ((backseatref10_Behind.f a2 a3 x12_1 x13_2).bind fun t268 => (backseatref10_Find.j2 k2 l0 a1 a2 a3 a4 x12_1 x13_2 t268 x266000_2 x266001_2)) else (backseatref10_Find.j2 k2 l0 a1 a2 a3 a4 x12_1 x13_2 false x266000_2 x266001_2)) else (backseatref10_Find.l1 k2 l0 a1 a2 a3 a4 x12_1 (wrap64 (x13_2 + 1)) x266000_2 x266001_2)) = some (r1, r2) := H
         have A14 := Aside0.mk A140
         clear A140
         by_cases c15 : t267 = true
         ·subst c15
          have H1 : (if a4 = true then ((backseatref10_Behind.f a2 a3 x12_1 x13_2).bind fun t268 => (backseatref10_Find.j2 k2 l0 a1 a2 a3 a4 x12_1 x13_2 t268 x266000_2 x266001_2)) else (backseatref10_Find.j2 k2 l0 a1 a2 a3 a4 x12_1 x13_2 false x266000_2 x266001_2)) = some (r1, r2) := by rw [if_pos rfl] at H; exact H
          clear H
          have H := H1
          clear H1
          have HC16 := Aside0.mk H
          clear H
          have p266 : 0 ≤ (x12_1 : Int) := of_decide_eq_true za
          have q266 : x12_1 < (l0.length : Int) := of_decide_eq_true za
          obtain ⟨ad266, A266_0, c266_0, e266, hx266_0, hx266_1, hl266_0, hi266_0⟩ := at_T38 HR0.out x12_1 p266 q266
          cases e266
          replace hx266_0 := zc HB hx266_0
          replace hx266_1 := zc HB hx266_1
          have HR266_0 := Aside0.mk hi266_0
          have HC266_0 := Aside0.mk hl266_0
          clear hi266_0 hl266_0
          replace p266 := eq_true p266
          replace q266 := eq_true q266
          go_upto_region 9 with (first | ((with_reducible refine gate_callee (f := 15) rfl ?_); refine goesL_ (some 35) rfl rfl Tryd.func15 (by kernel_rfl) rfl #[.slice (some ad266) l0.length c0, .string a1, .int .i64 x12_1, .int .i64 x13_2] rfl zl ?_; (with_reducible refine (backseatref10_Stands.calls k2 _ _ l0 a1 x12_1 x13_2 true _ ?side1 ?side2 A14.out).mono ?_); (case side1 => repeat (first | exact (Kd.C_below HR0.out HB.out) | (with_reducible refine Kd.C_alloc ?_ _) | (with_reducible refine Kd.C_drewN ?_ _) | (with_reducible refine Kd.C_drew ?_))); (case side2 => exact HC0.out); rintro e w17 ⟨rfl, hb⟩; refine ⟨_, rfl, ?_⟩; replace BK264 := (zk BK264 hb); replace BK265 := (zk BK265 hb); replace HB := (zs HB hb); (try clear hb)))
          (try simp only [Act.put, List.setIfInBounds_toArray, List.set_cons_zero, List.set_cons_succ])
          go_cut [44] (fun v44 wc => ∃ (kq : Nat) (x44_15 : Bool), v44 = .bool x44_15 ∧ Aside0 (backseatref10_Find.j2 kq l0 a1 a2 a3 a4 x12_1 x13_2 x44_15 x266000_2 x266001_2 = some (r1, r2)) ∧ Aside0 (kq ≤ k2) ∧ Aside0 (wc.heap[gb264]? = some (.cells #[.int .i64 0, .int .i64 0] 31 (0, 0))) ∧ Aside0 (wc.heap[gb265]? = some (.cells #[.int .i64 x266000_2, .int .i64 x266001_2] 31 (0, 0))) ∧ Aside0 (Below w.heap.size w wc))
          case first =>
           have H := HC16.out
           clear HC16
           by_cases c18 : a4 = true
           ·subst c18
            have H1 : ((backseatref10_Behind.f a2 a3 x12_1 x13_2).bind fun t268 => (backseatref10_Find.j2 k2 l0 a1 a2 a3 true x12_1 x13_2 t268 x266000_2 x266001_2)) = some (r1, r2) := by rw [if_pos rfl] at H; exact H
            clear H
            have H := H1
            clear H1
            replace H := Option.bind_eq_some_iff.mp H
            obtain ⟨t268, A190, H⟩ := H
            replace H : (backseatref10_Find.j2 k2 l0 a1 a2 a3 true x12_1 x13_2 t268 x266000_2 x266001_2) = some (r1, r2) := H
            have A19 := Aside0.mk A190
            clear A190
            have H' := Aside0.mk H
            clear H
            go_wp2_with (first | (go_at_call 16; (with_reducible refine (backseatref10_Behind.calls a2 a3 x12_1 x13_2 t268 _ A19.out).mono ?_); rintro e w' ⟨rfl, ⟨nd, rfl⟩⟩))
            go_meet
            case rel => exact ⟨_, (t268), zf, H', ⟨by have := HK1.out; have := HK2.out; first | omega | exact Nat.le_refl _⟩, ⟨by exact BK264.out⟩, ⟨by exact BK265.out⟩, ⟨zb⟩⟩
           ·replace c18 := Bool.eq_false_iff.mpr c18
            subst c18
            have H1 : (backseatref10_Find.j2 k2 l0 a1 a2 a3 false x12_1 x13_2 false x266000_2 x266001_2) = some (r1, r2) := by rw [if_neg (show ¬ (false = true) by decide)] at H; exact H
            clear H
            have H := H1
            clear H1
            have H' := Aside0.mk H
            clear H
            go_wp2
            go_meet
            case rel => exact ⟨_, (false), zf, H', ⟨by have := HK1.out; have := HK2.out; first | omega | exact Nat.le_refl _⟩, ⟨by exact BK264.out⟩, ⟨by exact BK265.out⟩, ⟨zb⟩⟩
          case rest =>
           clear HC16
           try clear c10
           try clear c10b0
           try clear c11
           try clear c11b0
           try clear c12
           try clear c12b0
           try clear c13
           try clear c13b0
           try clear c15
           try clear hcz9_0
           try clear hcz9_1
           try clear hfz9_0
           try clear hfz9_1
           try clear hx266_0
           try clear hx266_1
           try clear p266
           try clear q266
           obtain ⟨kq, x44_15, rfl, HA, HJ15, BK264, BK265, HB⟩ := hcut
           cases kq with
           | zero => exact absurd HA.out (by simp [backseatref10_Find.j2])
           | succ kj15 =>
            have H := HA.out
            clear HA
            simp only [backseatref10_Find.j2] at H
            by_cases c20 : x44_15 = true
            ·subst c20
             have H1 : (if a4 = true then (backseatref10_Find.l1 kj15 l0 a1 a2 a3 a4 x12_1 (wrap64 (x13_2 + 1)) x12_1 x13_2) else (if x12_1 < 0 then ((backseatref10_Behind.f x12_1 x13_2 a2 a3).bind fun t269 => (if t269 = true then (backseatref10_Find.l1 kj15 l0 a1 a2 a3 a4 x12_1 (wrap64 (x13_2 + 1)) x12_1 x13_2) else (backseatref10_Find.l1 kj15 l0 a1 a2 a3 a4 x12_1 (wrap64 (x13_2 + 1)) x12_1 x13_2))) else (backseatref10_Find.l1 kj15 l0 a1 a2 a3 a4 x12_1 (wrap64 (x13_2 + 1)) x12_1 x13_2))) = some (r1, r2) := by rw [if_pos rfl] at H; exact H
             clear H
             have H := H1
             clear H1
             by_cases c21 : a4 = true
             ·subst c21
              have H1 : (backseatref10_Find.l1 kj15 l0 a1 a2 a3 true x12_1 (wrap64 (x13_2 + 1)) x12_1 x13_2) = some (r1, r2) := by rw [if_pos rfl] at H; exact H
              clear H
              have H := H1
              clear H1
              have H' := Aside0.mk H
              clear H
              have hnb22 := NB265_264.out
              have hnc22 := NB264_265.out
              obtain ⟨hcz23_0, hcz23_1, hfz23_0, hfz23_1⟩ := zq2 (w := wc) BK265
              go_wp2
              go_roundg kj15
              case measure => have := HK1.out; have := HK2.out; have := HJ15.out; omega
              case rel => exact ⟨(wrap64 (x13_2 + 1)), (x12_1), (x13_2), zf, H', ⟨by have := HK1.out; have := HK2.out; have := HJ15.out; omega⟩, ⟨by refine blk_far ?_ NB264_265.out _; refine blk_far ?_ NB264_265.out _; exact BK264.out⟩, ⟨by refine blk_put (cs := #[.int .i64 x12_1, .int .i64 x266001_2]) ?_ 1 _ rfl; refine blk_put (cs := #[.int .i64 x266000_2, .int .i64 x266001_2]) ?_ 0 _ rfl; exact BK265.out⟩, ⟨zb⟩⟩
             ·replace c21 := Bool.eq_false_iff.mpr c21
              subst c21
              have H1 : (if x12_1 < 0 then ((backseatref10_Behind.f x12_1 x13_2 a2 a3).bind fun t269 => (if t269 = true then (backseatref10_Find.l1 kj15 l0 a1 a2 a3 false x12_1 (wrap64 (x13_2 + 1)) x12_1 x13_2) else (backseatref10_Find.l1 kj15 l0 a1 a2 a3 false x12_1 (wrap64 (x13_2 + 1)) x12_1 x13_2))) else (backseatref10_Find.l1 kj15 l0 a1 a2 a3 false x12_1 (wrap64 (x13_2 + 1)) x12_1 x13_2)) = some (r1, r2) := by rw [if_neg (show ¬ (false = true) by decide)] at H; exact H
              clear H
              have H := H1
              clear H1
              by_cases c24 : x12_1 < 0
              ·rw [if_pos c24] at H
               have c24b0 : decide (x12_1 < 0) = true := decide_eq_true c24
               clear c24
               replace H := Option.bind_eq_some_iff.mp H
               obtain ⟨t269, A250, H⟩ := H
               replace H : (if t269 = true then (backseatref10_Find.l1 kj15 l0 a1 a2 a3 false x12_1 (wrap64 (x13_2 + 1)) x12_1 x13_2) else (backseatref10_Find.l1 kj15 l0 a1 a2 a3 false x12_1 (wrap64 (x13_2 + 1)) x12_1 x13_2)) = some (r1, r2) := H
               have A25 := Aside0.mk A250
               clear A250
               by_cases c26 : t269 = true
               ·subst c26
                have H1 : (backseatref10_Find.l1 kj15 l0 a1 a2 a3 false x12_1 (wrap64 (x13_2 + 1)) x12_1 x13_2) = some (r1, r2) := by rw [if_pos rfl] at H; exact H
                clear H
                have H := H1
                clear H1
                have H' := Aside0.mk H
                clear H
                have hnb27 := NB265_264.out
                have hnc27 := NB264_265.out
                obtain ⟨hcz28_0, hcz28_1, hfz28_0, hfz28_1⟩ := zq2 (w := wc) BK265
                go_wp2_with (first | (go_at_call 16; (with_reducible refine (backseatref10_Behind.calls x12_1 x13_2 a2 a3 true _ A25.out).mono ?_); rintro e w' ⟨rfl, ⟨nd, rfl⟩⟩))
                go_roundg kj15
                case measure => have := HK1.out; have := HK2.out; have := HJ15.out; omega
                case rel => exact ⟨(wrap64 (x13_2 + 1)), (x12_1), (x13_2), zf, H', ⟨by have := HK1.out; have := HK2.out; have := HJ15.out; omega⟩, ⟨by refine blk_far ?_ NB264_265.out _; refine blk_far ?_ NB264_265.out _; refine blk_far ?_ NB264_265.out _; refine blk_far ?_ NB264_265.out _; exact BK264.out⟩, ⟨by refine blk_put (cs := #[.int .i64 x12_1, .int .i64 x13_2]) ?_ 1 _ rfl; refine blk_put (cs := #[.int .i64 x12_1, .int .i64 x13_2]) ?_ 0 _ rfl; refine blk_put (cs := #[.int .i64 x12_1, .int .i64 x266001_2]) ?_ 1 _ rfl; refine blk_put (cs := #[.int .i64 x266000_2, .int .i64 x266001_2]) ?_ 0 _ rfl; exact BK265.out⟩, ⟨zb⟩⟩
               ·replace c26 := Bool.eq_false_iff.mpr c26
                subst c26
                have H1 : (backseatref10_Find.l1 kj15 l0 a1 a2 a3 false x12_1 (wrap64 (x13_2 + 1)) x12_1 x13_2) = some (r1, r2) := by rw [if_neg (show ¬ (false = true) by decide)] at H; exact H
                clear H
                have H := H1
                clear H1
                have H' := Aside0.mk H
                clear H
                have hnb29 := NB265_264.out
                have hnc29 := NB264_265.out
                obtain ⟨hcz30_0, hcz30_1, hfz30_0, hfz30_1⟩ := zq2 (w := wc) BK265
                go_wp2_with (first | (go_at_call 16; (with_reducible refine (backseatref10_Behind.calls x12_1 x13_2 a2 a3 false _ A25.out).mono ?_); rintro e w' ⟨rfl, ⟨nd, rfl⟩⟩))
                go_roundg kj15
                case measure => have := HK1.out; have := HK2.out; have := HJ15.out; omega
                case rel => exact ⟨(wrap64 (x13_2 + 1)), (x12_1), (x13_2), zf, H', ⟨by have := HK1.out; have := HK2.out; have := HJ15.out; omega⟩, ⟨by refine blk_far ?_ NB264_265.out _; refine blk_far ?_ NB264_265.out _; exact BK264.out⟩, ⟨by refine blk_put (cs := #[.int .i64 x12_1, .int .i64 x266001_2]) ?_ 1 _ rfl; refine blk_put (cs := #[.int .i64 x266000_2, .int .i64 x266001_2]) ?_ 0 _ rfl; exact BK265.out⟩, ⟨zb⟩⟩
              ·rw [if_neg c24] at H
               have c24b0 : decide (x12_1 < 0) = false := decide_eq_false c24
               clear c24
               have H' := Aside0.mk H
               clear H
               have hnb31 := NB265_264.out
               have hnc31 := NB264_265.out
               obtain ⟨hcz32_0, hcz32_1, hfz32_0, hfz32_1⟩ := zq2 (w := wc) BK265
               go_wp2
               go_roundg kj15
               case measure => have := HK1.out; have := HK2.out; have := HJ15.out; omega
               case rel => exact ⟨(wrap64 (x13_2 + 1)), (x12_1), (x13_2), zf, H', ⟨by have := HK1.out; have := HK2.out; have := HJ15.out; omega⟩, ⟨by refine blk_far ?_ NB264_265.out _; refine blk_far ?_ NB264_265.out _; exact BK264.out⟩, ⟨by refine blk_put (cs := #[.int .i64 x12_1, .int .i64 x266001_2]) ?_ 1 _ rfl; refine blk_put (cs := #[.int .i64 x266000_2, .int .i64 x266001_2]) ?_ 0 _ rfl; exact BK265.out⟩, ⟨zb⟩⟩
            ·replace c20 := Bool.eq_false_iff.mpr c20
             subst c20
             have H1 : (if a4 = true then (backseatref10_Find.l1 kj15 l0 a1 a2 a3 a4 x12_1 (wrap64 (x13_2 + 1)) x266000_2 x266001_2) else (if x266000_2 < 0 then ((backseatref10_Behind.f x12_1 x13_2 a2 a3).bind fun t270 => (if t270 = true then (backseatref10_Find.l1 kj15 l0 a1 a2 a3 a4 x12_1 (wrap64 (x13_2 + 1)) x12_1 x13_2) else (backseatref10_Find.l1 kj15 l0 a1 a2 a3 a4 x12_1 (wrap64 (x13_2 + 1)) x266000_2 x266001_2))) else (backseatref10_Find.l1 kj15 l0 a1 a2 a3 a4 x12_1 (wrap64 (x13_2 + 1)) x266000_2 x266001_2))) = some (r1, r2) := by rw [if_neg (show ¬ (false = true) by decide)] at H; exact H
             clear H
             have H := H1
             clear H1
             by_cases c33 : a4 = true
             ·subst c33
              have H1 : (backseatref10_Find.l1 kj15 l0 a1 a2 a3 true x12_1 (wrap64 (x13_2 + 1)) x266000_2 x266001_2) = some (r1, r2) := by rw [if_pos rfl] at H; exact H
              clear H
              have H := H1
              clear H1
              have H' := Aside0.mk H
              clear H
              go_wp2
              go_roundg kj15
              case measure => have := HK1.out; have := HK2.out; have := HJ15.out; omega
              case rel => exact ⟨(wrap64 (x13_2 + 1)), (x266000_2), (x266001_2), zf, H', ⟨by have := HK1.out; have := HK2.out; have := HJ15.out; omega⟩, ⟨by exact BK264.out⟩, ⟨by exact BK265.out⟩, ⟨zb⟩⟩
             ·replace c33 := Bool.eq_false_iff.mpr c33
              subst c33
              have H1 : (if x266000_2 < 0 then ((backseatref10_Behind.f x12_1 x13_2 a2 a3).bind fun t270 => (if t270 = true then (backseatref10_Find.l1 kj15 l0 a1 a2 a3 false x12_1 (wrap64 (x13_2 + 1)) x12_1 x13_2) else (backseatref10_Find.l1 kj15 l0 a1 a2 a3 false x12_1 (wrap64 (x13_2 + 1)) x266000_2 x266001_2))) else (backseatref10_Find.l1 kj15 l0 a1 a2 a3 false x12_1 (wrap64 (x13_2 + 1)) x266000_2 x266001_2)) = some (r1, r2) := by rw [if_neg (show ¬ (false = true) by decide)] at H; exact H
              clear H
              have H := H1
              clear H1
              by_cases c34 : x266000_2 < 0
              ·rw [if_pos c34] at H
               have c34b0 : decide (x266000_2 < 0) = true := decide_eq_true c34
               clear c34
               replace H := Option.bind_eq_some_iff.mp H
               obtain ⟨t270, A350, H⟩ := H
               replace H : (if t270 = true then (backseatref10_Find.l1 kj15 l0 a1 a2 a3 false x12_1 (wrap64 (x13_2 + 1)) x12_1 x13_2) else (backseatref10_Find.l1 kj15 l0 a1 a2 a3 false x12_1 (wrap64 (x13_2 + 1)) x266000_2 x266001_2)) = some (r1, r2) := H
               have A35 := Aside0.mk A350
               clear A350
               by_cases c36 : t270 = true
               ·subst c36
                have H1 : (backseatref10_Find.l1 kj15 l0 a1 a2 a3 false x12_1 (wrap64 (x13_2 + 1)) x12_1 x13_2) = some (r1, r2) := by rw [if_pos rfl] at H; exact H
                clear H
                have H := H1
                clear H1
                have H' := Aside0.mk H
                clear H
                have hnb37 := NB265_264.out
                have hnc37 := NB264_265.out
                obtain ⟨hcz38_0, hcz38_1, hfz38_0, hfz38_1⟩ := zq2 (w := wc) BK265
                go_wp2_with (first | (go_at_call 16; (with_reducible refine (backseatref10_Behind.calls x12_1 x13_2 a2 a3 true _ A35.out).mono ?_); rintro e w' ⟨rfl, ⟨nd, rfl⟩⟩; (try (rw [drewN_self wc]; generalize hq_ : World.drewN wc _ = wc; have n0_ : Aside0 (wc.heap[gb264]? = some (.cells #[.int .i64 0, .int .i64 0] 31 (0, 0))) := ⟨by rw [← hq_]; exact (by exact BK264.out)⟩; have n1_ : Aside0 (wc.heap[gb265]? = some (.cells #[.int .i64 x266000_2, .int .i64 x266001_2] 31 (0, 0))) := ⟨by rw [← hq_]; exact (by exact BK265.out)⟩; have n2_ : Aside0 (Below w.heap.size w wc) := ⟨by rw [← hq_]; exact zb⟩; clear BK264 BK265 HB hq_; have BK264 := n0_; have BK265 := n1_; have HB := n2_; clear n0_ n1_ n2_; obtain ⟨hcz38_0, hcz38_1, hfz38_0, hfz38_1⟩ := zq2 (w := wc) BK265))))
                go_roundg kj15
                case measure => have := HK1.out; have := HK2.out; have := HJ15.out; omega
                case rel => exact ⟨(wrap64 (x13_2 + 1)), (x12_1), (x13_2), zf, H', ⟨by have := HK1.out; have := HK2.out; have := HJ15.out; omega⟩, ⟨by refine blk_far ?_ NB264_265.out _; refine blk_far ?_ NB264_265.out _; exact BK264.out⟩, ⟨by refine blk_put (cs := #[.int .i64 x12_1, .int .i64 x266001_2]) ?_ 1 _ rfl; refine blk_put (cs := #[.int .i64 x266000_2, .int .i64 x266001_2]) ?_ 0 _ rfl; exact BK265.out⟩, ⟨zb⟩⟩
               ·replace c36 := Bool.eq_false_iff.mpr c36
                subst c36
                have H1 : (backseatref10_Find.l1 kj15 l0 a1 a2 a3 false x12_1 (wrap64 (x13_2 + 1)) x266000_2 x266001_2) = some (r1, r2) := by rw [if_neg (show ¬ (false = true) by decide)] at H; exact H
                clear H
                have H := H1
                clear H1
                have H' := Aside0.mk H
                clear H
                have hnb39 := NB265_264.out
                have hnc39 := NB264_265.out
                obtain ⟨hcz40_0, hcz40_1, hfz40_0, hfz40_1⟩ := zq2 (w := wc) BK265
                go_wp2_with (first | (go_at_call 16; (with_reducible refine (backseatref10_Behind.calls x12_1 x13_2 a2 a3 false _ A35.out).mono ?_); rintro e w' ⟨rfl, ⟨nd, rfl⟩⟩))
                go_roundg kj15
                case measure => have := HK1.out; have := HK2.out; have := HJ15.out; omega
                case rel => exact ⟨(wrap64 (x13_2 + 1)), (x266000_2), (x266001_2), zf, H', ⟨by have := HK1.out; have := HK2.out; have := HJ15.out; omega⟩, ⟨by exact BK264.out⟩, ⟨by exact BK265.out⟩, ⟨zb⟩⟩
              ·rw [if_neg c34] at H
               have c34b0 : decide (x266000_2 < 0) = false := decide_eq_false c34
               clear c34
               have H' := Aside0.mk H
               clear H
               have hnb41 := NB265_264.out
               have hnc41 := NB264_265.out
               obtain ⟨hcz42_0, hcz42_1, hfz42_0, hfz42_1⟩ := zq2 (w := wc) BK265
               go_wp2
               go_roundg kj15
               case measure => have := HK1.out; have := HK2.out; have := HJ15.out; omega
               case rel => exact ⟨(wrap64 (x13_2 + 1)), (x266000_2), (x266001_2), zf, H', ⟨by have := HK1.out; have := HK2.out; have := HJ15.out; omega⟩, ⟨by exact BK264.out⟩, ⟨by exact BK265.out⟩, ⟨zb⟩⟩
         ·replace c15 := Bool.eq_false_iff.mpr c15
          subst c15
          have H1 : (backseatref10_Find.l1 k2 l0 a1 a2 a3 a4 x12_1 (wrap64 (x13_2 + 1)) x266000_2 x266001_2) = some (r1, r2) := by rw [if_neg (show ¬ (false = true) by decide)] at H; exact H
          clear H
          have H := H1
          clear H1
          have H' := Aside0.mk H
          clear H
          have p266 : 0 ≤ (x12_1 : Int) := of_decide_eq_true za
          have q266 : x12_1 < (l0.length : Int) := of_decide_eq_true za
          obtain ⟨ad266, A266_0, c266_0, e266, hx266_0, hx266_1, hl266_0, hi266_0⟩ := at_T38 HR0.out x12_1 p266 q266
          cases e266
          replace hx266_0 := zc HB hx266_0
          replace hx266_1 := zc HB hx266_1
          have HR266_0 := Aside0.mk hi266_0
          have HC266_0 := Aside0.mk hl266_0
          clear hi266_0 hl266_0
          replace p266 := eq_true p266
          replace q266 := eq_true q266
          go_wp2_with (first | ((with_reducible refine gate_callee (f := 15) rfl ?_); refine goesL_ (some 35) rfl rfl Tryd.func15 (by kernel_rfl) rfl #[.slice (some ad266) l0.length c0, .string a1, .int .i64 x12_1, .int .i64 x13_2] rfl zl ?_; (with_reducible refine (backseatref10_Stands.calls k2 _ _ l0 a1 x12_1 x13_2 false _ ?side1 ?side2 A14.out).mono ?_); (case side1 => repeat (first | exact (Kd.C_below HR0.out HB.out) | (with_reducible refine Kd.C_alloc ?_ _) | (with_reducible refine Kd.C_drewN ?_ _) | (with_reducible refine Kd.C_drew ?_))); (case side2 => exact HC0.out); rintro e w43 ⟨rfl, hb⟩; refine ⟨_, rfl, ?_⟩; replace BK264 := (zk BK264 hb); replace BK265 := (zk BK265 hb); replace HB := (zs HB hb); (try clear hb)))
          go_roundg k2
          case measure => have := HK1.out; have := HK2.out; omega
          case rel => exact ⟨(wrap64 (x13_2 + 1)), (x266000_2), (x266001_2), zf, H', ⟨by have := HK1.out; have := HK2.out; omega⟩, ⟨by exact BK264.out⟩, ⟨by exact BK265.out⟩, ⟨zb⟩⟩
        ·rw [if_neg c13] at H
         have c13b0 : decide (x13_2 < (((rd_T38 l0 x12_1).f0).length : Int)) = false := decide_eq_false c13
         clear c13
         have H' := Aside0.mk H
         clear H
         have p266 : 0 ≤ (x12_1 : Int) := of_decide_eq_true za
         have q266 : x12_1 < (l0.length : Int) := of_decide_eq_true za
         obtain ⟨ad266, A266_0, c266_0, e266, hx266_0, hx266_1, hl266_0, hi266_0⟩ := at_T38 HR0.out x12_1 p266 q266
         cases e266
         replace hx266_0 := zc HB hx266_0
         replace hx266_1 := zc HB hx266_1
         have HR266_0 := Aside0.mk hi266_0
         have HC266_0 := Aside0.mk hl266_0
         clear hi266_0 hl266_0
         replace p266 := eq_true p266
         replace q266 := eq_true q266
         go_wp2
         go_roundg k2
         case measure => have := HK1.out; have := HK2.out; omega
         case rel => exact ⟨(wrap64 (x12_1 + 1)), (x266000_2), (x266001_2), zf, H', ⟨by have := HK1.out; have := HK2.out; omega⟩, ⟨by exact BK264.out⟩, ⟨by exact BK265.out⟩, ⟨zb⟩⟩
       ·rw [if_neg c12] at H
        exact absurd H (by simp)
      ·rw [if_neg c11] at H
       exact absurd H (by simp)
   ·rw [if_neg c10] at H
    have c10b0 : decide (x12_1 < (l0.length : Int)) = false := decide_eq_false c10
    clear c10
    simp only [Option.some.injEq, Prod.mk.injEq] at H
    obtain ⟨rfl, rfl⟩ := H
    have hnb44 := NB265_264.out
    have hnc44 := NB264_265.out
    obtain ⟨hcz45_0, hcz45_1, hfz45_0, hfz45_1⟩ := zq2 (w := wr) BK265
    obtain ⟨hcz46_0, hcz46_1, hfz46_0, hfz46_1⟩ := zq2 (w := wr) BK264
    go_wp2
    refine bodyPost_ret (results_cell_row rfl _ _ gb264 31 #[.int .i64 x266000_1, .int .i64 x266001_1] (0, 0) _ rfl (by refine blk_put (cs := #[.int .i64 x266000_1, .int .i64 0]) ?_ 1 _ rfl; refine blk_put (cs := #[.int .i64 0, .int .i64 0]) ?_ 0 _ rfl; exact BK264.out) Tryd.underlying31 rfl (by kernel_rfl)) rfl ?_
    exact ⟨ze, zb⟩
end Go.Proofs.YtckkdaehmccjlaaDoor.P
namespace Go.Proofs.YtckkdaehmccjlaaDoor.P
open Go.RowKit Go.Proofs.YtckkdaehmccjlaaDoorW.PrintWords Go.Proofs.YtckkdaehmccjlaaDoorW.PrintLast Go.Proofs.YtckkdaehmccjlaaDoorW.PrintMore Go.Lib
set_option linter.unusedVariables false
set_option linter.unusedSimpArgs false
def stepR (l : List LineT) (s : ByteArray) (row col : Int) (back : Bool) (p : Int × Int) (q : Nat × Nat) : Int × Int :=
 if (back = true ∨ p.1 < 0) ∧ hitB l s row col back q = true then ((q.1 : Int), (q.2 : Int)) else p
theorem cols_ev {l : List LineT} (s : ByteArray) (H : FindOK l) (row col : Int) (back : Bool) (r : Nat) (hr : r < l.length) (v : Int × Int) : ∀ m c (p : Int × Int), c + m = lenAt l r →
  Ev (fun k => backseatref10_Find.l0 k l s row col back ((r + 1 : Nat) : Int) (((List.range' c m).map fun c => (r, c)).foldl (stepR l s row col back) p).1 (((List.range' c m).map fun c => (r, c)).foldl (stepR l s row col back) p).2) v →
  Ev (fun k => backseatref10_Find.l1 k l s row col back (r : Nat) (c : Nat) p.1 p.2) v
 | 0, c, p, hc, h => by
  have hw := w64 r (by have := H.len; omega)
  have hx : ¬ (c : Int) < ((rd_T38 l r).f0.length : Int) := by have : lenAt l r = (rd_T38 l r).f0.length := rfl; omega
  refine Ev.succ ?_
  simp only [backseatref10_Find.l1]
  refine Ev.pos (by omega) (Ev.pos (by omega) (Ev.neg hx ?_))
  rw [hw]; exact h
 | m + 1, c, p, hc, h => by
  have hlt : c < lenAt l r := by omega
  have hrow := H.row _ (List.getElem_mem hr)
  have hle := lenAt_eq hr
  have hw := w64 c (by omega)
  have hx : (c : Int) < ((rd_T38 l r).f0.length : Int) := by have : lenAt l r = (rd_T38 l r).f0.length := rfl; omega
  have hst := stands_ev s H (r, c) hr hlt
  have ih := cols_ev s H row col back r hr v m (c + 1) (stepR l s row col back p (r, c)) (by omega) h
  refine Ev.succ ?_
  simp only [backseatref10_Find.l1]
  refine Ev.pos (by omega) (Ev.pos (by omega) (Ev.pos hx (Ev.bind hst ?_)))
  cases hs : standB l s (r, c)
  ·refine Ev.neg (by decide) ?_
   have e : stepR l s row col back p (r, c) = p := by unfold stepR hitB; rw [hs, Bool.and_false, if_neg (by simp)]
   rw [hw]; rw [e] at ih; exact ih
  ·refine Ev.pos rfl ?_
   cases back with
   | true =>
    refine Ev.pos rfl (Ev.bind (Ev.of (beh_f _ _ _ _)) (Ev.succ ?_))
    simp only [backseatref10_Find.j2]
    cases hb : behB row col (r : Nat) (c : Nat)
    ·have e : stepR l s row col true p (r, c) = p := by unfold stepR hitB; simp [hb]
     refine Ev.neg (by decide) (Ev.pos trivial ?_)
     rw [hw]; rw [e] at ih; exact ih
    ·have e : stepR l s row col true p (r, c) = ((r : Int), (c : Int)) := by unfold stepR hitB; simp [hb, hs]
     refine Ev.pos rfl (Ev.pos trivial ?_)
     rw [hw]; rw [e] at ih; exact ih
   | false =>
    refine Ev.neg (by decide) (Ev.succ ?_)
    simp only [backseatref10_Find.j2]
    refine Ev.neg (by decide) (Ev.neg (by decide) ?_)
    by_cases hp : p.1 < 0
    ·refine Ev.pos hp (Ev.bind (Ev.of (beh_f _ _ _ _)) ?_)
     cases hb : behB (r : Nat) (c : Nat) row col
     ·have e : stepR l s row col false p (r, c) = p := by unfold stepR hitB; simp [hb]
      refine Ev.neg (by decide) ?_
      rw [hw]; rw [e] at ih; exact ih
     ·have e : stepR l s row col false p (r, c) = ((r : Int), (c : Int)) := by unfold stepR hitB; simp [hb, hs, hp]
      refine Ev.pos rfl ?_
      rw [hw]; rw [e] at ih; exact ih
    ·have e : stepR l s row col false p (r, c) = p := by unfold stepR; rw [if_neg (by simp [hp])]
     refine Ev.neg hp ?_
     rw [hw]; rw [e] at ih; exact ih
def restP (l : List LineT) (r n : Nat) : List (Nat × Nat) := (List.range' r n).flatMap fun r => (List.range' 0 (lenAt l r)).map fun c => (r, c)
theorem rows_ev {l : List LineT} (s : ByteArray) (H : FindOK l) (row col : Int) (back : Bool) : ∀ n r (p : Int × Int), r + n = l.length →
  Ev (fun k => backseatref10_Find.l0 k l s row col back (r : Nat) p.1 p.2) ((restP l r n).foldl (stepR l s row col back) p)
 | 0, r, p, hr => Ev.succ (by simp only [backseatref10_Find.l0]; exact Ev.neg (by omega) (Ev.ret _))
 | n + 1, r, p, hr => by
  refine Ev.succ ?_
  simp only [backseatref10_Find.l0]
  refine Ev.pos (by omega) ?_
  have ih := rows_ev s H row col back n (r + 1) (((List.range' 0 (lenAt l r)).map fun c => (r, c)).foldl (stepR l s row col back) p) (by omega)
  have e : restP l r (n + 1) = ((List.range' 0 (lenAt l r)).map fun c => (r, c)) ++ restP l (r + 1) n := by
   unfold restP; rw [List.range'_succ, List.flatMap_cons]
  rw [e, List.foldl_append]
  exact cols_ev s H row col back r (by omega) _ (lenAt l r) 0 p (by omega) ih
theorem plc_false (l : List LineT) : plc l false = restP l 0 l.length := by
 unfold plc restP
 rw [List.range_eq_range']
 congr 1
 funext i
 unfold plcRow atB
 rw [List.range_eq_range']; rfl
theorem rev_range (n : Nat) : (List.range n).reverse = (List.range n).map fun i => n - 1 - i := by
 refine List.ext_getElem (by simp) (fun i h1 h2 => ?_)
 simp at h1 ⊢
theorem plc_true (l : List LineT) : plc l true = (plc l false).reverse := by
 unfold plc
 rw [List.reverse_flatMap, rev_range, List.flatMap_map]
 congr 1
 funext i
 unfold plcRow atB
 simp only [Function.comp, if_true, Bool.false_eq_true, if_false]
 rw [← List.map_reverse, rev_range, List.map_map]; rfl
theorem plc_mem {l : List LineT} {back : Bool} {p : Nat × Nat} (h : p ∈ plc l back) : p.1 < l.length ∧ p.2 < lenAt l p.1 := by
 unfold plc at h
 obtain ⟨i, hi, h⟩ := List.mem_flatMap.1 h
 unfold plcRow at h
 obtain ⟨k, hk, rfl⟩ := List.mem_map.1 h
 exact ⟨atB_lt (List.mem_range.1 hi), atB_lt (List.mem_range.1 hk)⟩
theorem fold_false (l : List LineT) (s : ByteArray) (row col : Int) : ∀ (ps : List (Nat × Nat)) (p : Int × Int),
  ps.foldl (stepR l s row col false) p = if p.1 < 0 then (match ps.find? (hitB l s row col false) with | some q => ((q.1 : Int), (q.2 : Int)) | none => p) else p
 | [], p => by simp
 | q :: t, p => by
  rw [List.foldl_cons, fold_false l s row col t, List.find?_cons]
  by_cases hp : p.1 < 0
  ·cases hq : hitB l s row col false q
   ·have e : stepR l s row col false p q = p := by unfold stepR; simp [hq]
    rw [e]
   ·have e : stepR l s row col false p q = ((q.1 : Int), (q.2 : Int)) := by unfold stepR; simp [hq, hp]
    rw [e, if_neg (by simp only; omega), if_pos hp]
  ·have e : stepR l s row col false p q = p := by unfold stepR; simp [hp]
   rw [e, if_neg hp, if_neg hp]
theorem fold_true (l : List LineT) (s : ByteArray) (row col : Int) : ∀ (ps : List (Nat × Nat)) (p : Int × Int),
  ps.foldl (stepR l s row col true) p = match ps.reverse.find? (hitB l s row col true) with | some q => ((q.1 : Int), (q.2 : Int)) | none => p
 | [], p => by simp
 | q :: t, p => by
  rw [List.foldl_cons, fold_true l s row col t, List.reverse_cons, List.find?_append]
  cases hf : t.reverse.find? (hitB l s row col true) with
  | some x => simp
  | none =>
   cases hq : hitB l s row col true q
   ·simp [stepR, hq]
   ·simp [stepR, hq]
def foundR (l : List LineT) (s : ByteArray) (row col : Int) (back : Bool) : Int × Int :=
 match (plc l back).find? (hitB l s row col back) with | some q => ((q.1 : Int), (q.2 : Int)) | none => (-1, 0)
theorem ref_find_ev {l : List LineT} (s : ByteArray) (H : FindOK l) (row col : Int) (back : Bool) : Ev (fun k => backseatref10_Find.f k l s row col back) (foundR l s row col back) := by
 have h := rows_ev s H row col back l.length 0 (-1, 0) (by omega)
 rw [← plc_false] at h
 unfold backseatref10_Find.f foundR
 cases back with
 | false => rw [fold_false, if_pos (by decide)] at h; exact h
 | true => rw [fold_true, ← plc_true] at h; exact h
theorem seek_is {l : List LineT} (s : ByteArray) (H : FindOK l) (row col : Int) (back : Bool) : seekO l s row col (sideB back) (plc l back) = some (if (foundR l s row col back).1 < 0 then (0, 0, 5) else ((foundR l s row col back).1, (foundR l s row col back).2, 0)) := by
 rw [seek_find s H row col back _ (fun p hp => plc_mem hp)]
 unfold foundR
 cases (plc l back).find? (hitB l s row col back) with
 | none => rfl
 | some q => simp only; rw [if_neg (by omega)]
end Go.Proofs.YtckkdaehmccjlaaDoor.P
