/- Texts of this session put together by a program, part 0: Aids, Shelf, Px0, Tabs, Reads, Px24, Px37, Px38, Px42, Px43, Px1, Px44, Px45, Px22, Px16, Px17, Px19, Px20, Px21, Px18, RowB, Begins, Px57. -/
import Derived.Test.YtckkdaehmccjlaaDoorWMore
import Derived.Shelf.Strings.Builder1
import Derived.Shelf.Strings.Builder2
import Derived.Shelf.Strings.OnBuilder
import Derived.Shelf.Strings.Trim
import Derived.Shelf.Small.Utf8
import Derived.Shelf.Small.Strs
import Derived.Shelf.Small.Wraps
import Derived.Shelf.Strings.BuilderF
import Derived.Shelf.Strings.BuilderK
import Derived.Shelf.Strings.Search1
import Derived.Shelf.Strings.Prefix
import Derived.Shelf.Strings.Runes
import Derived.Shelf.Strings.AsciiSet
import Derived.Shelf.Bits.Mul64
import Derived.Shelf.Unicode.DecodeSlow
import Derived.Shelf.Unicode.DecodeAny
import Derived.Test.YtckkdaehmccjlaaDoorProg
import Derived.Below
import Derived.Deep.Draws
import Derived.Deep.AppendLies
import Derived.Maps.AppendAt
import Derived.OwnWalk
import Derived.Laws.BytesArg
import Derived.Laws.MakeOwn
import Derived.Laws.OwnMore
import Derived.Deep.OwnRows
import Derived.Tactics
import Derived.Lib.ConvBytes
import Derived.Laws.Slices
import Derived.WalkKit
import Derived.KernelRfl
import Derived.RowKit3
import Derived.Deep.LoopGhost
import Derived.Deep.QuietTactic
import Derived.BigQuiet
import Derived.WideLaws
import Derived.Deep.DeepCutAuto
import Derived.Deep.CutBlock
import Derived.Deep.RegionHeld3
import Derived.Laws.Rows
import Derived.Lib.AppendStr
import Derived.ArgAppend
import Derived.Laws.IdiomCopy
import Derived.OrdersHeld
import Derived.Laws.BitsLemmas
import Derived.RowKit
import Derived.Test.YtckkdaehmccjlaaDoorWWords
import Derived.Test.YtckkdaehmccjlaaDoorWLast
import Derived.Test.YtckkdaehmccjlaaDoorWTab
import Derived.Test.YtckkdaehmccjlaaDoorWQPut
import Derived.Test.YtckkdaehmccjlaaDoorWApart
import Derived.Test.YtckkdaehmccjlaaDoorWArr
import Derived.Test.YtckkdaehmccjlaaDoorWZeros
import Derived.Test.YtckkdaehmccjlaaDoorWFoot
import Derived.Test.YtckkdaehmccjlaaDoorWKept
import Derived.Test.YtckkdaehmccjlaaDoorWShare
import Derived.Test.YtckkdaehmccjlaaDoorWN
import Derived.Test.YtckkdaehmccjlaaDoorWEqStruct
import Derived.Test.YtckkdaehmccjlaaDoorWRepsOne
import Derived.Test.YtckkdaehmccjlaaDoorWGuard
import Derived.Test.YtckkdaehmccjlaaDoorWNEv
import Derived.ProofKit
import Derived.OpenShut
import Derived.ShutString
import Derived.ChangeArms
import Derived.ChangeSame
import Derived.Deep.Slices
import Derived.Deep.Strs
import Derived.Lib.SliceRun
namespace Go.Proofs.YtckkdaehmccjlaaDoor.P
open Go.RowKit Go.Proofs.YtckkdaehmccjlaaDoorW.PrintWords Go.Proofs.YtckkdaehmccjlaaDoorW.PrintLast Go.Proofs.YtckkdaehmccjlaaDoorW.PrintMore
set_option linter.unusedVariables false
theorem zb {b : Nat} {w W : World} (h : Below b w W := by repeat first | (with_reducible first | exact HB.out | apply below_alloc | apply pw_below_drewN | apply below_drew1 | refine below_set ?_ (Aside0.out (by with_reducible assumption))) | exact HB.out) : Below b w W := h
theorem zg {b g : Nat} {w W : World} (hg : g = W.heap.size) (h : Below b w W := by repeat first | (with_reducible first | exact HB.out | apply below_alloc | apply pw_below_drewN | apply below_drew1 | refine below_set ?_ (Aside0.out (by with_reducible assumption))) | exact HB.out) : w.heap.size ≤ g := hg ▸ h.size
theorem zs {w w0 W W1 : World} (H : Aside0 (Below w.heap.size w w0)) (hb : Below W.heap.size W W1) (h : Below w.heap.size w W := by repeat first | (with_reducible first | exact HB.out | apply below_alloc | apply pw_below_drewN | apply below_drew1 | refine below_set ?_ (Aside0.out (by with_reducible assumption))) | exact HB.out) : Aside0 (Below w.heap.size w W1) := ⟨below_step h hb⟩
theorem zk {w W W1 : World} {g : Nat} {o : Obj} (H : Aside0 (w.heap[g]? = some o)) (hb : Below W.heap.size W W1) (h : w.heap[g]? = some o → W.heap[g]? = some o := by (intro h; exact h)) : Aside0 (W1.heap[g]? = some o) := ⟨blk_below (h H.out) hb⟩
theorem zR {α : Type} {d : Kd α} {e base : Nat} {w W W1 : World} {ok : Nat → Prop} {v : Value} {xs : List α} (H : Aside0 (d.R e w base ok v xs)) (hb : Below W.heap.size W W1) (h : d.R e w base ok v xs → d.R e W base ok v xs := by (intro h; (with_reducible repeat (first | apply Kd.R_alloc | apply Kd.R_drewN | apply Kd.R_drew)); exact h)) : Aside0 (d.R e W1 base ok v xs) := ⟨Kd.R_below (h H.out) hb⟩
theorem zS {α : Type} {d : Kd α} {e base : Nat} {w W W1 : World} {ok : Nat → Prop} {v : Value} {xs : List α} (H : Aside0 (Kd.S d e w base ok v xs)) (hb : Below W.heap.size W W1) (h : Kd.S d e w base ok v xs → Kd.S d e W base ok v xs := by (intro h; (with_reducible repeat (first | apply Kd.S_alloc | apply Kd.S_drewN | apply Kd.S_drew)); exact h)) : Aside0 (Kd.S d e W1 base ok v xs) := ⟨Kd.S_below (h H.out) hb⟩
theorem zN {α : Type} {d : Kd α} {e base : Nat} {w W W1 : World} {ok : Nat → Prop} {v : Value} {xs : List α} (H : Aside0 (Kd.N d e w base ok v xs)) (hb : Below W.heap.size W W1) (h : Kd.N d e w base ok v xs → Kd.N d e W base ok v xs := by (intro h; (with_reducible repeat (first | apply Kd.N_alloc | apply Kd.N_drewN | apply Kd.N_drew)); exact h)) : Aside0 (Kd.N d e W1 base ok v xs) := ⟨Kd.N_below (h H.out) hb⟩
theorem zQ {α : Type} {d : Kd α} {e base : Nat} {w W W1 : World} {ok : Nat → Prop} {v : Value} {xs : List α} (H : Aside0 (d.Q e w base ok v xs)) (hb : Below W.heap.size W W1) (h : d.Q e w base ok v xs → d.Q e W base ok v xs := by (intro h; (with_reducible repeat (first | apply Kd.Q_alloc | apply Kd.Q_drewN | apply Kd.Q_drew)); exact h)) : Aside0 (d.Q e W1 base ok v xs) := ⟨Kd.Q_below (h H.out) hb⟩
theorem zRa {α : Type} {d : Kd α} {e base : Nat} {w W : World} {ok : Nat → Prop} {v : Value} {xs : List α} (H : Aside0 (d.R e w base ok v xs)) (h : d.R e w base ok v xs → d.R e W base ok v xs := by (intro h; (with_reducible repeat (first | apply Kd.R_alloc | apply Kd.R_drewN | apply Kd.R_drew)); exact h)) : d.R e W base ok v xs := h H.out
theorem zSa {α : Type} {d : Kd α} {e base : Nat} {w W : World} {ok : Nat → Prop} {v : Value} {xs : List α} (H : Aside0 (Kd.S d e w base ok v xs)) (h : Kd.S d e w base ok v xs → Kd.S d e W base ok v xs := by (intro h; (with_reducible repeat (first | apply Kd.S_alloc | apply Kd.S_drewN | apply Kd.S_drew)); exact h)) : Kd.S d e W base ok v xs := h H.out
theorem zNa {α : Type} {d : Kd α} {e base : Nat} {w W : World} {ok : Nat → Prop} {v : Value} {xs : List α} (H : Aside0 (Kd.N d e w base ok v xs)) (h : Kd.N d e w base ok v xs → Kd.N d e W base ok v xs := by (intro h; (with_reducible repeat (first | apply Kd.N_alloc | apply Kd.N_drewN | apply Kd.N_drew)); exact h)) : Kd.N d e W base ok v xs := h H.out
theorem zQa {α : Type} {d : Kd α} {e base : Nat} {w W : World} {ok : Nat → Prop} {v : Value} {xs : List α} (H : Aside0 (d.Q e w base ok v xs)) (h : d.Q e w base ok v xs → d.Q e W base ok v xs := by (intro h; (with_reducible repeat (first | apply Kd.Q_alloc | apply Kd.Q_drewN | apply Kd.Q_drew)); exact h)) : d.Q e W base ok v xs := h H.out
theorem zl {p : Prop} (h : p := by (try simp only [List.map_toArray, List.map_cons, List.map_nil]); first | done | rfl | (simp only [List.length_drop, List.length_take]; rfl)) : p := h
theorem za {p : Prop} (h : p := by first | (with_reducible assumption) | assumption) : p := h
theorem zf {p : Prop} (h : p := by first | rfl | (simp; done) | (simp [*]; done)) : p := h
theorem ze {p : Prop} (h : p := by first | rfl | (simp [errW_none, errW_some] <;> rfl) | (simp [*, errW_none, errW_some] <;> rfl)) : p := h
theorem zm {p : Prop} (h : p := by simp only [List.map_toArray, List.map_cons, List.map_nil]; rfl) : p := h
theorem zr {p : Prop} (h : p := by (simp only [Act.put, List.setIfInBounds_toArray, List.set_cons_zero, List.set_cons_succ, i64_w, i32_w]; rfl)) : p := h
theorem zo {p : Prop} (h : p := by first | (go_simp; done) | (go_simp; rfl)) : p := h
theorem zc {w W : World} {a : Addr} {v : Value} (H : Aside0 (Below w.heap.size w W)) (h : w.cell? a = some v) : W.cell? a = some v := (H.out.cell (World.block_lt_of_cell? w _ h)).trans h
section
variable {w w0 : World} {g : Nat} {t : TypeId} {a b c d e f k : Value}
theorem zq1 (H : Aside0 (w0.heap[g]? = some (.cells #[a] t (0, 0)))) (h : w0.heap[g]? = some (.cells #[a] t (0, 0)) → w.heap[g]? = some (.cells #[a] t (0, 0)) := by exact id) : w.cell? ⟨g, 0, none⟩ = some a ∧ w.frozen? ⟨g, 0, none⟩ = false := ⟨blk_cell (h H.out) 0, blk_frozen (h H.out) 0⟩
theorem zq2 (H : Aside0 (w0.heap[g]? = some (.cells #[a, b] t (0, 0)))) (h : w0.heap[g]? = some (.cells #[a, b] t (0, 0)) → w.heap[g]? = some (.cells #[a, b] t (0, 0)) := by exact id) : w.cell? ⟨g, 0, none⟩ = some a ∧ w.cell? ⟨g, 1, none⟩ = some b ∧ w.frozen? ⟨g, 0, none⟩ = false ∧ w.frozen? ⟨g, 1, none⟩ = false := ⟨blk_cell (h H.out) 0, blk_cell (h H.out) 1, blk_frozen (h H.out) 0, blk_frozen (h H.out) 1⟩
theorem zq3 (H : Aside0 (w0.heap[g]? = some (.cells #[a, b, c] t (0, 0)))) (h : w0.heap[g]? = some (.cells #[a, b, c] t (0, 0)) → w.heap[g]? = some (.cells #[a, b, c] t (0, 0)) := by exact id) : w.cell? ⟨g, 0, none⟩ = some a ∧ w.cell? ⟨g, 1, none⟩ = some b ∧ w.cell? ⟨g, 2, none⟩ = some c ∧ w.frozen? ⟨g, 0, none⟩ = false ∧ w.frozen? ⟨g, 1, none⟩ = false ∧ w.frozen? ⟨g, 2, none⟩ = false := ⟨blk_cell (h H.out) 0, blk_cell (h H.out) 1, blk_cell (h H.out) 2, blk_frozen (h H.out) 0, blk_frozen (h H.out) 1, blk_frozen (h H.out) 2⟩
theorem zq4 (H : Aside0 (w0.heap[g]? = some (.cells #[a, b, c, d] t (0, 0)))) (h : w0.heap[g]? = some (.cells #[a, b, c, d] t (0, 0)) → w.heap[g]? = some (.cells #[a, b, c, d] t (0, 0)) := by exact id) : w.cell? ⟨g, 0, none⟩ = some a ∧ w.cell? ⟨g, 1, none⟩ = some b ∧ w.cell? ⟨g, 2, none⟩ = some c ∧ w.cell? ⟨g, 3, none⟩ = some d ∧ w.frozen? ⟨g, 0, none⟩ = false ∧ w.frozen? ⟨g, 1, none⟩ = false ∧ w.frozen? ⟨g, 2, none⟩ = false ∧ w.frozen? ⟨g, 3, none⟩ = false := ⟨blk_cell (h H.out) 0, blk_cell (h H.out) 1, blk_cell (h H.out) 2, blk_cell (h H.out) 3, blk_frozen (h H.out) 0, blk_frozen (h H.out) 1, blk_frozen (h H.out) 2, blk_frozen (h H.out) 3⟩
theorem zq5 (H : Aside0 (w0.heap[g]? = some (.cells #[a, b, c, d, e] t (0, 0)))) (h : w0.heap[g]? = some (.cells #[a, b, c, d, e] t (0, 0)) → w.heap[g]? = some (.cells #[a, b, c, d, e] t (0, 0)) := by exact id) : w.cell? ⟨g, 0, none⟩ = some a ∧ w.cell? ⟨g, 1, none⟩ = some b ∧ w.cell? ⟨g, 2, none⟩ = some c ∧ w.cell? ⟨g, 3, none⟩ = some d ∧ w.cell? ⟨g, 4, none⟩ = some e ∧ w.frozen? ⟨g, 0, none⟩ = false ∧ w.frozen? ⟨g, 1, none⟩ = false ∧ w.frozen? ⟨g, 2, none⟩ = false ∧ w.frozen? ⟨g, 3, none⟩ = false ∧ w.frozen? ⟨g, 4, none⟩ = false := ⟨blk_cell (h H.out) 0, blk_cell (h H.out) 1, blk_cell (h H.out) 2, blk_cell (h H.out) 3, blk_cell (h H.out) 4, blk_frozen (h H.out) 0, blk_frozen (h H.out) 1, blk_frozen (h H.out) 2, blk_frozen (h H.out) 3, blk_frozen (h H.out) 4⟩
end
end Go.Proofs.YtckkdaehmccjlaaDoor.P
namespace Go.Proofs
open Go.Shelf
def Tryd.lays169_ren : Go.Shelf.Ren := ⟨fun | 169 => 48 | n => n, fun | 70 => 74 | 9 => 9 | 0 => 0 | 72 => 77 | 37 => 75 | 127 => 103 | 3 => 3 | 5 => 5 | n => n, fun | n => n⟩
theorem Tryd.lays169 : Go.Proofs.Lays.n169 Tryd.prog Tryd.lays169_ren := {
 mixed := by kernel_rfl
 f169 := Tryd.func48.trans (congrArg some (by kernel_rfl))
 t0 := Tryd.underlying0
 a0 := Tryd.isAgg0
 z0 := Tryd.sizeOf0
 v0 := Tryd.zeroValue0
 t3 := Tryd.underlying3
 a3 := Tryd.isAgg3
 z3 := Tryd.sizeOf3
 v3 := Tryd.zeroValue3
 t9 := Tryd.underlying9
 a9 := Tryd.isAgg9
 z9 := Tryd.sizeOf9
 v9 := Tryd.zeroValue9
 t37 := Tryd.underlying75
 a37 := Tryd.isAgg75
 z37 := Tryd.sizeOf75
 v37 := Tryd.zeroValue75
 t70 := Tryd.underlying74
 a70 := Tryd.isAgg74
 z70 := Tryd.sizeOf74
 v70 := Tryd.zeroValue74
 t72 := Tryd.underlying77
 a72 := Tryd.isAgg77
 z72 := Tryd.sizeOf77
 v72 := Tryd.zeroValue77
 t127 := Tryd.underlying103
 a127 := Tryd.isAgg103
 z127 := Tryd.sizeOf103
 v127 := Tryd.zeroValue103 }
theorem Tryd.Builder_Extra_169 : Builder.Extra Tryd.prog Tryd.lays169_ren := {
 sizeBuilder := by kernel_rfl
 liesBuilder := by kernel_rfl
 t5 := Tryd.underlying5
 a5 := Tryd.isAgg5
 z5 := Tryd.sizeOf5
 v5 := Tryd.zeroValue5
 infoByte := by kernel_rfl
 cellsByte := by kernel_rfl
 sizeByte := by kernel_rfl
 neB5 := by decide }
def Tryd.lays119_ren : Go.Shelf.Ren := ⟨fun | 119 => 104 | n => n, fun | 21 => 21 | 4 => 4 | n => n, fun | n => n⟩
theorem Tryd.lays119 : Go.Proofs.Lays.n119 Tryd.prog Tryd.lays119_ren := {
 mixed := by kernel_rfl
 f119 := Tryd.func104.trans (congrArg some (by kernel_rfl))
 t4 := Tryd.underlying4
 a4 := Tryd.isAgg4
 z4 := Tryd.sizeOf4
 v4 := Tryd.zeroValue4
 t21 := Tryd.underlying21
 a21 := Tryd.isAgg21
 z21 := Tryd.sizeOf21
 v21 := Tryd.zeroValue21 }
theorem Tryd.utf8_ValidRune (r : Int) (w : World) :
  Calls Tryd.prog 104 #[.int .i32 r] w fun e w' => e = .returned (.bool (Lib.validRune r)) ∧ w' = w := Any.utf8_ValidRune Tryd.lays119 r w
open Go.RowKit in
theorem Tryd.Builder_String_any_k (B b : Nat) (l : List UInt8) (w : World) (h : Lib.IsBuilderF 77 5 B b (Lib.byteCells l) w) (hBw : B ≤ w.heap.size) :
  Calls Tryd.prog 48 #[.pointer (some ⟨b, 0, none⟩)] w fun e w' => e = .returned (.string ⟨l.toArray⟩) ∧ (Lib.IsBuilderF 77 5 B b (Lib.byteCells l) w' ∧ Below B w w' ∧ Lib.OthersKept 5 (some b) w w') := Any.Builder_String_any_k Tryd.lays169 Tryd.Builder_Extra_169 B b l w h hBw
def Tryd.lays212_ren : Go.Shelf.Ren := ⟨fun | 212 => 108 | 263 => 116 | 264 => 117 | n => n, fun | 46 => 139 | 51 => 153 | 146 => 154 | 53 => 156 | 148 => 157 | n => n, fun | n => n⟩
theorem Tryd.lays212 : Go.Proofs.Lays.n212 Tryd.prog Tryd.lays212_ren := {
 mixed := by kernel_rfl
 f212 := Tryd.func108.trans (congrArg some (by kernel_rfl))
 f263 := Tryd.func116.trans (congrArg some (by kernel_rfl))
 f264 := Tryd.func117.trans (congrArg some (by kernel_rfl))
 t46 := Tryd.underlying139
 a46 := Tryd.isAgg139
 z46 := Tryd.sizeOf139
 v46 := Tryd.zeroValue139
 t51 := Tryd.underlying153
 a51 := Tryd.isAgg153
 z51 := Tryd.sizeOf153
 v51 := Tryd.zeroValue153
 t53 := Tryd.underlying156
 a53 := Tryd.isAgg156
 z53 := Tryd.sizeOf156
 v53 := Tryd.zeroValue156
 t146 := Tryd.underlying154
 a146 := Tryd.isAgg154
 z146 := Tryd.sizeOf154
 v146 := Tryd.zeroValue154
 t148 := Tryd.underlying157
 a148 := Tryd.isAgg157
 z148 := Tryd.sizeOf157
 v148 := Tryd.zeroValue157 }
open Go.RowKit Go.Lib in
theorem Tryd.bits_Mul (x y : Nat) (hx : x < 18446744073709551616) (hy : y < 18446744073709551616) (w : World) :
  Calls Tryd.prog 108 #[.int .u64 x, .int .u64 y] w fun e w' => e = .returned (.tuple #[.int .u64 ((x * y / 18446744073709551616 : Nat) : Int), .int .u64 ((x * y % 18446744073709551616 : Nat) : Int)]) ∧ w' = w := Any.bits_Mul Tryd.lays212 x y hx hy w
def Tryd.lays197_ren : Go.Shelf.Ren := ⟨fun | 197 => 103 | 260 => 113 | n => n, fun | 9 => 9 | 21 => 21 | 3 => 3 | 4 => 4 | 5 => 5 | 105 => 134 | 119 => 146 | 0 => 0 | 46 => 139 | 139 => 149 | 138 => 148 | n => n, fun | 3 => 0 | 4 => 1 | n => n⟩
theorem Tryd.lays197 : Go.Proofs.Lays.n197 Tryd.prog Tryd.lays197_ren := {
 mixed := by kernel_rfl
 f197 := Tryd.func103.trans (congrArg some (by kernel_rfl))
 f260 := Tryd.func113.trans (congrArg some (by kernel_rfl))
 t0 := Tryd.underlying0
 a0 := Tryd.isAgg0
 z0 := Tryd.sizeOf0
 v0 := Tryd.zeroValue0
 t3 := Tryd.underlying3
 a3 := Tryd.isAgg3
 z3 := Tryd.sizeOf3
 v3 := Tryd.zeroValue3
 t4 := Tryd.underlying4
 a4 := Tryd.isAgg4
 z4 := Tryd.sizeOf4
 v4 := Tryd.zeroValue4
 t5 := Tryd.underlying5
 a5 := Tryd.isAgg5
 z5 := Tryd.sizeOf5
 v5 := Tryd.zeroValue5
 t9 := Tryd.underlying9
 a9 := Tryd.isAgg9
 z9 := Tryd.sizeOf9
 v9 := Tryd.zeroValue9
 t21 := Tryd.underlying21
 a21 := Tryd.isAgg21
 z21 := Tryd.sizeOf21
 v21 := Tryd.zeroValue21
 t46 := Tryd.underlying139
 a46 := Tryd.isAgg139
 z46 := Tryd.sizeOf139
 v46 := Tryd.zeroValue139
 t105 := Tryd.underlying134
 a105 := Tryd.isAgg134
 z105 := Tryd.sizeOf134
 v105 := Tryd.zeroValue134
 t119 := Tryd.underlying146
 a119 := Tryd.isAgg146
 z119 := Tryd.sizeOf146
 t138 := Tryd.underlying148
 a138 := Tryd.isAgg148
 z138 := Tryd.sizeOf148
 v138 := Tryd.zeroValue148
 t139 := Tryd.underlying149
 a139 := Tryd.isAgg149
 z139 := Tryd.sizeOf149
 v139 := Tryd.zeroValue149
 g3 := by kernel_rfl
 g4 := by kernel_rfl }
open Go.RowKit Go.Lib in
theorem Tryd.utf8_DecodeRuneInString (s : ByteArray) (w : World) (hT : Lib.Utf8Tabs 0 1 w) :
  Calls Tryd.prog 103 #[.string s] w fun e w' => e = .returned (.tuple #[.int .i32 (Lib.decodeGo s).1, .int .i64 (Lib.decodeGo s).2]) ∧ Below w.heap.size w w' := Any.utf8_DecodeRuneInString Tryd.lays197 s w hT
end Go.Proofs
namespace Go.Proofs.YtckkdaehmccjlaaDoor.P
open Go.RowKit Go.Proofs.YtckkdaehmccjlaaDoorW.PrintWords Go.Proofs.YtckkdaehmccjlaaDoorW.PrintLast Go.Proofs.YtckkdaehmccjlaaDoorW.PrintMore
attribute [local go_sem] max2_int min2_int max_two min_two max_three min_three max_four min_four   -- for this text's walks alone
set_option linter.unusedVariables false
set_option linter.unusedSimpArgs false
def errW : Option Int → Value
 | none => .nilIface
 | some c => .iface 0 (.int .i64 c)
theorem errW_none : errW none = .nilIface := rfl
theorem errW_some (c : Int) : errW (some c) = .iface 0 (.int .i64 c) := rfl
theorem info3 : (Tryd.prog.info? 3).map (fun i => (i.zero, i.size, i.bytes)) = some (some (.int .i64 0), 1, 8) := by kernel_rfl
theorem info9 : (Tryd.prog.info? 9).map (fun i => (i.zero, i.size, i.bytes)) = some (some (.string ⟨#[]⟩), 1, 16) := by kernel_rfl
theorem info36 : (Tryd.prog.info? 36).map (fun i => (i.zero, i.size, i.bytes)) = some (some (.slice none 0 0), 1, 24) := by kernel_rfl
theorem info38 : (Tryd.prog.info? 38).map (fun i => (i.zero, i.size, i.bytes)) = some (some (.agg #[(.slice none 0 0), (.bool false)]), 2, 32) := by kernel_rfl
theorem info60 : (Tryd.prog.info? 60).map (fun i => (i.zero, i.size, i.bytes)) = some (some (.agg #[(.string ⟨#[]⟩), (.int .i64 0), (.int .i64 0), (.int .i64 0), (.int .i64 0)]), 5, 48) := by kernel_rfl
structure S58 where
 f0 : Int
 f1 : Int
 f2 : Int
def z58 : S58 := ⟨(0 : Int), (0 : Int), (0 : Int)⟩
def k58 : Kd S58 := Kd.iso (Kd.pair (Kd.int .i64) (Kd.pair (Kd.int .i64) (Kd.int .i64))) (fun x : S58 => (x.f0, x.f1, x.f2))
theorem k58_open {w : World} {x : S58} {cs : List Value} (h : k58.K w x cs) : cs = [.int .i64 x.f0, .int .i64 x.f1, .int .i64 x.f2] := by
 obtain ⟨_, _, rfl, rfl, ⟨_, _, rfl, rfl, rfl⟩⟩ := h
 exact rfl
theorem k58_openM {w : World} {base : Nat} {ok : Nat → Prop} {x : S58} {cs : List Value} (h : k58.M w base ok x cs) : cs = [.int .i64 x.f0, .int .i64 x.f1, .int .i64 x.f2] := by
 obtain ⟨_, _, rfl, rfl, ⟨_, _, rfl, rfl, rfl⟩⟩ := h
 exact rfl
theorem k58_mk (w : World) (x : S58)  : k58.K w x [.int .i64 x.f0, .int .i64 x.f1, .int .i64 x.f2] := ⟨[.int .i64 x.f0], [.int .i64 x.f1, .int .i64 x.f2], rfl, rfl, ⟨[.int .i64 x.f1], [.int .i64 x.f2], rfl, rfl, rfl⟩⟩
theorem k58_mkM (w : World) (base : Nat) (ok : Nat → Prop) (x : S58)  : k58.M w base ok x [.int .i64 x.f0, .int .i64 x.f1, .int .i64 x.f2] := ⟨[.int .i64 x.f0], [.int .i64 x.f1, .int .i64 x.f2], rfl, rfl, ⟨[.int .i64 x.f1], [.int .i64 x.f2], rfl, rfl, rfl⟩⟩
theorem k58_mkF (W : World) (ok : Nat → Prop) (x : S58) : Kd.FK k58 W ok x [.int .i64 x.f0, .int .i64 x.f1, .int .i64 x.f2] := fun W2 _ => k58_mk W2 x
def rd_T58 (xs : List S58) (i : Int) : S58 := xs.getD i.toNat z58
theorem at_T58 {w : World} {A : Option Addr} {n : Nat} {xs : List S58} (h : Kd.C k58 w A n xs) (i : Int) (h0 : 0 ≤ i) (h1 : i < n) : ∃ ad , A = some ad ∧ w.cell? (ad.add (i.toNat * 3)) = some (.int .i64 (rd_T58 xs i).f0) ∧ w.cell? ⟨(ad.add (i.toNat * 3)).block, (ad.add (i.toNat * 3)).off + 1, none⟩ = some (.int .i64 (rd_T58 xs i).f1) ∧ w.cell? ⟨(ad.add (i.toNat * 3)).block, (ad.add (i.toNat * 3)).off + 2, none⟩ = some (.int .i64 (rd_T58 xs i).f2) := by
 obtain ⟨ad, c, e, _, hK, hc0⟩ := Kd.C_get h z58 i h0 h1
 have hc : ∀ j u, c[j]? = some u → w.cell? (ad.add (i.toNat * 3 + j)) = some u := hc0
 obtain rfl := k58_open hK
 exact ⟨ad, e, hc 0 _ rfl, by rw [← add_field _ _ 1 (by omega)]; exact hc 1 _ rfl, by rw [← add_field _ _ 2 (by omega)]; exact hc 2 _ rfl⟩
structure S60 where
 f0 : ByteArray
 f1 : Int
 f2 : S58
def z60 : S60 := ⟨(⟨#[]⟩ : ByteArray), (0 : Int), z58⟩
def k60 : Kd S60 := Kd.iso (Kd.pair Kd.string (Kd.pair (Kd.int .i64) k58)) (fun x : S60 => (x.f0, x.f1, x.f2))
theorem k60_open {w : World} {x : S60} {cs : List Value} (h : k60.K w x cs) : cs = [.string x.f0, .int .i64 x.f1, .int .i64 x.f2.f0, .int .i64 x.f2.f1, .int .i64 x.f2.f2] := by
 obtain ⟨_, _, rfl, rfl, ⟨_, _, rfl, rfl, s2⟩⟩ := h
 obtain rfl := k58_open s2
 exact rfl
theorem k60_openM {w : World} {base : Nat} {ok : Nat → Prop} {x : S60} {cs : List Value} (h : k60.M w base ok x cs) : cs = [.string x.f0, .int .i64 x.f1, .int .i64 x.f2.f0, .int .i64 x.f2.f1, .int .i64 x.f2.f2] := by
 obtain ⟨_, _, rfl, rfl, ⟨_, _, rfl, rfl, s2⟩⟩ := h
 obtain rfl := k58_openM s2
 exact rfl
theorem k60_mk (w : World) (x : S60)  : k60.K w x [.string x.f0, .int .i64 x.f1, .int .i64 x.f2.f0, .int .i64 x.f2.f1, .int .i64 x.f2.f2] := ⟨[.string x.f0], [.int .i64 x.f1, .int .i64 x.f2.f0, .int .i64 x.f2.f1, .int .i64 x.f2.f2], rfl, rfl, ⟨[.int .i64 x.f1], [.int .i64 x.f2.f0, .int .i64 x.f2.f1, .int .i64 x.f2.f2], rfl, rfl, (k58_mk w x.f2 )⟩⟩
theorem k60_mkM (w : World) (base : Nat) (ok : Nat → Prop) (x : S60)  : k60.M w base ok x [.string x.f0, .int .i64 x.f1, .int .i64 x.f2.f0, .int .i64 x.f2.f1, .int .i64 x.f2.f2] := ⟨[.string x.f0], [.int .i64 x.f1, .int .i64 x.f2.f0, .int .i64 x.f2.f1, .int .i64 x.f2.f2], rfl, rfl, ⟨[.int .i64 x.f1], [.int .i64 x.f2.f0, .int .i64 x.f2.f1, .int .i64 x.f2.f2], rfl, rfl, (k58_mkM w base ok x.f2 )⟩⟩
theorem k60_mkF (W : World) (ok : Nat → Prop) (x : S60) : Kd.FK k60 W ok x [.string x.f0, .int .i64 x.f1, .int .i64 x.f2.f0, .int .i64 x.f2.f1, .int .i64 x.f2.f2] := fun W2 _ => k60_mk W2 x
def rd_T60 (xs : List S60) (i : Int) : S60 := xs.getD i.toNat z60
theorem at_T60 {w : World} {A : Option Addr} {n : Nat} {xs : List S60} (h : Kd.C k60 w A n xs) (i : Int) (h0 : 0 ≤ i) (h1 : i < n) : ∃ ad , A = some ad ∧ w.cell? (ad.add (i.toNat * 5)) = some (.string (rd_T60 xs i).f0) ∧ w.cell? ⟨(ad.add (i.toNat * 5)).block, (ad.add (i.toNat * 5)).off + 1, none⟩ = some (.int .i64 (rd_T60 xs i).f1) ∧ w.cell? ⟨(ad.add (i.toNat * 5)).block, (ad.add (i.toNat * 5)).off + 2, none⟩ = some (.int .i64 (rd_T60 xs i).f2.f0) ∧ w.cell? ⟨(ad.add (i.toNat * 5)).block, (ad.add (i.toNat * 5)).off + 3, none⟩ = some (.int .i64 (rd_T60 xs i).f2.f1) ∧ w.cell? ⟨(ad.add (i.toNat * 5)).block, (ad.add (i.toNat * 5)).off + 4, none⟩ = some (.int .i64 (rd_T60 xs i).f2.f2) := by
 obtain ⟨ad, c, e, _, hK, hc0⟩ := Kd.C_get h z60 i h0 h1
 have hc : ∀ j u, c[j]? = some u → w.cell? (ad.add (i.toNat * 5 + j)) = some u := hc0
 obtain rfl := k60_open hK
 exact ⟨ad, e, hc 0 _ rfl, by rw [← add_field _ _ 1 (by omega)]; exact hc 1 _ rfl, by rw [← add_field _ _ 2 (by omega)]; exact hc 2 _ rfl, by rw [← add_field _ _ 3 (by omega)]; exact hc 3 _ rfl, by rw [← add_field _ _ 4 (by omega)]; exact hc 4 _ rfl⟩
def rd_L4 (xs : List (List S60)) (i : Int) : (List S60) := xs.getD i.toNat ([] : List S60)
theorem at_L4 {w : World} {A : Option Addr} {n : Nat} {xs : List (List S60)} (h : Kd.C (Kd.slice 60 k60) w A n xs) (i : Int) (h0 : 0 ≤ i) (h1 : i < n) : ∃ ad A0 c0, A = some ad ∧ w.cell? (ad.add i.toNat) = some (.slice A0 (rd_L4 xs i).length c0) ∧ (rd_L4 xs i).length ≤ c0 ∧ k60.C w A0 (rd_L4 xs i).length (rd_L4 xs i) := by
 obtain ⟨ad, c, e, _, hK, hc0⟩ := Kd.C_get h ([] : List S60) i h0 h1
 have hc : ∀ j u, c[j]? = some u → w.cell? (ad.add (i.toNat * 1 + j)) = some u := hc0
 obtain ⟨A0, c0, rfl, l0, g0⟩ := hK
 exact ⟨ad, A0, c0, e, by have hq := hc 0 _ rfl; rwa [Nat.mul_one, Nat.add_zero] at hq, l0, g0⟩
structure S38 where
 f0 : (List S60)
 f1 : Bool
def z38 : S38 := ⟨([] : List S60), false⟩
def k38 : Kd S38 := Kd.iso (Kd.pair (Kd.slice 60 k60) Kd.bool) (fun x : S38 => (x.f0, x.f1))
theorem k38_open {w : World} {x : S38} {cs : List Value} (h : k38.K w x cs) : ∃ A0 c0, cs = [.slice A0 x.f0.length c0, .bool x.f1] ∧ x.f0.length ≤ c0 ∧ k60.C w A0 x.f0.length x.f0 := by
 obtain ⟨_, _, rfl, ⟨A0, c0, rfl, l0, g0⟩, rfl⟩ := h
 exact ⟨A0, c0, rfl, l0, g0⟩
theorem k38_openM {w : World} {base : Nat} {ok : Nat → Prop} {x : S38} {cs : List Value} (h : k38.M w base ok x cs) : ∃ v0, cs = [v0, .bool x.f1] ∧ k60.R 60 w base ok v0 x.f0 := by
 obtain ⟨_, _, rfl, ⟨v0, rfl, g0⟩, rfl⟩ := h
 exact ⟨v0, rfl, g0⟩
theorem k38_mk (w : World) (x : S38) {A0 : Option Addr} {c0 : Nat} (l0 : x.f0.length ≤ c0) (g0 : k60.C w A0 x.f0.length x.f0) : k38.K w x [.slice A0 x.f0.length c0, .bool x.f1] := ⟨[.slice A0 x.f0.length c0], [.bool x.f1], rfl, ⟨A0, c0, rfl, l0, g0⟩, rfl⟩
theorem k38_mkM (w : World) (base : Nat) (ok : Nat → Prop) (x : S38) {v0 : Value} (g0 : k60.R 60 w base ok v0 x.f0) : k38.M w base ok x [v0, .bool x.f1] := ⟨[v0], [.bool x.f1], rfl, ⟨v0, rfl, g0⟩, rfl⟩
theorem k38_openF {W : World} {ok : Nat → Prop} {x : S38} {cs : List Value} (h : Kd.FK k38 W ok x cs) : ∃ A0 c0, cs = [.slice A0 x.f0.length c0, .bool x.f1] ∧ x.f0.length ≤ c0 ∧ Kd.F k60 W ok A0 x.f0.length x.f0 := by
 obtain ⟨A0, c0, rfl, l0, _⟩ := k38_open (Kd.FK_now h)
 exact ⟨A0, c0, rfl, l0, (fun W' hW => by obtain ⟨A0_, c0_, he, l0_, g0_⟩ := k38_open (h W' hW); injection (Option.some.inj (show some (Value.slice A0 x.f0.length c0) = some (Value.slice A0_ x.f0.length c0_) from congrArg (fun l => l[0]?) he)) with ha_ _ _; rw [ha_]; exact g0_)⟩
theorem k38_mkF (W : World) (ok : Nat → Prop) (x : S38) {A0 : Option Addr} {c0 : Nat} (l0 : x.f0.length ≤ c0) (g0 : Kd.F k60 W ok A0 x.f0.length x.f0) : Kd.FK k38 W ok x [.slice A0 x.f0.length c0, .bool x.f1] := fun W2 hW => k38_mk W2 x l0 (g0 W2 hW)
def rd_T38 (xs : List S38) (i : Int) : S38 := xs.getD i.toNat z38
theorem at_T38 {w : World} {A : Option Addr} {n : Nat} {xs : List S38} (h : Kd.C k38 w A n xs) (i : Int) (h0 : 0 ≤ i) (h1 : i < n) : ∃ ad A0 c0, A = some ad ∧ w.cell? (ad.add (i.toNat * 2)) = some (.slice A0 (rd_T38 xs i).f0.length c0) ∧ w.cell? ⟨(ad.add (i.toNat * 2)).block, (ad.add (i.toNat * 2)).off + 1, none⟩ = some (.bool (rd_T38 xs i).f1) ∧ (rd_T38 xs i).f0.length ≤ c0 ∧ k60.C w A0 (rd_T38 xs i).f0.length (rd_T38 xs i).f0 := by
 obtain ⟨ad, c, e, _, hK, hc0⟩ := Kd.C_get h z38 i h0 h1
 have hc : ∀ j u, c[j]? = some u → w.cell? (ad.add (i.toNat * 2 + j)) = some u := hc0
 obtain ⟨A0, c0, rfl, l0, g0⟩ := k38_open hK
 exact ⟨ad, A0, c0, e, hc 0 _ rfl, by rw [← add_field _ _ 1 (by omega)]; exact hc 1 _ rfl, l0, g0⟩
def rd_L7 (xs : List (List S38)) (i : Int) : (List S38) := xs.getD i.toNat ([] : List S38)
theorem at_L7 {w : World} {A : Option Addr} {n : Nat} {xs : List (List S38)} (h : Kd.C (Kd.slice 38 k38) w A n xs) (i : Int) (h0 : 0 ≤ i) (h1 : i < n) : ∃ ad A0 c0, A = some ad ∧ w.cell? (ad.add i.toNat) = some (.slice A0 (rd_L7 xs i).length c0) ∧ (rd_L7 xs i).length ≤ c0 ∧ k38.C w A0 (rd_L7 xs i).length (rd_L7 xs i) := by
 obtain ⟨ad, c, e, _, hK, hc0⟩ := Kd.C_get h ([] : List S38) i h0 h1
 have hc : ∀ j u, c[j]? = some u → w.cell? (ad.add (i.toNat * 1 + j)) = some u := hc0
 obtain ⟨A0, c0, rfl, l0, g0⟩ := hK
 exact ⟨ad, A0, c0, e, by have hq := hc 0 _ rfl; rwa [Nat.mul_one, Nat.add_zero] at hq, l0, g0⟩
structure S100 where
 f0 : Int
 f1 : (List S38)
def z100 : S100 := ⟨(0 : Int), ([] : List S38)⟩
def k100 : Kd S100 := Kd.iso (Kd.pair (Kd.int .i64) (Kd.slice 38 k38)) (fun x : S100 => (x.f0, x.f1))
theorem k100_open {w : World} {x : S100} {cs : List Value} (h : k100.K w x cs) : ∃ A1 c1, cs = [.int .i64 x.f0, .slice A1 x.f1.length c1] ∧ x.f1.length ≤ c1 ∧ k38.C w A1 x.f1.length x.f1 := by
 obtain ⟨_, _, rfl, rfl, ⟨A1, c1, rfl, l1, g1⟩⟩ := h
 exact ⟨A1, c1, rfl, l1, g1⟩
theorem k100_openM {w : World} {base : Nat} {ok : Nat → Prop} {x : S100} {cs : List Value} (h : k100.M w base ok x cs) : ∃ v1, cs = [.int .i64 x.f0, v1] ∧ k38.R 38 w base ok v1 x.f1 := by
 obtain ⟨_, _, rfl, rfl, ⟨v1, rfl, g1⟩⟩ := h
 exact ⟨v1, rfl, g1⟩
theorem k100_mk (w : World) (x : S100) {A1 : Option Addr} {c1 : Nat} (l1 : x.f1.length ≤ c1) (g1 : k38.C w A1 x.f1.length x.f1) : k100.K w x [.int .i64 x.f0, .slice A1 x.f1.length c1] := ⟨[.int .i64 x.f0], [.slice A1 x.f1.length c1], rfl, rfl, ⟨A1, c1, rfl, l1, g1⟩⟩
theorem k100_mkM (w : World) (base : Nat) (ok : Nat → Prop) (x : S100) {v1 : Value} (g1 : k38.R 38 w base ok v1 x.f1) : k100.M w base ok x [.int .i64 x.f0, v1] := ⟨[.int .i64 x.f0], [v1], rfl, rfl, ⟨v1, rfl, g1⟩⟩
theorem k100_openF {W : World} {ok : Nat → Prop} {x : S100} {cs : List Value} (h : Kd.FK k100 W ok x cs) : ∃ A1 c1, cs = [.int .i64 x.f0, .slice A1 x.f1.length c1] ∧ x.f1.length ≤ c1 ∧ Kd.F k38 W ok A1 x.f1.length x.f1 := by
 obtain ⟨A1, c1, rfl, l1, _⟩ := k100_open (Kd.FK_now h)
 exact ⟨A1, c1, rfl, l1, (fun W' hW => by obtain ⟨A1_, c1_, he, l1_, g1_⟩ := k100_open (h W' hW); injection (Option.some.inj (show some (Value.slice A1 x.f1.length c1) = some (Value.slice A1_ x.f1.length c1_) from congrArg (fun l => l[1]?) he)) with ha_ _ _; rw [ha_]; exact g1_)⟩
theorem k100_mkF (W : World) (ok : Nat → Prop) (x : S100) {A1 : Option Addr} {c1 : Nat} (l1 : x.f1.length ≤ c1) (g1 : Kd.F k38 W ok A1 x.f1.length x.f1) : Kd.FK k100 W ok x [.int .i64 x.f0, .slice A1 x.f1.length c1] := fun W2 hW => k100_mk W2 x l1 (g1 W2 hW)
def rd_T100 (xs : List S100) (i : Int) : S100 := xs.getD i.toNat z100
theorem at_T100 {w : World} {A : Option Addr} {n : Nat} {xs : List S100} (h : Kd.C k100 w A n xs) (i : Int) (h0 : 0 ≤ i) (h1 : i < n) : ∃ ad A1 c1, A = some ad ∧ w.cell? (ad.add (i.toNat * 2)) = some (.int .i64 (rd_T100 xs i).f0) ∧ w.cell? ⟨(ad.add (i.toNat * 2)).block, (ad.add (i.toNat * 2)).off + 1, none⟩ = some (.slice A1 (rd_T100 xs i).f1.length c1) ∧ (rd_T100 xs i).f1.length ≤ c1 ∧ k38.C w A1 (rd_T100 xs i).f1.length (rd_T100 xs i).f1 := by
 obtain ⟨ad, c, e, _, hK, hc0⟩ := Kd.C_get h z100 i h0 h1
 have hc : ∀ j u, c[j]? = some u → w.cell? (ad.add (i.toNat * 2 + j)) = some u := hc0
 obtain ⟨A1, c1, rfl, l1, g1⟩ := k100_open hK
 exact ⟨ad, A1, c1, e, hc 0 _ rfl, by rw [← add_field _ _ 1 (by omega)]; exact hc 1 _ rfl, l1, g1⟩
def rd_L9 (xs : List (List ByteArray)) (i : Int) : (List ByteArray) := xs.getD i.toNat ([] : List ByteArray)
theorem at_L9 {w : World} {A : Option Addr} {n : Nat} {xs : List (List ByteArray)} (h : Kd.C (Kd.slice 9 Kd.string) w A n xs) (i : Int) (h0 : 0 ≤ i) (h1 : i < n) : ∃ ad A0 c0, A = some ad ∧ w.cell? (ad.add i.toNat) = some (.slice A0 (rd_L9 xs i).length c0) ∧ (rd_L9 xs i).length ≤ c0 ∧ Kd.string.C w A0 (rd_L9 xs i).length (rd_L9 xs i) := by
 obtain ⟨ad, c, e, _, hK, hc0⟩ := Kd.C_get h ([] : List ByteArray) i h0 h1
 have hc : ∀ j u, c[j]? = some u → w.cell? (ad.add (i.toNat * 1 + j)) = some u := hc0
 obtain ⟨A0, c0, rfl, l0, g0⟩ := hK
 exact ⟨ad, A0, c0, e, by have hq := hc 0 _ rfl; rwa [Nat.mul_one, Nat.add_zero] at hq, l0, g0⟩
end Go.Proofs.YtckkdaehmccjlaaDoor.P
namespace Go.Proofs.YtckkdaehmccjlaaDoor.P
open Go.RowKit Go.Proofs.YtckkdaehmccjlaaDoorW.PrintWords Go.Proofs.YtckkdaehmccjlaaDoorW.PrintLast Go.Proofs.YtckkdaehmccjlaaDoorW.PrintMore
structure Tabs (w : World) : Prop where
 utf8 : Lib.Utf8Tabs 0 1 w
theorem Tabs.below {w W : World} (h : Tabs w) (hb : Below w.heap.size w W) : Tabs W :=
 ⟨⟨fun c hc => pw_cell_below hb (h.utf8.1 c hc), fun i hi => ⟨pw_cell_below hb (h.utf8.2 i hi).1, pw_cell_below hb (h.utf8.2 i hi).2⟩⟩⟩
theorem Tabs.keepA {w W : World} (h : Aside0 (Tabs w)) (hb : Below w.heap.size w W) : Tabs W := h.out.below hb
end Go.Proofs.YtckkdaehmccjlaaDoor.P
namespace Go.Proofs.YtckkdaehmccjlaaDoor.P
open Go.RowKit Go.Proofs.YtckkdaehmccjlaaDoorW.PrintWords Go.Proofs.YtckkdaehmccjlaaDoorW.PrintLast Go.Proofs.YtckkdaehmccjlaaDoorW.PrintMore
set_option linter.unusedVariables false
section
variable {H : Type} {enc : TypeId × Value → H} {P : Program} {w : World} {base : Nat} {spare : Nat → Bool} {held : Bool}
theorem list_of {α : Type} {p : Nat → α → Prop} : ∀ (n : Nat), (∀ i, i < n → ∃ x, p i x) → ∃ xs : List α, xs.length = n ∧ ∀ j x, xs[j]? = some x → p j x
 | 0, _ => ⟨[], rfl, fun j x h => by simp at h⟩
 | n + 1, h => by
  obtain ⟨xs, hl, hx⟩ := list_of n (fun i hi => h i (by omega))
  obtain ⟨z, hz⟩ := h n (by omega)
  refine ⟨xs ++ [z], by simp [hl], fun j x hj => ?_⟩
  rcases Nat.lt_or_ge j xs.length with h' | h'
  ·rw [List.getElem?_append_left h'] at hj; exact hx j x hj
  ·have hj' : j = n := by have := (List.getElem?_eq_some_iff.1 hj).1; simp at this; omega
   subst hj'
   rw [← hl] at hj
   simp at hj
   subst hj; exact hz
theorem C_of_trod {α : Type} {d : Kd α} {t e : TypeId} {fuel : Nat} {A : Option Addr} {n c : Nat} {y : DataW H × List MemPlace} (ht : P.underlying t = some (.slice e)) (hs : P.cellsOf e = d.sz)
  (hK : ∀ fuel cs y, DataW.trod enc P w base spare held fuel e cs = some y → ∃ x, d.K w x cs) (h : DataW.trod enc P w base spare held fuel t [.slice A n c] = some y) :
  ∃ xs : List α, xs.length = n ∧ n ≤ c ∧ d.C w A n xs := by
 rcases Go.Deep.open_slice ht h with ⟨h0, _⟩ | ⟨a, len, cap, m, f, D, Pl, h0, _, hl, hm, hmm, _, hx⟩
 ·cases h0
  exact ⟨[], rfl, Nat.le_refl _, rfl, by omega, fun h => absurd h (by omega)⟩
 ·cases h0
  have hle : n ≤ m := by rw [hmm]; split <;> omega
  obtain ⟨xs, hlen, hxs⟩ := list_of (p := fun i (x : α) => ∃ cs, w.cells? base (a.add (i * P.cellsOf e)) (P.cellsOf e) = some cs ∧ d.K w x cs) n (fun i hi => by
   obtain ⟨cs, h1, h2⟩ := hx i (by omega)
   obtain ⟨x, hk⟩ := hK _ _ _ h2
   exact ⟨x, cs, h1, hk⟩)
  refine ⟨xs, hlen, hl, hlen, by have : maxLen = 9223372036854775807 := rfl; omega, fun _ => ⟨a, rfl, fun j x hj => ?_⟩⟩
  obtain ⟨cs, h1, hk⟩ := hxs j x hj
  obtain ⟨_, h2, h3⟩ := World.cells?_some h1
  refine ⟨cs, by rw [← hs]; exact h2, hk, fun i u hu => ?_⟩
  have hi : i < P.cellsOf e := by rw [← h2]; exact (List.getElem?_eq_some_iff.1 hu).1
  have := h3 i hi
  rw [Go.Deep.add_add, hs] at this
  rw [this, hu]
end
section
variable {H : Type} {enc : TypeId × Value → H} {w : World} {base : Nat} {spare : Nat → Bool} {held : Bool}
theorem cells1_of {cs : List Value} {o n : Nat} {v : Value} (h : (cs.drop o).take n = [v]) : cs[o]? = some v := by
 have := congrArg (fun l => l[0]?) h
 simp only [List.getElem?_cons_zero, List.getElem?_take] at this
 split at this
 ·rw [List.getElem?_drop] at this; simpa using this
 ·cases this
theorem cells3_of {cs : List Value} {o n : Nat} {a b c : Value} (h : (cs.drop o).take n = [a, b, c]) : cs[o]? = some a ∧ cs[o + 1]? = some b ∧ cs[o + 2]? = some c := by
 have h3 : 3 ≤ n := by have := congrArg List.length h; simp at this; omega
 refine ⟨?_, ?_, ?_⟩
 ·have := congrArg (fun l => l[0]?) h
  simp only [List.getElem?_take, List.getElem?_drop] at this
  rw [if_pos (by omega)] at this; simpa using this
 ·have := congrArg (fun l => l[1]?) h
  simp only [List.getElem?_take, List.getElem?_drop] at this
  rw [if_pos (by omega)] at this; simpa using this
 ·have := congrArg (fun l => l[2]?) h
  simp only [List.getElem?_take, List.getElem?_drop] at this
  rw [if_pos (by omega)] at this; simpa using this
theorem len_two {cs : List Value} (h : cs.length = 2) : ∃ a b, cs = [a, b] := by
 match cs, h with
 | [a, b], _ => exact ⟨a, b, rfl⟩
theorem cs_two {cs : List Value} {a b : Value} (hl : cs.length = 2) (h0 : cs[0]? = some a) (h1 : cs[1]? = some b) : cs = [a, b] := by
 match cs, hl with
 | [x, y], _ => cases h0; cases h1; rfl
theorem cs_five {cs : List Value} {a b c d e : Value} (hl : cs.length = 5) (h0 : cs[0]? = some a) (h1 : cs[1]? = some b) (h2 : cs[2]? = some c) (h3 : cs[2 + 1]? = some d) (h4 : cs[2 + 2]? = some e) : cs = [a, b, c, d, e] := by
 match cs, hl with
 | [x, y, z, u, v], _ => cases h0; cases h1; cases h2; cases h3; cases h4; rfl
theorem cs_three {cs : List Value} {a b c : Value} (hl : cs.length = 3) (h0 : cs[0]? = some a) (h1 : cs[1]? = some b) (h2 : cs[2]? = some c) : cs = [a, b, c] := by
 match cs, hl with
 | [x, y, z], _ => cases h0; cases h1; cases h2; rfl
theorem attr_of_trod (fuel : Nat) (cs : List Value) (y : DataW H × List MemPlace) (h : DataW.trod enc Tryd.prog w base spare held fuel 58 cs = some y) : ∃ x, k58.K w x cs := by
 obtain ⟨y0, y1, y2, n, _, hl, h0, h1, h2⟩ := Go.Deep.trod_struct3 Tryd.underlying58 h
 obtain ⟨a, e0, _⟩ := DataW.trod_int Tryd.underlying3 h0
 obtain ⟨b, e1, _⟩ := DataW.trod_int Tryd.underlying3 h1
 obtain ⟨c, e2, _⟩ := DataW.trod_int Tryd.underlying3 h2
 have hl : cs.length = 3 := hl.trans (by kernel_rfl)
 rw [cs_three hl (cells1_of e0) (cells1_of e1) (cells1_of e2)]
 exact ⟨⟨a, b, c⟩, k58_mk w ⟨a, b, c⟩⟩
theorem cell_of_trod (fuel : Nat) (cs : List Value) (y : DataW H × List MemPlace) (h : DataW.trod enc Tryd.prog w base spare held fuel 60 cs = some y) : ∃ x, k60.K w x cs := by
 obtain ⟨y0, y1, y2, n, _, hl, h0, h1, h2⟩ := Go.Deep.trod_struct3 Tryd.underlying60 h
 obtain ⟨s, e0, _⟩ := DataW.trod_string Tryd.underlying9 h0
 obtain ⟨b, e1, _⟩ := DataW.trod_int Tryd.underlying3 h1
 obtain ⟨x, hk⟩ := attr_of_trod _ _ _ h2
 have hl : cs.length = 5 := hl.trans (by kernel_rfl)
 have c0 := cells1_of e0
 have c1 := cells1_of e1
 obtain ⟨d0, d1, d2⟩ := cells3_of (k58_open hk)
 rw [cs_five hl c0 c1 d0 d1 d2]
 exact ⟨⟨s, b, x⟩, k60_mk w ⟨s, b, x⟩⟩
set_option maxRecDepth 100000 in
theorem line_of_trod (fuel : Nat) (cs : List Value) (y : DataW H × List MemPlace) (h : DataW.trod enc Tryd.prog w base spare held fuel 38 cs = some y) : ∃ x, k38.K w x cs := by
 obtain ⟨y0, y1, n, _, hl, h0, h1⟩ := Go.ChangeShapes.trod_struct2 Tryd.underlying38 h
 obtain ⟨b, e1, _⟩ := DataW.trod_bool Tryd.underlying4 h1
 have hl : cs.length = 2 := hl.trans (by kernel_rfl)
 obtain ⟨v0, v1, rfl⟩ := len_two hl
 ·have e2 : v1 = .bool b := by have := cells1_of e1; exact Option.some.inj this
  subst e2
  have hv : ∃ A n c, v0 = .slice A n c := by
   rcases Go.Deep.open_slice Tryd.underlying36 h0 with ⟨e, _⟩ | ⟨a, len, cap, m, f, D, Pl, e, _⟩
   ·exact ⟨_, _, _, by have := cells1_of e; simpa using this⟩
   ·exact ⟨_, _, _, by have := cells1_of e; simpa using this⟩
  obtain ⟨A, n, c, rfl⟩ := hv
  obtain ⟨xs, hx, hc, hC⟩ := C_of_trod (d := k60) Tryd.underlying36 (by kernel_rfl) (fun f cs y h => cell_of_trod f cs y h) (show DataW.trod enc Tryd.prog w base spare held _ 36 [.slice A n c] = _ from h0)
  subst hx
  exact ⟨⟨xs, b⟩, [.slice A xs.length c], [.bool b], rfl, ⟨A, c, rfl, hc, hC⟩, rfl⟩
set_option maxRecDepth 100000 in
theorem lines_of_trod {fuel : Nat} {A : Option Addr} {n c : Nat} {y : DataW H × List MemPlace} (h : DataW.trod enc Tryd.prog w base spare held fuel 22 [.slice A n c] = some y) : ∃ xs : List S38, xs.length = n ∧ n ≤ c ∧ Kd.C k38 w A n xs :=
 C_of_trod (d := k38) Tryd.underlying22 (by kernel_rfl) (fun f cs y h => line_of_trod f cs y h) h
end
end Go.Proofs.YtckkdaehmccjlaaDoor.P
namespace Go.Proofs.YtckkdaehmccjlaaDoor.P
open Go.RowKit Go.Proofs.YtckkdaehmccjlaaDoorW.PrintWords Go.Proofs.YtckkdaehmccjlaaDoorW.PrintLast Go.Proofs.YtckkdaehmccjlaaDoorW.PrintMore
attribute [local go_sem] max2_int min2_int max_two min_two max_three min_three max_four min_four   -- for this text's walks alone
set_option linter.unusedVariables false
set_option linter.unusedSimpArgs false
def backseatref08_Say.l0 : Nat → ByteArray → List (S60) → Int → Int → Option (ByteArray)
 | 0, _, _, _, _ => none
 | k + 1, x3, x6, x7, x8 => if x8 < x7 then (if 0 ≤ x8 then (if x8 < (x6.length : Int) then (if ((rd_T60 x6 x8).f0).toList = ([] : List UInt8) then (if ((rd_T60 x6 x8).f1) = 1 then (if x3.size + 1 ≤ 9223372036854775807 then (if (x3 ++ (⟨#[32]⟩ : ByteArray)).size + ((rd_T60 x6 x8).f0).size ≤ 9223372036854775807 then (backseatref08_Say.l0 k ((x3 ++ (⟨#[32]⟩ : ByteArray)) ++ ((rd_T60 x6 x8).f0)) x6 x7 (wrap64 (x8 + 1))) else (none)) else (none)) else (if x3.size + ((rd_T60 x6 x8).f0).size ≤ 9223372036854775807 then (backseatref08_Say.l0 k (x3 ++ ((rd_T60 x6 x8).f0)) x6 x7 (wrap64 (x8 + 1))) else (none))) else (if x3.size + ((rd_T60 x6 x8).f0).size ≤ 9223372036854775807 then (backseatref08_Say.l0 k (x3 ++ ((rd_T60 x6 x8).f0)) x6 x7 (wrap64 (x8 + 1))) else (none))) else (none)) else (none)) else (some x3)
def backseatref08_Say.f (k : Nat) (l0 : List (S60)) : Option (ByteArray) := backseatref08_Say.l0 k (⟨#[]⟩ : ByteArray) l0 (l0.length : Int) 0
set_option maxHeartbeats 8000000 in
set_option maxRecDepth 100000 in
theorem backseatref08_Say.calls (k : Nat) (A0 : Option Addr) (c0 : Nat) (l0 : List (S60)) (r : ByteArray) (w : World) (hr0 : Kd.C k60 w A0 l0.length l0) (hc0 : l0.length ≤ c0) (h : backseatref08_Say.f k l0 = some r) :
  Calls Tryd.prog 23 #[.slice A0 l0.length c0] w fun e w' => e = .returned (.string r) ∧ Below w.heap.size w w' := by
 have hu60 := Tryd.underlying60
 have HR0 := Aside0.mk hr0
 have HC0 := Aside0.mk hc0
 clear hr0 hc0
 have HB := Aside0.mk (Below.refl w.heap.size w)
 have H : (backseatref08_Say.l0 k (⟨#[]⟩ : ByteArray) l0 (l0.length : Int) 0) = some r := h
 clear h
 have H' := Aside0.mk H
 clear H
 go_enter Tryd.func23, Tryd.ntmps23
 go_wp2
 go_loopg [3, 8] k (fun kq v3 v8 w' => ∃ (x3_1 : ByteArray) (x8_1 : Int), v3 = .string x3_1 ∧ v8 = .int .i64 x8_1 ∧ Aside0 (backseatref08_Say.l0 kq x3_1 l0 (l0.length : Int) x8_1 = some r) ∧ Aside0 (kq ≤ k) ∧ Aside0 (Below w.heap.size w w'))
 case atStart => exact ⟨((⟨#[]⟩ : ByteArray)), (0), zf, zf, H', ⟨Nat.le_refl _⟩, ⟨zb⟩⟩
 case round =>
  clear H'
  obtain ⟨x3_1, x8_1, rfl, rfl, HA, HK1, HB⟩ := hrel
  cases gk with
  | zero => exact absurd HA.out (by simp [backseatref08_Say.l0])
  | succ k1 =>
   have H := HA.out
   clear HA
   simp only [backseatref08_Say.l0] at H
   by_cases c2 : x8_1 < (l0.length : Int)
   ·rw [if_pos c2] at H
    have c2b0 : decide (x8_1 < (l0.length : Int)) = true := decide_eq_true c2
    clear c2
    by_cases c3 : 0 ≤ x8_1
    ·rw [if_pos c3] at H
     have c3b0 : decide (0 ≤ x8_1) = true := decide_eq_true c3
     clear c3
     by_cases c4 : x8_1 < (l0.length : Int)
     ·rw [if_pos c4] at H
      have c4b0 : decide (x8_1 < (l0.length : Int)) = true := decide_eq_true c4
      clear c4
      by_cases c5 : ((rd_T60 l0 x8_1).f0).toList = ([] : List UInt8)
      ·rw [if_pos c5] at H
       have c5b0 : (((rd_T60 l0 x8_1).f0).toList == ([] : List UInt8)) = true := beq_iff_eq.mpr c5
       have c5b1 : (((rd_T60 l0 x8_1).f0).toList != ([] : List UInt8)) = false := bne_eq_false_iff_eq.mpr c5
       clear c5
       by_cases c6 : ((rd_T60 l0 x8_1).f1) = 1
       ·rw [if_pos c6] at H
        have c6b0 : (((rd_T60 l0 x8_1).f1) == 1) = true := beq_iff_eq.mpr c6
        have c6b1 : (((rd_T60 l0 x8_1).f1) != 1) = false := bne_eq_false_iff_eq.mpr c6
        clear c6
        by_cases c7 : x3_1.size + 1 ≤ 9223372036854775807
        ·rw [if_pos c7] at H
         have c7b0 := eq_true c7
         have c7b1 : decide (x3_1.size + 1 ≤ 9223372036854775807) = true := decide_eq_true c7
         try have c7b2 : (9223372036854775807 < x3_1.size + 1) = False := eq_false (Nat.not_lt.2 c7)
         by_cases c8 : (x3_1 ++ (⟨#[32]⟩ : ByteArray)).size + ((rd_T60 l0 x8_1).f0).size ≤ 9223372036854775807
         ·rw [if_pos c8] at H
          have c8b0 := eq_true c8
          have c8b1 : decide ((x3_1 ++ (⟨#[32]⟩ : ByteArray)).size + ((rd_T60 l0 x8_1).f0).size ≤ 9223372036854775807) = true := decide_eq_true c8
          try have c8b2 : (9223372036854775807 < (x3_1 ++ (⟨#[32]⟩ : ByteArray)).size + ((rd_T60 l0 x8_1).f0).size) = False := eq_false (Nat.not_lt.2 c8)
          have c8s := c8
          try simp only [ByteArray.size_append, show ((⟨#[32]⟩ : ByteArray)).size = 1 from rfl] at c8s
          have c8s0 := eq_true c8s
          have c8s1 := decide_eq_true c8s
          have c8s2 := eq_false (Nat.not_lt.2 c8s)
          have H' := Aside0.mk H
          clear H
          have p254 : 0 ≤ (x8_1 : Int) := of_decide_eq_true za
          have q254 : x8_1 < (l0.length : Int) := of_decide_eq_true za
          obtain ⟨ad254, e254, hx254_0, hx254_1, hx254_2, hx254_3, hx254_4⟩ := at_T60 HR0.out x8_1 p254 q254
          cases e254
          replace hx254_0 := zc HB hx254_0
          replace hx254_1 := zc HB hx254_1
          replace hx254_2 := zc HB hx254_2
          replace hx254_3 := zc HB hx254_3
          replace hx254_4 := zc HB hx254_4
          replace p254 := eq_true p254
          replace q254 := eq_true q254
          go_wp2_with (first | ((with_reducible refine gate_dst (N := 5) rfl ?_); refine box_event ?hg (N := 5) ?hd (cs := #[.string (⟨#[]⟩ : ByteArray), .int .i64 0, .int .i64 0, .int .i64 0, .int .i64 0]) (t := 60) ?hr ?_; (case hd => rfl); (case hg => rfl); (case hr => exact zo); intro gb255 hg w9 hbox hb; have BK255 := Aside0.mk (hbox); have GW255 := Aside0.mk ((zg hg : w.heap.size ≤ gb255)); have GE255 := Aside0.mk ((zg hg : w.heap.size ≤ gb255)); replace HB := (zs HB hb); clear hb hbox hg; obtain ⟨hcz10_0, hcz10_1, hcz10_2, hcz10_3, hcz10_4, hfz10_0, hfz10_1, hfz10_2, hfz10_3, hfz10_4⟩ := zq5 (w := w9) BK255))
          go_roundg k1
          case measure => have := HK1.out; omega
          case rel => exact ⟨((x3_1 ++ (⟨#[32]⟩ : ByteArray)) ++ ((rd_T60 l0 x8_1).f0)), (wrap64 (x8_1 + 1)), zf, zf, H', ⟨by have := HK1.out; omega⟩, ⟨zb⟩⟩
         ·rw [if_neg c8] at H
          exact absurd H (by simp)
        ·rw [if_neg c7] at H
         exact absurd H (by simp)
       ·rw [if_neg c6] at H
        have c6b0 : (((rd_T60 l0 x8_1).f1) == 1) = false := beq_eq_false_iff_ne.mpr c6
        have c6b1 : (((rd_T60 l0 x8_1).f1) != 1) = true := bne_iff_ne.mpr c6
        by_cases c11 : x3_1.size + ((rd_T60 l0 x8_1).f0).size ≤ 9223372036854775807
        ·rw [if_pos c11] at H
         have c11b0 := eq_true c11
         have c11b1 : decide (x3_1.size + ((rd_T60 l0 x8_1).f0).size ≤ 9223372036854775807) = true := decide_eq_true c11
         try have c11b2 : (9223372036854775807 < x3_1.size + ((rd_T60 l0 x8_1).f0).size) = False := eq_false (Nat.not_lt.2 c11)
         have H' := Aside0.mk H
         clear H
         have p254 : 0 ≤ (x8_1 : Int) := of_decide_eq_true za
         have q254 : x8_1 < (l0.length : Int) := of_decide_eq_true za
         obtain ⟨ad254, e254, hx254_0, hx254_1, hx254_2, hx254_3, hx254_4⟩ := at_T60 HR0.out x8_1 p254 q254
         cases e254
         replace hx254_0 := zc HB hx254_0
         replace hx254_1 := zc HB hx254_1
         replace hx254_2 := zc HB hx254_2
         replace hx254_3 := zc HB hx254_3
         replace hx254_4 := zc HB hx254_4
         replace p254 := eq_true p254
         replace q254 := eq_true q254
         go_wp2_with (first | ((with_reducible refine gate_dst (N := 5) rfl ?_); refine box_event ?hg (N := 5) ?hd (cs := #[.string (⟨#[]⟩ : ByteArray), .int .i64 0, .int .i64 0, .int .i64 0, .int .i64 0]) (t := 60) ?hr ?_; (case hd => rfl); (case hg => rfl); (case hr => exact zo); intro gb255 hg w12 hbox hb; have BK255 := Aside0.mk (hbox); have GW255 := Aside0.mk ((zg hg : w.heap.size ≤ gb255)); have GE255 := Aside0.mk ((zg hg : w.heap.size ≤ gb255)); replace HB := (zs HB hb); clear hb hbox hg; obtain ⟨hcz13_0, hcz13_1, hcz13_2, hcz13_3, hcz13_4, hfz13_0, hfz13_1, hfz13_2, hfz13_3, hfz13_4⟩ := zq5 (w := w12) BK255))
         go_roundg k1
         case measure => have := HK1.out; omega
         case rel => exact ⟨(x3_1 ++ ((rd_T60 l0 x8_1).f0)), (wrap64 (x8_1 + 1)), zf, zf, H', ⟨by have := HK1.out; omega⟩, ⟨zb⟩⟩
        ·rw [if_neg c11] at H
         exact absurd H (by simp)
      ·rw [if_neg c5] at H
       have c5b0 : (((rd_T60 l0 x8_1).f0).toList == ([] : List UInt8)) = false := beq_eq_false_iff_ne.mpr c5
       have c5b1 : (((rd_T60 l0 x8_1).f0).toList != ([] : List UInt8)) = true := bne_iff_ne.mpr c5
       by_cases c14 : x3_1.size + ((rd_T60 l0 x8_1).f0).size ≤ 9223372036854775807
       ·rw [if_pos c14] at H
        have c14b0 := eq_true c14
        have c14b1 : decide (x3_1.size + ((rd_T60 l0 x8_1).f0).size ≤ 9223372036854775807) = true := decide_eq_true c14
        try have c14b2 : (9223372036854775807 < x3_1.size + ((rd_T60 l0 x8_1).f0).size) = False := eq_false (Nat.not_lt.2 c14)
        have H' := Aside0.mk H
        clear H
        have p254 : 0 ≤ (x8_1 : Int) := of_decide_eq_true za
        have q254 : x8_1 < (l0.length : Int) := of_decide_eq_true za
        obtain ⟨ad254, e254, hx254_0, hx254_1, hx254_2, hx254_3, hx254_4⟩ := at_T60 HR0.out x8_1 p254 q254
        cases e254
        replace hx254_0 := zc HB hx254_0
        replace hx254_1 := zc HB hx254_1
        replace hx254_2 := zc HB hx254_2
        replace hx254_3 := zc HB hx254_3
        replace hx254_4 := zc HB hx254_4
        replace p254 := eq_true p254
        replace q254 := eq_true q254
        go_wp2_with (first | ((with_reducible refine gate_dst (N := 5) rfl ?_); refine box_event ?hg (N := 5) ?hd (cs := #[.string (⟨#[]⟩ : ByteArray), .int .i64 0, .int .i64 0, .int .i64 0, .int .i64 0]) (t := 60) ?hr ?_; (case hd => rfl); (case hg => rfl); (case hr => exact zo); intro gb255 hg w15 hbox hb; have BK255 := Aside0.mk (hbox); have GW255 := Aside0.mk ((zg hg : w.heap.size ≤ gb255)); have GE255 := Aside0.mk ((zg hg : w.heap.size ≤ gb255)); replace HB := (zs HB hb); clear hb hbox hg; obtain ⟨hcz16_0, hcz16_1, hcz16_2, hcz16_3, hcz16_4, hfz16_0, hfz16_1, hfz16_2, hfz16_3, hfz16_4⟩ := zq5 (w := w15) BK255))
        go_roundg k1
        case measure => have := HK1.out; omega
        case rel => exact ⟨(x3_1 ++ ((rd_T60 l0 x8_1).f0)), (wrap64 (x8_1 + 1)), zf, zf, H', ⟨by have := HK1.out; omega⟩, ⟨zb⟩⟩
       ·rw [if_neg c14] at H
        exact absurd H (by simp)
     ·rw [if_neg c4] at H
      exact absurd H (by simp)
    ·rw [if_neg c3] at H
     exact absurd H (by simp)
   ·rw [if_neg c2] at H
    have c2b0 : decide (x8_1 < (l0.length : Int)) = false := decide_eq_false c2
    clear c2
    obtain rfl := Option.some.inj H
    go_wp2
    go_ret
    exact ⟨ze, zb⟩
def backseatlaw08_cells.l0 : Nat → List (S60) → List (S60) → Int → Int → Option ((List (S60)))
 | 0, _, _, _, _ => none
 | k + 1, x5, x13, x14, x15 => if x15 < x14 then (if 0 ≤ x15 then (if x15 < (x13.length : Int) then (if 0 ≤ (mn (((rd_T60 x13 x15).f0).size : Int) 20) then (if (mn (((rd_T60 x13 x15).f0).size : Int) 20) ≤ (((rd_T60 x13 x15).f0).size : Int) then (if x5.length < 2932031007402 then (backseatlaw08_cells.l0 k (x5 ++ [(⟨((rd_T60 x13 x15).f0).extract 0 ((mn (((rd_T60 x13 x15).f0).size : Int) 20) : Int).toNat, (rd_T60 x13 x15).f1, (⟨(rd_T60 x13 x15).f2.f0, (rd_T60 x13 x15).f2.f1, (rd_T60 x13 x15).f2.f2⟩ : S58)⟩ : S60)]) x13 x14 (wrap64 (x15 + 1))) else (none)) else (none)) else (none)) else (none)) else (none)) else (some x5)
def backseatlaw08_cells.f (k : Nat) (l0 : List (S60)) (a1 : Int) : Option ((List (S60))) := if 0 ≤ (mn (l0.length : Int) a1) then (if (mn (l0.length : Int) a1) ≤ (l0.length : Int) then ((some (l0.take ((mn (l0.length : Int) a1) : Int).toNat : List (S60))).bind fun y421 => (backseatlaw08_cells.l0 k ([] : List (S60)) y421 (y421.length : Int) 0)) else (none)) else (none)
set_option maxHeartbeats 8000000 in
set_option maxRecDepth 100000 in
theorem backseatlaw08_cells.calls (k : Nat) (A0 : Option Addr) (c0 : Nat) (l0 : List (S60)) (a1 : Int) (r : List (S60)) (w : World) (hr0 : Kd.C k60 w A0 l0.length l0) (hc0 : l0.length ≤ c0) (h : backseatlaw08_cells.f k l0 a1 = some r) :
  Calls Tryd.prog 24 #[.slice A0 l0.length c0, .int .i64 a1] w fun e w' => ∃ v0_ : Value, e = .returned (v0_) ∧ Kd.R k60 60 w' w.heap.size (fun _ => True) v0_ r ∧ Below w.heap.size w w' := by
 have hu60 := Tryd.underlying60
 have HR0 := Aside0.mk hr0
 have HC0 := Aside0.mk hc0
 clear hr0 hc0
 have HB := Aside0.mk (Below.refl w.heap.size w)
 have H : (if 0 ≤ (mn (l0.length : Int) a1) then (if (mn (l0.length : Int) a1) ≤ (l0.length : Int) then ((some (l0.take ((mn (l0.length : Int) a1) : Int).toNat : List (S60))).bind fun y421 => (backseatlaw08_cells.l0 k ([] : List (S60)) y421 (y421.length : Int) 0)) else (none)) else (none)) = some r := h
 clear h
 obtain ⟨ji3, hji3⟩ : ∃ j_ : Int, (mn (l0.length : Int) a1) = j_ := ⟨_, rfl⟩
 replace H : (if 0 ≤ (ji3) then (if (ji3) ≤ (l0.length : Int) then ((some (l0.take ((ji3) : Int).toNat : List (S60))).bind fun y421 => (backseatlaw08_cells.l0 k ([] : List (S60)) y421 (y421.length : Int) 0)) else (none)) else (none)) = some r := by first | (rw [hji3] at H; exact H) | (simp only [hji3] at H ⊢; exact H)
 have hji3_ : (if a1 < (l0.length : Int) then a1 else (l0.length : Int)) = ji3 := hji3
 by_cases c4 : 0 ≤ (ji3)
 ·rw [if_pos c4] at H
  have c4b0 := eq_true c4
  have c4b1 : decide (0 ≤ (ji3)) = true := decide_eq_true c4
  clear c4
  by_cases c5 : (ji3) ≤ (l0.length : Int)
  ·rw [if_pos c5] at H
   have c5b0 := eq_true c5
   have c5b1 : decide ((ji3) ≤ (l0.length : Int)) = true := decide_eq_true c5
   clear c5
   obtain ⟨y421, hy421⟩ : ∃ y_ : List (S60), y_ = (l0.take ((ji3) : Int).toNat) := ⟨_, rfl⟩
   replace H : (backseatlaw08_cells.l0 k ([] : List (S60)) y421 (y421.length : Int) 0) = some r := by first | (rw [hy421]; with_reducible exact H) | (have H2_ := (Option.bind_some _ _).symm.trans H; rw [hy421]; with_reducible exact H2_) | (have H2_ := (Option.bind_some _ _).symm.trans H; with_reducible exact H2_) | with_reducible exact H | (rw [hy421]; exact H) | exact H
   have Ny421 := Aside0.mk hy421
   clear hy421
   have H' := Aside0.mk H
   clear H
   have q6 : ((ji3) : Int) ≤ ((l0.length : Int) : Int) := of_decide_eq_true za
   obtain ⟨i06, hi06, _, hsz6, _⟩ := info_parts info60
   have hroom6 : l0.length ≤ c0 := HC0.out
   have hC6 : Kd.C k60 _ A0 l0.length l0 := HR0.out
   have hcut6 := cut_to (P := Tryd.prog) 36 60 .i64 Tryd.underlying36 hi06 A0 l0.length c0 (ji3) (of_decide_eq_true za) q6 hroom6
   have hr6 := Kd.C_take (m := ((ji3) : Int).toNat) hC6 (by omega)
   have hy6 : y421.length = ((ji3) : Int).toNat := (by rw [Ny421.out, List.length_take]; omega)
   rw [← Ny421.out] at hr6
   rw [← hy6] at hcut6
   have HR424 := Aside0.mk hr6
   have HC424 := Aside0.mk (show y421.length ≤ c0 from by omega)
   clear hr6 hC6 hroom6 hi06 hsz6
   have KY6 := Aside0.mk hy6
   clear hy6
   replace q6 := eq_true q6
   go_enter Tryd.func24, Tryd.ntmps24
   go_wp2
   go_loopg [5, 15] k (fun kq v5 v15 w' => ∃ (x5_1 : List (S60)) (x15_1 : Int), v15 = .int .i64 x15_1 ∧ Aside0 (backseatlaw08_cells.l0 kq x5_1 y421 (y421.length : Int) x15_1 = some r) ∧ Aside0 (kq ≤ k) ∧ Aside0 (Kd.R k60 60 w' w.heap.size (fun _ => True) v5 x5_1) ∧ Aside0 (Below w.heap.size w w'))
   case atStart => exact ⟨(([] : List (S60))), (0), zf, H', ⟨Nat.le_refl _⟩, ⟨by first | exact Kd.R_nil _ _ _ _ _ | exact Kd.N_nil _ _ _ _ _ | exact Kd.V_nil _ _ _ _ _ | exact Kd.Q_nil _ _ _ _ _ | exact Kd.S_nil _ _ _ _ _⟩, ⟨zb⟩⟩
   case round =>
    clear H'
    try clear c4
    try clear c4b0
    try clear c4b1
    try clear c5
    try clear c5b0
    try clear c5b1
    try clear q6
    try clear q6
    obtain ⟨x5_1, x15_1, rfl, HA, HK1, HO_5, HB⟩ := hrel
    cases gk with
    | zero => exact absurd HA.out (by simp [backseatlaw08_cells.l0])
    | succ k1 =>
     have H := HA.out
     clear HA
     simp only [backseatlaw08_cells.l0] at H
     by_cases c7 : x15_1 < (y421.length : Int)
     ·rw [if_pos c7] at H
      have c7b0 : decide (x15_1 < (y421.length : Int)) = true := decide_eq_true c7
      clear c7
      by_cases c8 : 0 ≤ x15_1
      ·rw [if_pos c8] at H
       have c8b0 : decide (0 ≤ x15_1) = true := decide_eq_true c8
       clear c8
       by_cases c9 : x15_1 < (y421.length : Int)
       ·rw [if_pos c9] at H
        have c9b0 : decide (x15_1 < (y421.length : Int)) = true := decide_eq_true c9
        clear c9
        obtain ⟨ji10, hji10⟩ : ∃ j_ : Int, (mn (((rd_T60 y421 x15_1).f0).size : Int) 20) = j_ := ⟨_, rfl⟩
        replace H : (if 0 ≤ (ji10) then (if (ji10) ≤ (((rd_T60 y421 x15_1).f0).size : Int) then (if x5_1.length < 2932031007402 then (backseatlaw08_cells.l0 k1 (x5_1 ++ [(⟨((rd_T60 y421 x15_1).f0).extract 0 ((ji10) : Int).toNat, (rd_T60 y421 x15_1).f1, (⟨(rd_T60 y421 x15_1).f2.f0, (rd_T60 y421 x15_1).f2.f1, (rd_T60 y421 x15_1).f2.f2⟩ : S58)⟩ : S60)]) y421 (y421.length : Int) (wrap64 (x15_1 + 1))) else (none)) else (none)) else (none)) = some r := by first | (rw [hji10] at H; exact H) | (simp only [hji10] at H ⊢; exact H)
        have hji10_ : (if 20 < (((rd_T60 y421 x15_1).f0).size : Int) then 20 else (((rd_T60 y421 x15_1).f0).size : Int)) = ji10 := hji10
        by_cases c11 : 0 ≤ (ji10)
        ·rw [if_pos c11] at H
         have c11b0 := eq_true c11
         have c11b1 : decide (0 ≤ (ji10)) = true := decide_eq_true c11
         clear c11
         by_cases c12 : (ji10) ≤ (((rd_T60 y421 x15_1).f0).size : Int)
         ·rw [if_pos c12] at H
          have c12b0 := eq_true c12
          have c12b1 : decide ((ji10) ≤ (((rd_T60 y421 x15_1).f0).size : Int)) = true := decide_eq_true c12
          clear c12
          by_cases c13 : x5_1.length < 2932031007402
          ·rw [if_pos c13] at H
           have LMc13 := Aside0.mk c13
           clear c13
           obtain ⟨y427, hy427⟩ : ∃ y_ : List (S60), y_ = (x5_1 ++ [(⟨((rd_T60 y421 x15_1).f0).extract 0 ((ji10) : Int).toNat, (rd_T60 y421 x15_1).f1, (⟨(rd_T60 y421 x15_1).f2.f0, (rd_T60 y421 x15_1).f2.f1, (rd_T60 y421 x15_1).f2.f2⟩ : S58)⟩ : S60)]) := ⟨_, rfl⟩
           replace H : (backseatlaw08_cells.l0 k1 y427 y421 (y421.length : Int) (wrap64 (x15_1 + 1))) = some r := by first | (rw [hy427]; with_reducible exact H) | (have H2_ := (Option.bind_some _ _).symm.trans H; rw [hy427]; with_reducible exact H2_) | (have H2_ := (Option.bind_some _ _).symm.trans H; with_reducible exact H2_) | with_reducible exact H | (rw [hy427]; exact H) | exact H
           have Ny427 := Aside0.mk hy427
           clear hy427
           have H' := Aside0.mk H
           clear H
           have p425 : 0 ≤ (x15_1 : Int) := of_decide_eq_true za
           have q425 : x15_1 < (y421.length : Int) := of_decide_eq_true za
           obtain ⟨ad425, e425, hx425_0, hx425_1, hx425_2, hx425_3, hx425_4⟩ := at_T60 HR424.out x15_1 p425 q425
           cases e425
           replace hx425_0 := zc HB hx425_0
           replace hx425_1 := zc HB hx425_1
           replace hx425_2 := zc HB hx425_2
           replace hx425_3 := zc HB hx425_3
           replace hx425_4 := zc HB hx425_4
           replace p425 := eq_true p425
           replace q425 := eq_true q425
           go_wp2_with (first | ((with_reducible refine gate_dst (N := 7) rfl ?_); refine box_event ?hg (N := 7) ?hd (cs := #[.string (⟨#[]⟩ : ByteArray), .int .i64 0, .int .i64 0, .int .i64 0, .int .i64 0]) (t := 60) ?hr ?_; (case hd => rfl); (case hg => rfl); (case hr => exact zo); intro gb426 hg w14 hbox hb; replace HO_5 := Aside0.mk (Kd.R_below (Kd.R_elderB (zRa HO_5) gb426 (Nat.le_of_eq hg.symm)) hb); have BK426 := Aside0.mk (hbox); have GW426 := Aside0.mk ((zg hg : w.heap.size ≤ gb426)); have GE426 := Aside0.mk ((zg hg : w.heap.size ≤ gb426)); replace HB := (zs HB hb); clear hb hbox hg; obtain ⟨hcz15_0, hcz15_1, hcz15_2, hcz15_3, hcz15_4, hfz15_0, hfz15_1, hfz15_2, hfz15_3, hfz15_4⟩ := zq5 (w := w14) BK426) | ((with_reducible refine gate_builtin (b := .append) (xs := #[.tmp 27, .tmp 29]) rfl ?_); at_builtin; refine Kd.R_append k60 (w0 := w) w.heap.size rfl (.tmp 27) (.tmp 29) 36 60 (.agg #[(.string ⟨#[]⟩), (.int .i64 0), (.int .i64 0), (.int .i64 0), (.int .i64 0)]) 48 rfl Tryd.underlying36 info60 rfl (by decide) (by omega) u5 x5_1 (⟨((rd_T60 y421 x15_1).f0).extract 0 ((ji10) : Int).toNat, (rd_T60 y421 x15_1).f1, (⟨(rd_T60 y421 x15_1).f2.f0, (rd_T60 y421 x15_1).f2.f1, (rd_T60 y421 x15_1).f2.f2⟩ : S58)⟩ : S60) [.string (((rd_T60 y421 x15_1).f0).extract 0 ((ji10) : Int).toNat), .int .i64 ((rd_T60 y421 x15_1).f1), .int .i64 ((rd_T60 y421 x15_1).f2.f0), .int .i64 ((rd_T60 y421 x15_1).f2.f1), .int .i64 ((rd_T60 y421 x15_1).f2.f2)] (fun k_ => k_ ≠ gb426) (fun _ => False) rfl (by first | (go_simp; done) | (go_simp; rfl)) ?aP (fun _ hk => hk.elim) ?aF ?aO ?aB ?aS ?aL ?_; (case aP => exact k60_mkM _ _ _ (⟨((rd_T60 y421 x15_1).f0).extract 0 ((ji10) : Int).toNat, (rd_T60 y421 x15_1).f1, (⟨(rd_T60 y421 x15_1).f2.f0, (rd_T60 y421 x15_1).f2.f1, (rd_T60 y421 x15_1).f2.f2⟩ : S58)⟩ : S60)); (case aB => exact zb); (case aF => exact (fun k_ hk => Kd.freshB (g := gb426) (o := .cells #[.string (((rd_T60 y421 x15_1).f0).extract 0 ((ji10) : Int).toNat), .int .i64 ((rd_T60 y421 x15_1).f1), .int .i64 ((rd_T60 y421 x15_1).f2.f0), .int .i64 ((rd_T60 y421 x15_1).f2.f1), .int .i64 ((rd_T60 y421 x15_1).f2.f2)] 60 (0, 0)) (by refine blk_put (cs := #[.string ((rd_T60 y421 x15_1).f0), .int .i64 ((rd_T60 y421 x15_1).f1), .int .i64 ((rd_T60 y421 x15_1).f2.f0), .int .i64 ((rd_T60 y421 x15_1).f2.f1), .int .i64 ((rd_T60 y421 x15_1).f2.f2)]) ?_ 0 _ rfl; refine blk_put (cs := #[.string ((rd_T60 y421 x15_1).f0), .int .i64 ((rd_T60 y421 x15_1).f1), .int .i64 ((rd_T60 y421 x15_1).f2.f0), .int .i64 ((rd_T60 y421 x15_1).f2.f1), .int .i64 0]) ?_ 4 _ rfl; refine blk_put (cs := #[.string ((rd_T60 y421 x15_1).f0), .int .i64 ((rd_T60 y421 x15_1).f1), .int .i64 ((rd_T60 y421 x15_1).f2.f0), .int .i64 0, .int .i64 0]) ?_ 3 _ rfl; refine blk_put (cs := #[.string ((rd_T60 y421 x15_1).f0), .int .i64 ((rd_T60 y421 x15_1).f1), .int .i64 0, .int .i64 0, .int .i64 0]) ?_ 2 _ rfl; refine blk_put (cs := #[.string ((rd_T60 y421 x15_1).f0), .int .i64 0, .int .i64 0, .int .i64 0, .int .i64 0]) ?_ 1 _ rfl; refine blk_put (cs := #[.string (⟨#[]⟩ : ByteArray), .int .i64 0, .int .i64 0, .int .i64 0, .int .i64 0]) ?_ 0 _ rfl; exact BK426.out) k_ hk)); (case aO => exact (by (with_reducible repeat (first | apply Kd.R_alloc | apply Kd.R_drewN | apply Kd.R_drew)); exact Kd.R_mono (Kd.R_far (p := ⟨gb426, 0, none⟩) (Kd.R_far (p := ⟨gb426, 4, none⟩) (Kd.R_far (p := ⟨gb426, 3, none⟩) (Kd.R_far (p := ⟨gb426, 2, none⟩) (Kd.R_far (p := ⟨gb426, 1, none⟩) (Kd.R_far (p := ⟨gb426, 0, none⟩) (Kd.R_mono HO_5.out (fun k_ hk => (⟨hk, hk.2⟩ : _ ∧ k_ ≠ gb426))) (fun _ hk => hk.2) (.string ((rd_T60 y421 x15_1).f0))) (fun _ hk => hk.2) (.int .i64 ((rd_T60 y421 x15_1).f1))) (fun _ hk => hk.2) (.int .i64 ((rd_T60 y421 x15_1).f2.f0))) (fun _ hk => hk.2) (.int .i64 ((rd_T60 y421 x15_1).f2.f1))) (fun _ hk => hk.2) (.int .i64 ((rd_T60 y421 x15_1).f2.f2))) (fun _ hk => hk.2) (.string (((rd_T60 y421 x15_1).f0).extract 0 ((ji10) : Int).toNat))) (fun _ hk => hk.1.2))); (case aS => exact (below_size zb)); (case aL => have := LMc13.out; omega); intro v428 w16 ho hb hg hat; rw [← Ny427.out] at ho; have n0_ := Aside0.mk (blk_grown (g := gb426) (o := .cells #[.string (((rd_T60 y421 x15_1).f0).extract 0 ((ji10) : Int).toNat), .int .i64 ((rd_T60 y421 x15_1).f1), .int .i64 ((rd_T60 y421 x15_1).f2.f0), .int .i64 ((rd_T60 y421 x15_1).f2.f1), .int .i64 ((rd_T60 y421 x15_1).f2.f2)] 60 (0, 0)) (by refine blk_put (cs := #[.string ((rd_T60 y421 x15_1).f0), .int .i64 ((rd_T60 y421 x15_1).f1), .int .i64 ((rd_T60 y421 x15_1).f2.f0), .int .i64 ((rd_T60 y421 x15_1).f2.f1), .int .i64 ((rd_T60 y421 x15_1).f2.f2)]) ?_ 0 _ rfl; refine blk_put (cs := #[.string ((rd_T60 y421 x15_1).f0), .int .i64 ((rd_T60 y421 x15_1).f1), .int .i64 ((rd_T60 y421 x15_1).f2.f0), .int .i64 ((rd_T60 y421 x15_1).f2.f1), .int .i64 0]) ?_ 4 _ rfl; refine blk_put (cs := #[.string ((rd_T60 y421 x15_1).f0), .int .i64 ((rd_T60 y421 x15_1).f1), .int .i64 ((rd_T60 y421 x15_1).f2.f0), .int .i64 0, .int .i64 0]) ?_ 3 _ rfl; refine blk_put (cs := #[.string ((rd_T60 y421 x15_1).f0), .int .i64 ((rd_T60 y421 x15_1).f1), .int .i64 0, .int .i64 0, .int .i64 0]) ?_ 2 _ rfl; refine blk_put (cs := #[.string ((rd_T60 y421 x15_1).f0), .int .i64 0, .int .i64 0, .int .i64 0, .int .i64 0]) ?_ 1 _ rfl; refine blk_put (cs := #[.string (⟨#[]⟩ : ByteArray), .int .i64 0, .int .i64 0, .int .i64 0, .int .i64 0]) ?_ 0 _ rfl; exact BK426.out) hg (Kd.R_away HO_5.out (fun _ hk => hk.2))); have n1_ := Aside0.mk (hb); have n2_ := Aside0.mk (ho); clear BK426; clear HB; clear HO_5; have BK426 := n0_; have HB := n1_; have HO429 := n2_; clear n0_ n1_ n2_; clear ho hb hg hat))
           go_roundg k1
           case measure => have := HK1.out; omega
           case rel => exact ⟨(y427), (wrap64 (x15_1 + 1)), zf, H', ⟨by have := HK1.out; omega⟩, ⟨by (with_reducible repeat (first | apply Kd.R_alloc | apply Kd.R_drewN | apply Kd.R_drew)); exact Kd.R_mono HO429.out (fun _ hk => trivial)⟩, ⟨zb⟩⟩
          ·rw [if_neg c13] at H
           exact absurd H (by simp)
         ·rw [if_neg c12] at H
          exact absurd H (by simp)
        ·rw [if_neg c11] at H
         exact absurd H (by simp)
       ·rw [if_neg c9] at H
        exact absurd H (by simp)
      ·rw [if_neg c8] at H
       exact absurd H (by simp)
     ·rw [if_neg c7] at H
      have c7b0 : decide (x15_1 < (y421.length : Int)) = false := decide_eq_false c7
      clear c7
      obtain rfl := Option.some.inj H
      go_wp2
      go_ret
      exact ⟨_, by first | rfl | (simp [errW_none, errW_some] <;> rfl) | (simp only [← hji3]; first | rfl | (simp [errW_none, errW_some] <;> rfl)) | (simp [*, errW_none, errW_some] <;> rfl), by (with_reducible repeat (first | apply Kd.R_alloc | apply Kd.R_drewN | apply Kd.R_drew)); exact HO_5.out, zb⟩
  ·rw [if_neg c5] at H
   exact absurd H (by simp)
 ·rw [if_neg c4] at H
  exact absurd H (by simp)
def backseatlaw08_few.l0 : Nat → List (S38) → List (S38) → Int → Int → Option ((List (S38)))
 | 0, _, _, _, _ => none
 | k + 1, x3, x10, x11, x12 => if x12 < x11 then (if 0 ≤ x12 then (if x12 < (x10.length : Int) then ((backseatlaw08_cells.f k ((rd_T38 x10 x12).f0) 82).bind fun t436 => (if x3.length < 4398046511104 then (backseatlaw08_few.l0 k (x3 ++ [(⟨t436, (rd_T38 x10 x12).f1⟩ : S38)]) x10 x11 (wrap64 (x12 + 1))) else (none))) else (none)) else (none)) else (some x3)
def backseatlaw08_few.f (k : Nat) (l0 : List (S38)) : Option ((List (S38))) := if 0 ≤ (mn (l0.length : Int) 30) then (if (mn (l0.length : Int) 30) ≤ (l0.length : Int) then ((some (l0.take ((mn (l0.length : Int) 30) : Int).toNat : List (S38))).bind fun y430 => (backseatlaw08_few.l0 k ([] : List (S38)) y430 (y430.length : Int) 0)) else (none)) else (none)
def backseatlaw08_few.T5 : Bool × List (List Nat × List Nat) := (true, [([], []), ([], []), ([1], [1]), ([2], [2]), ([], []), ([4], [4]), ([3, 5], [3, 5]), ([6], [6]), ([0, 7, 3], [0, 7]), ([8, 8, 0, 1, 2, 3, 4, 5, 6, 7, 8], [0, 8])])
def backseatlaw08_few.B5 : List Nat := [0, 0, 2, 6, 0, 16, 62, 126, 255, 511]
theorem backseatlaw08_few.tab5 : rtab .any (opsOf Tryd.f17 5) = backseatlaw08_few.T5 := by kernel_rfl
theorem backseatlaw08_few.bits5 : waitsOk backseatlaw08_few.T5.2 backseatlaw08_few.B5 = true := by kernel_rfl
set_option maxHeartbeats 8000000 in
set_option maxRecDepth 100000 in
theorem backseatlaw08_few.calls (k : Nat) (A0 : Option Addr) (c0 : Nat) (l0 : List (S38)) (r : List (S38)) (w : World) (hr0 : Kd.C k38 w A0 l0.length l0) (hc0 : l0.length ≤ c0) (h : backseatlaw08_few.f k l0 = some r) :
  Calls Tryd.prog 17 #[.slice A0 l0.length c0] w fun e w' => ∃ v0_ : Value, e = .returned (v0_) ∧ Kd.S k38 38 w' w.heap.size (fun _ => True) v0_ r ∧ Below w.heap.size w w' := by
 have hu38 := Tryd.underlying38
 have HR0 := Aside0.mk hr0
 have HC0 := Aside0.mk hc0
 clear hr0 hc0
 have HB := Aside0.mk (Below.refl w.heap.size w)
 have H : (if 0 ≤ (mn (l0.length : Int) 30) then (if (mn (l0.length : Int) 30) ≤ (l0.length : Int) then ((some (l0.take ((mn (l0.length : Int) 30) : Int).toNat : List (S38))).bind fun y430 => (backseatlaw08_few.l0 k ([] : List (S38)) y430 (y430.length : Int) 0)) else (none)) else (none)) = some r := h
 clear h
 obtain ⟨ji2, hji2⟩ : ∃ j_ : Int, (mn (l0.length : Int) 30) = j_ := ⟨_, rfl⟩
 replace H : (if 0 ≤ (ji2) then (if (ji2) ≤ (l0.length : Int) then ((some (l0.take ((ji2) : Int).toNat : List (S38))).bind fun y430 => (backseatlaw08_few.l0 k ([] : List (S38)) y430 (y430.length : Int) 0)) else (none)) else (none)) = some r := by first | (rw [hji2] at H; exact H) | (simp only [hji2] at H ⊢; exact H)
 (try (have hji2h : ji2 ≤ 30 := by (rw [← hji2]; unfold mn; (repeat' split) <;> omega)))
 (try (have hji2g : ji2 ≤ 64 := by omega))
 (try (have hji2l : 0 ≤ ji2 := by (rw [← hji2]; unfold mn; (repeat' split) <;> omega)))
 (try (have hji2m : 0 ≤ ji2 := by omega))
 have hji2_ : (if 30 < (l0.length : Int) then 30 else (l0.length : Int)) = ji2 := hji2
 by_cases c3 : 0 ≤ (ji2)
 ·rw [if_pos c3] at H
  have c3b0 := eq_true c3
  have c3b1 : decide (0 ≤ (ji2)) = true := decide_eq_true c3
  clear c3
  by_cases c4 : (ji2) ≤ (l0.length : Int)
  ·rw [if_pos c4] at H
   have c4b0 := eq_true c4
   have c4b1 : decide ((ji2) ≤ (l0.length : Int)) = true := decide_eq_true c4
   clear c4
   obtain ⟨y430, hy430⟩ : ∃ y_ : List (S38), y_ = (l0.take ((ji2) : Int).toNat) := ⟨_, rfl⟩
   replace H : (backseatlaw08_few.l0 k ([] : List (S38)) y430 (y430.length : Int) 0) = some r := by first | (rw [hy430]; with_reducible exact H) | (have H2_ := (Option.bind_some _ _).symm.trans H; rw [hy430]; with_reducible exact H2_) | (have H2_ := (Option.bind_some _ _).symm.trans H; with_reducible exact H2_) | with_reducible exact H | (rw [hy430]; exact H) | exact H
   have Ny430 := Aside0.mk hy430
   clear hy430
   have H' := Aside0.mk H
   clear H
   have q5 : ((ji2) : Int) ≤ ((l0.length : Int) : Int) := of_decide_eq_true za
   obtain ⟨i05, hi05, _, hsz5, _⟩ := info_parts info38
   have hroom5 : l0.length ≤ c0 := HC0.out
   have hC5 : Kd.C k38 _ A0 l0.length l0 := HR0.out
   have hcut5 := cut_to (P := Tryd.prog) 22 38 .i64 Tryd.underlying22 hi05 A0 l0.length c0 (ji2) (of_decide_eq_true za) q5 hroom5
   have hr5 := Kd.C_take (m := ((ji2) : Int).toNat) hC5 (by omega)
   have hy5 : y430.length = ((ji2) : Int).toNat := (by rw [Ny430.out, List.length_take]; omega)
   rw [← Ny430.out] at hr5
   rw [← hy5] at hcut5
   have HR433 := Aside0.mk hr5
   have HC433 := Aside0.mk (show y430.length ≤ c0 from by omega)
   clear hr5 hC5 hroom5 hi05 hsz5
   have KY5 := Aside0.mk hy5
   clear hy5
   replace q5 := eq_true q5
   go_enter Tryd.func17, Tryd.ntmps17
   go_wp2
   go_loopg [3, 12] k (fun kq v3 v12 w' => ∃ (x3_1 : List (S38)) (x12_1 : Int), v12 = .int .i64 x12_1 ∧ Aside0 (backseatlaw08_few.l0 kq x3_1 y430 (y430.length : Int) x12_1 = some r) ∧ Aside0 (kq ≤ k) ∧ Aside0 (Kd.S k38 38 w' w.heap.size (fun _ => True) v3 x3_1) ∧ Aside0 (Below w.heap.size w w'))
   case atStart => exact ⟨(([] : List (S38))), (0), zf, H', ⟨Nat.le_refl _⟩, ⟨by first | exact Kd.S_nil _ _ _ _ _ | exact Kd.N_nil _ _ _ _ _ | exact Kd.V_nil _ _ _ _ _ | exact Kd.Q_nil _ _ _ _ _ | exact Kd.R_nil _ _ _ _ _⟩, ⟨zb⟩⟩
   case round =>
    clear H'
    try clear c3
    try clear c3b0
    try clear c3b1
    try clear c4
    try clear c4b0
    try clear c4b1
    try clear q5
    try clear q5
    obtain ⟨x3_1, x12_1, rfl, HA, HK1, HO_3, HB⟩ := hrel
    cases gk with
    | zero => exact absurd HA.out (by simp [backseatlaw08_few.l0])
    | succ k1 =>
     have H := HA.out
     clear HA
     simp only [backseatlaw08_few.l0] at H
     by_cases c6 : x12_1 < (y430.length : Int)
     ·rw [if_pos c6] at H
      have c6b0 : decide (x12_1 < (y430.length : Int)) = true := decide_eq_true c6
      clear c6
      by_cases c7 : 0 ≤ x12_1
      ·rw [if_pos c7] at H
       have c7b0 : decide (0 ≤ x12_1) = true := decide_eq_true c7
       clear c7
       by_cases c8 : x12_1 < (y430.length : Int)
       ·rw [if_pos c8] at H
        have c8b0 : decide (x12_1 < (y430.length : Int)) = true := decide_eq_true c8
        clear c8
        replace H := Option.bind_eq_some_iff.mp H
        obtain ⟨t436, A90, H⟩ := H
        replace H : (if x3_1.length < 4398046511104 then (backseatlaw08_few.l0 k1 (x3_1 ++ [(⟨t436, (rd_T38 y430 x12_1).f1⟩ : S38)]) y430 (y430.length : Int) (wrap64 (x12_1 + 1))) else (none)) = some r := H
        have A9 := Aside0.mk A90
        clear A90
        by_cases c10 : x3_1.length < 4398046511104
        ·rw [if_pos c10] at H
         have LMc10 := Aside0.mk c10
         clear c10
         obtain ⟨y439, hy439⟩ : ∃ y_ : List (S38), y_ = (x3_1 ++ [(⟨t436, (rd_T38 y430 x12_1).f1⟩ : S38)]) := ⟨_, rfl⟩
         replace H : (backseatlaw08_few.l0 k1 y439 y430 (y430.length : Int) (wrap64 (x12_1 + 1))) = some r := by first | (rw [hy439]; with_reducible exact H) | (have H2_ := (Option.bind_some _ _).symm.trans H; rw [hy439]; with_reducible exact H2_) | (have H2_ := (Option.bind_some _ _).symm.trans H; with_reducible exact H2_) | with_reducible exact H | (rw [hy439]; exact H) | exact H
         have Ny439 := Aside0.mk hy439
         clear hy439
         have H' := Aside0.mk H
         clear H
         have p434 : 0 ≤ (x12_1 : Int) := of_decide_eq_true za
         have q434 : x12_1 < (y430.length : Int) := of_decide_eq_true za
         obtain ⟨ad434, A434_0, c434_0, e434, hx434_0, hx434_1, hl434_0, hi434_0⟩ := at_T38 HR433.out x12_1 p434 q434
         cases e434
         replace hx434_0 := zc HB hx434_0
         replace hx434_1 := zc HB hx434_1
         have HR434_0 := Aside0.mk hi434_0
         have HC434_0 := Aside0.mk hl434_0
         clear hi434_0 hl434_0
         replace p434 := eq_true p434
         replace q434 := eq_true q434
         try go_wp2_with (first | ((with_reducible refine gate_dst (N := 5) rfl ?_); refine box_event ?hg (N := 5) ?hd (cs := #[.slice none 0 0, .bool false]) (t := 38) ?hr ?_; (case hd => rfl); (case hg => rfl); (case hr => exact zo); intro gb435 hg w11 hbox hb; replace HO_3 := Aside0.mk (Kd.S_below (Kd.S_elderB (zSa HO_3) gb435 (Nat.le_of_eq hg.symm)) hb); have BK435 := Aside0.mk (hbox); have GW435 := Aside0.mk ((zg hg : w.heap.size ≤ gb435)); have GE435 := Aside0.mk ((zg hg : w.heap.size ≤ gb435)); replace HB := (zs HB hb); clear hb hbox hg; obtain ⟨hcz12_0, hcz12_1, hfz12_0, hfz12_1⟩ := zq2 (w := w11) BK435))
         have n0_ : Aside0 (Kd.S k38 38 ((w11.setCell ⟨gb435, 0, none⟩ (.slice A434_0 ((rd_T38 y430 x12_1).f0).length c434_0)).setCell ⟨gb435, 1, none⟩ (.bool ((rd_T38 y430 x12_1).f1))) w.heap.size (fun k_ => k_ ≠ gb435) u3 x3_1) := ⟨by (with_reducible repeat (first | apply Kd.S_alloc | apply Kd.S_drewN | apply Kd.S_drew)); exact Kd.S_mono (Kd.S_far (p := ⟨gb435, 1, none⟩) (Kd.S_far (p := ⟨gb435, 0, none⟩) (Kd.S_mono HO_3.out (fun k_ hk => (⟨hk, hk.2⟩ : _ ∧ k_ ≠ gb435))) (fun _ hk => hk.2) (.slice A434_0 ((rd_T38 y430 x12_1).f0).length c434_0)) (fun _ hk => hk.2) (.bool ((rd_T38 y430 x12_1).f1))) (fun _ hk => hk.1.2)⟩
         have n1_ : Aside0 (((w11.setCell ⟨gb435, 0, none⟩ (.slice A434_0 ((rd_T38 y430 x12_1).f0).length c434_0)).setCell ⟨gb435, 1, none⟩ (.bool ((rd_T38 y430 x12_1).f1))).heap[gb435]? = some (.cells #[.slice A434_0 ((rd_T38 y430 x12_1).f0).length c434_0, .bool ((rd_T38 y430 x12_1).f1)] 38 (0, 0))) := ⟨by refine blk_put (cs := #[.slice A434_0 ((rd_T38 y430 x12_1).f0).length c434_0, .bool false]) ?_ 1 _ rfl; refine blk_put (cs := #[.slice none 0 0, .bool false]) ?_ 0 _ rfl; exact BK435.out⟩
         have n2_ : Aside0 (Below w.heap.size w ((w11.setCell ⟨gb435, 0, none⟩ (.slice A434_0 ((rd_T38 y430 x12_1).f0).length c434_0)).setCell ⟨gb435, 1, none⟩ (.bool ((rd_T38 y430 x12_1).f1)))) := ⟨zb⟩
         (try clear HO_3)
         (try clear BK435)
         (try clear HB)
         generalize ((w11.setCell ⟨gb435, 0, none⟩ (.slice A434_0 ((rd_T38 y430 x12_1).f0).length c434_0)).setCell ⟨gb435, 1, none⟩ (.bool ((rd_T38 y430 x12_1).f1))) = w13 at n0_ n1_ n2_ ⊢
         have HO_3 := n0_
         have BK435 := n1_
         have HB := n2_
         clear n0_ n1_ n2_
         have n0_ := Aside0.mk (Kd.S_drew HO_3.out)
         have n1_ := Aside0.mk (blk_drew BK435.out)
         have n2_ := Aside0.mk (below_drew1 HB.out)
         clear HO_3
         clear BK435
         clear HB
         have HO_3 := n0_
         have BK435 := n1_
         have HB := n2_
         clear n0_ n1_ n2_
         refine start_ (n := 10) (S := fun w' => w'.cell? ⟨gb435, 0, none⟩ = some (.slice A434_0 ((rd_T38 y430 x12_1).f0).length c434_0) ∧ w'.cell? ⟨gb435, 1, none⟩ = some (.bool ((rd_T38 y430 x12_1).f1))) (ds := []) #[false, false, false, false, false, false, false, false, false, false] (by kernel_rfl) rfl rfl ⟨(blk_cell BK435.out 0).trans rfl, (blk_cell BK435.out 1).trans rfl⟩ (fun hHeld => ?_); refine with_tabW backseatlaw08_few.tab5 backseatlaw08_few.bits5 (fun HT_ HW_ => ?_)
         generalize w13.drew = w14 at HO_3 BK435 HB hHeld ⊢
         refine pure_ (i := 0) (N := some 16) (v := ?_) (a' := ?_) #[true, false, false, false, false, false, false, false, false, false] rfl rfl (any_of HT_.out (by kernel_rfl)) (fun _ _ _ h => h) (Or.inl ⟨by rfl, ?_⟩) ?_ ?_
         rotate_left
         ·intro w'
          go_simp
          with_reducible rfl
         rotate_left
         ·exact zr
         refine pure_ (i := 1) (N := some 17) (v := ?_) (a' := ?_) #[true, true, false, false, false, false, false, false, false, false] rfl rfl (any_of HT_.out (by kernel_rfl)) (fun _ _ _ h => h) (Or.inl ⟨by rfl, ?_⟩) ?_ ?_
         rotate_left
         ·intro w'
          go_simp
          with_reducible rfl
         rotate_left
         ·exact zr
         refine pure_ (i := 4) (N := some 20) (v := ?_) (a' := ?_) #[true, true, false, false, true, false, false, false, false, false] rfl rfl (any_of HT_.out (by kernel_rfl)) (fun _ _ _ h => h) (Or.inl ⟨by rfl, ?_⟩) ?_ ?_
         rotate_left
         ·intro w'
          go_simp
          with_reducible rfl
         rotate_left
         ·exact zr
         refine take_ (i := 2) (N := some 18) (v := ?_) (a' := ?_) #[true, true, true, false, true, false, false, false, false, false] rfl rfl (take_ofW HT_.out HW_.out (by kernel_rfl)) (fun _ _ _ h => h) (Or.inl ⟨by rfl, ?_⟩) hHeld ?_ ?_
         rotate_left
         ·rintro w' ⟨s0, s1⟩
          go_simp
          with_reducible rfl
         rotate_left
         ·exact zr
         refine take_ (i := 5) (N := some 21) (v := ?_) (a' := ?_) #[true, true, true, false, true, true, false, false, false, false] rfl rfl (take_ofW HT_.out HW_.out (by kernel_rfl)) (fun _ _ _ h => h) (Or.inl ⟨by rfl, ?_⟩) hHeld ?_ ?_
         rotate_left
         ·rintro w' ⟨s0, s1⟩
          go_simp
          with_reducible rfl
         rotate_left
         ·exact zr
         refine one_ (i := 3) (N := some 19) #[true, true, true, true, true, true, false, false, false, false] rfl rfl (one_of HT_.out (by kernel_rfl)) (by decide) (fun K hK => ?_)
         refine goes_ Tryd.func24 (by kernel_rfl) rfl #[.slice A434_0 ((rd_T38 y430 x12_1).f0).length c434_0, .int .i64 82] (by rfl) rfl rfl zl ?_
         with_reducible refine (backseatlaw08_cells.calls k1 _ _ ((rd_T38 y430 x12_1).f0) 82 t436 _ ?side1 ?side2 A9.out).mono ?_
         (case side1 => repeat (first | exact (Kd.C_below HR434_0.out HB.out) | (with_reducible refine Kd.C_alloc ?_ _) | (with_reducible refine Kd.C_drewN ?_ _) | (with_reducible refine Kd.C_drew ?_)))
         (case side2 => exact HC434_0.out)
         rintro e w15 ⟨v437, rfl, ho0, hb⟩
         refine ⟨_, rfl, ?_⟩
         have n0_ := Aside0.mk (Kd.S_elder' (zSa HO_3) (Kd.R_base ho0) hb)
         have n1_ := Aside0.mk (Kd.R_lower ho0 (below_size zb))
         have n2_ := (zk BK435 hb)
         have n3_ := (zs HB hb)
         clear HO_3
         clear BK435
         clear HB
         have HO_3 := n0_
         have HO438 := n1_
         have BK435 := n2_
         have HB := n3_
         clear n0_ n1_ n2_ n3_
         (try clear hb)
         (try clear hb2)
         (try clear hk)
         (try clear hi)
         (try clear ho0)
         obtain ⟨Ao16, co16, eo16⟩ := Kd.R_slice HO438.out
         (first | subst eo16 | (injection eo16 with f1_ f2_ f3_; have f4_ := f1_.symm; have f5_ := f3_.symm; clear f1_ f2_ f3_; subst f4_; subst f5_))
         refine hK.out _ _ ⟨(blk_cell BK435.out 0).trans rfl, (blk_cell BK435.out 1).trans rfl⟩ (fun hHeld => ?_)
         clear hK K
         refine norm_ (a' := ?_) ?_ ?_
         rotate_left
         ·show Act.put _ (some 19) _ = _
          simp only [Act.put, List.setIfInBounds_toArray, List.set_cons_zero, List.set_cons_succ, i64_w, i32_w]
          rfl
         refine pure_ (i := 6) (N := some 22) (v := ?_) (a' := ?_) #[true, true, true, true, true, true, true, false, false, false] rfl rfl (any_of HT_.out (by kernel_rfl)) (fun _ _ _ h => h) (Or.inl ⟨by rfl, ?_⟩) ?_ ?_
         rotate_left
         ·intro w'
          go_simp
          with_reducible rfl
         rotate_left
         ·exact zr
         refine one_ (i := 7) (N := some 23) #[true, true, true, true, true, true, true, true, false, false] rfl rfl (one_of HT_.out (by kernel_rfl)) (by decide) (fun K hK => ?_)
         refine value_ (w1 := ?_) (v := ?_) (by rfl) rfl ?_ ?_
         rotate_left 2
         ·go_simp
          constructor
          ·rfl
          ·rfl
         refine hK.out _ _ ⟨(blk_cell (blk_alloc BK435.out _) 0).trans rfl, (blk_cell (blk_alloc BK435.out _) 1).trans rfl⟩ (fun hHeld => ?_)
         clear hK K
         refine norm_ (a' := ?_) ?_ ?_
         rotate_left
         ·show Act.put _ (some 23) _ = _
          simp only [Act.put, List.setIfInBounds_toArray, List.set_cons_zero, List.set_cons_succ, i64_w, i32_w]
          rfl
         refine one_ (i := 8) (N := some 24) #[true, true, true, true, true, true, true, true, true, false] rfl rfl (one_of HT_.out (by kernel_rfl)) (by decide) (fun K hK => ?_)
         refine Kd.S_append_step k38 (w0 := w) w.heap.size (by rfl) (.tmp 16) (.tmp 23) 22 38 (.agg #[(.slice none 0 0), (.bool false)]) 32 rfl Tryd.underlying22 info38 rfl (by decide) (by omega) u3 x3_1 (⟨t436, (rd_T38 y430 x12_1).f1⟩ : S38) [.slice Ao16 t436.length co16, .bool ((rd_T38 y430 x12_1).f1)] (fun k_ => k_ ≠ gb435) (fun k_ => some k_ = (.slice Ao16 t436.length co16 : Value).ownBlock) rfl rfl ?aP (fun k_ hk_ => ((Kd.R_mono (ok' := fun k_ => ((fun k_ => k_ ≠ gb435)) k_ ∧ some k_ ≠ (u3 : Value).ownBlock) (Kd.R_types (Kd.R_apart' (HO438.out) (Kd.S_typed HO_3.out) (by decide)) BK435.out (by decide)) (fun k_ hk => ⟨hk.2, hk.1.2⟩))).1 k_ hk_.symm) ?aF ?aO ?aB ?aS ?aL ?_
         (case aP => exact k38_mkM _ _ _ (⟨t436, (rd_T38 y430 x12_1).f1⟩ : S38) (Kd.R_mono (Kd.R_tight rfl (Kd.R_mono (ok' := fun k_ => ((fun k_ => k_ ≠ gb435)) k_ ∧ some k_ ≠ (u3 : Value).ownBlock) (Kd.R_types (Kd.R_apart' (HO438.out) (Kd.S_typed HO_3.out) (by decide)) BK435.out (by decide)) (fun k_ hk => ⟨hk.2, hk.1.2⟩))) (fun _ h_ => h_)))
         (case aB => exact zb)
         (case aF => exact (fun k_ hk => Kd.freshB (g := gb435) (o := .cells #[.slice A434_0 ((rd_T38 y430 x12_1).f0).length c434_0, .bool ((rd_T38 y430 x12_1).f1)] 38 (0, 0)) (by exact BK435.out) k_ hk))
         (case aO => exact (by (with_reducible repeat (first | apply Kd.S_alloc | apply Kd.S_drewN | apply Kd.S_drew)); exact Kd.S_mono HO_3.out (fun k_ hk => ⟨hk.1, fun e_ => hk.2 e_⟩)))
         (case aS => exact (below_size zb))
         (case aL => have := LMc10.out; omega)
         intro v440 w17 ho hb hg hat
         rw [← Ny439.out] at ho
         have n0_ := Aside0.mk (blk_grown (g := gb435) (o := .cells #[.slice A434_0 ((rd_T38 y430 x12_1).f0).length c434_0, .bool ((rd_T38 y430 x12_1).f1)] 38 (0, 0)) (by exact BK435.out) hg (Kd.S_away HO_3.out (fun _ hk => hk.1)))
         have n1_ := Aside0.mk (hb)
         have n2_ := Aside0.mk (ho)
         clear BK435
         clear HB
         clear HO_3
         clear HO438
         have BK435 := n0_
         have HB := n1_
         have HO441 := n2_
         clear n0_ n1_ n2_
         clear ho hb hg hat
         refine hK.out _ _ ⟨(blk_cell BK435.out 0).trans rfl, (blk_cell BK435.out 1).trans rfl⟩ (fun hHeld => ?_)
         clear hK K
         refine norm_ (a' := ?_) ?_ ?_
         rotate_left
         ·show Act.put _ (some 24) _ = _
          simp only [Act.put, List.setIfInBounds_toArray, List.set_cons_zero, List.set_cons_succ, i64_w, i32_w]
          rfl
         refine pure_ (i := 9) (N := some 3) (v := ?_) (a' := ?_) #[true, true, true, true, true, true, true, true, true, true] rfl rfl (any_of HT_.out (by kernel_rfl)) (fun _ _ _ h => h) (Or.inl ⟨by rfl, ?_⟩) ?_ ?_
         rotate_left
         ·intro w'
          go_simp
          with_reducible rfl
         rotate_left
         ·exact zr
         refine done_ (done_of HT_.out (by kernel_rfl)) ?_
         try go_wp2
         go_roundg k1
         case measure => have := HK1.out; omega
         case rel => exact ⟨(y439), (wrap64 (x12_1 + 1)), zf, H', ⟨by have := HK1.out; omega⟩, ⟨by (with_reducible repeat (first | apply Kd.S_alloc | apply Kd.S_drewN | apply Kd.S_drew)); exact Kd.S_mono HO441.out (fun _ hk => trivial)⟩, ⟨zb⟩⟩
        ·rw [if_neg c10] at H
         exact absurd H (by simp)
       ·rw [if_neg c8] at H
        exact absurd H (by simp)
      ·rw [if_neg c7] at H
       exact absurd H (by simp)
     ·rw [if_neg c6] at H
      have c6b0 : decide (x12_1 < (y430.length : Int)) = false := decide_eq_false c6
      clear c6
      obtain rfl := Option.some.inj H
      go_wp2
      go_ret
      exact ⟨_, by first | rfl | (simp [errW_none, errW_some] <;> rfl) | (simp only [← hji2]; first | rfl | (simp [errW_none, errW_some] <;> rfl)) | (simp [*, errW_none, errW_some] <;> rfl), by (with_reducible repeat (first | apply Kd.S_alloc | apply Kd.S_drewN | apply Kd.S_drew)); exact HO_3.out, zb⟩
  ·rw [if_neg c4] at H
   exact absurd H (by simp)
 ·rw [if_neg c3] at H
  exact absurd H (by simp)
def backseatref08_Blank.f (a0_0 : ByteArray) (a0_1 : Int) (a0_2 : Int) (a0_3 : Int) (a0_4 : Int) : Option (Bool) := if a0_0.toList = ([] : List UInt8) then (if a0_1 = 1 then (if a0_2 = 0 then (if a0_3 = 0 then (some (a0_4 == 0)) else (some false)) else (some false)) else (some false)) else (some false)
set_option maxHeartbeats 8000000 in
set_option maxRecDepth 100000 in
theorem backseatref08_Blank.calls (a0_0 : ByteArray) (a0_1 : Int) (a0_2 : Int) (a0_3 : Int) (a0_4 : Int) (r : Bool) (w : World) (h : backseatref08_Blank.f a0_0 a0_1 a0_2 a0_3 a0_4 = some r) :
  Calls Tryd.prog 49 #[.agg #[.string a0_0, .int .i64 a0_1, .int .i64 a0_2, .int .i64 a0_3, .int .i64 a0_4]] w fun e w' => e = .returned (.bool r) ∧ Below w.heap.size w w' := by
 have hu60 := Tryd.underlying60
 have HB := Aside0.mk (Below.refl w.heap.size w)
 have H : (if a0_0.toList = ([] : List UInt8) then (if a0_1 = 1 then (if a0_2 = 0 then (if a0_3 = 0 then (some (a0_4 == 0)) else (some false)) else (some false)) else (some false)) else (some false)) = some r := h
 clear h
 by_cases c2 : a0_0.toList = ([] : List UInt8)
 ·rw [if_pos c2] at H
  have c2b0 : (a0_0.toList == ([] : List UInt8)) = true := beq_iff_eq.mpr c2
  have c2b1 : (a0_0.toList != ([] : List UInt8)) = false := bne_eq_false_iff_eq.mpr c2
  clear c2
  by_cases c3 : a0_1 = 1
  ·rw [if_pos c3] at H
   have c3b0 : (a0_1 == 1) = true := beq_iff_eq.mpr c3
   have c3b1 : (a0_1 != 1) = false := bne_eq_false_iff_eq.mpr c3
   clear c3
   by_cases c4 : a0_2 = 0
   ·rw [if_pos c4] at H
    have c4b0 : (a0_2 == 0) = true := beq_iff_eq.mpr c4
    have c4b1 : (a0_2 != 0) = false := bne_eq_false_iff_eq.mpr c4
    clear c4
    by_cases c5 : a0_3 = 0
    ·rw [if_pos c5] at H
     have c5b0 : (a0_3 == 0) = true := beq_iff_eq.mpr c5
     have c5b1 : (a0_3 != 0) = false := bne_eq_false_iff_eq.mpr c5
     clear c5
     obtain rfl := Option.some.inj H
     go_enter Tryd.func49, Tryd.ntmps49
     go_wp2_with (first | ((with_reducible refine gate_dst (N := 1) rfl ?_); refine box_event ?hg (N := 1) ?hd (cs := #[.string a0_0, .int .i64 a0_1, .int .i64 a0_2, .int .i64 a0_3, .int .i64 a0_4]) (t := 60) ?hr ?_; (case hd => rfl); (case hg => rfl); (case hr => exact zo); intro gb463 hg w6 hbox hb; have BK463 := Aside0.mk (hbox); have GW463 := Aside0.mk ((zg hg : w.heap.size ≤ gb463)); have GE463 := Aside0.mk ((zg hg : w.heap.size ≤ gb463)); replace HB := (zs HB hb); clear hb hbox hg; obtain ⟨hcz7_0, hcz7_1, hcz7_2, hcz7_3, hcz7_4, hfz7_0, hfz7_1, hfz7_2, hfz7_3, hfz7_4⟩ := zq5 (w := w6) BK463))
     go_ret
     exact ⟨ze, zb⟩
    ·rw [if_neg c5] at H
     have c5b0 : (a0_3 == 0) = false := beq_eq_false_iff_ne.mpr c5
     have c5b1 : (a0_3 != 0) = true := bne_iff_ne.mpr c5
     obtain rfl := Option.some.inj H
     go_enter Tryd.func49, Tryd.ntmps49
     go_wp2_with (first | ((with_reducible refine gate_dst (N := 1) rfl ?_); refine box_event ?hg (N := 1) ?hd (cs := #[.string a0_0, .int .i64 a0_1, .int .i64 a0_2, .int .i64 a0_3, .int .i64 a0_4]) (t := 60) ?hr ?_; (case hd => rfl); (case hg => rfl); (case hr => exact zo); intro gb463 hg w8 hbox hb; have BK463 := Aside0.mk (hbox); have GW463 := Aside0.mk ((zg hg : w.heap.size ≤ gb463)); have GE463 := Aside0.mk ((zg hg : w.heap.size ≤ gb463)); replace HB := (zs HB hb); clear hb hbox hg; obtain ⟨hcz9_0, hcz9_1, hcz9_2, hcz9_3, hcz9_4, hfz9_0, hfz9_1, hfz9_2, hfz9_3, hfz9_4⟩ := zq5 (w := w8) BK463))
     go_ret
     exact ⟨ze, zb⟩
   ·rw [if_neg c4] at H
    have c4b0 : (a0_2 == 0) = false := beq_eq_false_iff_ne.mpr c4
    have c4b1 : (a0_2 != 0) = true := bne_iff_ne.mpr c4
    obtain rfl := Option.some.inj H
    go_enter Tryd.func49, Tryd.ntmps49
    go_wp2_with (first | ((with_reducible refine gate_dst (N := 1) rfl ?_); refine box_event ?hg (N := 1) ?hd (cs := #[.string a0_0, .int .i64 a0_1, .int .i64 a0_2, .int .i64 a0_3, .int .i64 a0_4]) (t := 60) ?hr ?_; (case hd => rfl); (case hg => rfl); (case hr => exact zo); intro gb463 hg w10 hbox hb; have BK463 := Aside0.mk (hbox); have GW463 := Aside0.mk ((zg hg : w.heap.size ≤ gb463)); have GE463 := Aside0.mk ((zg hg : w.heap.size ≤ gb463)); replace HB := (zs HB hb); clear hb hbox hg; obtain ⟨hcz11_0, hcz11_1, hcz11_2, hcz11_3, hcz11_4, hfz11_0, hfz11_1, hfz11_2, hfz11_3, hfz11_4⟩ := zq5 (w := w10) BK463))
    go_ret
    exact ⟨ze, zb⟩
  ·rw [if_neg c3] at H
   have c3b0 : (a0_1 == 1) = false := beq_eq_false_iff_ne.mpr c3
   have c3b1 : (a0_1 != 1) = true := bne_iff_ne.mpr c3
   obtain rfl := Option.some.inj H
   go_enter Tryd.func49, Tryd.ntmps49
   go_wp2_with (first | ((with_reducible refine gate_dst (N := 1) rfl ?_); refine box_event ?hg (N := 1) ?hd (cs := #[.string a0_0, .int .i64 a0_1, .int .i64 a0_2, .int .i64 a0_3, .int .i64 a0_4]) (t := 60) ?hr ?_; (case hd => rfl); (case hg => rfl); (case hr => exact zo); intro gb463 hg w12 hbox hb; have BK463 := Aside0.mk (hbox); have GW463 := Aside0.mk ((zg hg : w.heap.size ≤ gb463)); have GE463 := Aside0.mk ((zg hg : w.heap.size ≤ gb463)); replace HB := (zs HB hb); clear hb hbox hg; obtain ⟨hcz13_0, hcz13_1, hcz13_2, hcz13_3, hcz13_4, hfz13_0, hfz13_1, hfz13_2, hfz13_3, hfz13_4⟩ := zq5 (w := w12) BK463))
   go_ret
   exact ⟨ze, zb⟩
 ·rw [if_neg c2] at H
  have c2b0 : (a0_0.toList == ([] : List UInt8)) = false := beq_eq_false_iff_ne.mpr c2
  have c2b1 : (a0_0.toList != ([] : List UInt8)) = true := bne_iff_ne.mpr c2
  obtain rfl := Option.some.inj H
  go_enter Tryd.func49, Tryd.ntmps49
  go_wp2_with (first | ((with_reducible refine gate_dst (N := 1) rfl ?_); refine box_event ?hg (N := 1) ?hd (cs := #[.string a0_0, .int .i64 a0_1, .int .i64 a0_2, .int .i64 a0_3, .int .i64 a0_4]) (t := 60) ?hr ?_; (case hd => rfl); (case hg => rfl); (case hr => exact zo); intro gb463 hg w14 hbox hb; have BK463 := Aside0.mk (hbox); have GW463 := Aside0.mk ((zg hg : w.heap.size ≤ gb463)); have GE463 := Aside0.mk ((zg hg : w.heap.size ≤ gb463)); replace HB := (zs HB hb); clear hb hbox hg; obtain ⟨hcz15_0, hcz15_1, hcz15_2, hcz15_3, hcz15_4, hfz15_0, hfz15_1, hfz15_2, hfz15_3, hfz15_4⟩ := zq5 (w := w14) BK463))
  go_ret
  exact ⟨ze, zb⟩
mutual
def backseatref08_Join.l0 : Nat → List (S38) → List (List (S60)) → List (S60) → List (S38) → Int → Int → Option ((List (List (S60))))
 | 0, _, _, _, _, _, _ => none
 | k + 1, x0, x3, x4, x10, x11, x12 => if x12 < x11 then (if 0 ≤ x12 then (if x12 < (x10.length : Int) then (if x4.length + ((rd_T38 x10 x12).f0).length < 2932031007402 then ((some (x4 ++ ((rd_T38 x10 x12).f0) : List (S60))).bind fun y472 => (if (rd_T38 x10 x12).f1 = true then (backseatref08_Join.j1 k x0 x3 y472 x10 x11 x12 (decide ((wrap64 (x12 + 1)) < (x0.length : Int)))) else (backseatref08_Join.j1 k x0 x3 y472 x10 x11 x12 false))) else (none)) else (none)) else (none)) else (some x3)
def backseatref08_Join.j1 : Nat → List (S38) → List (List (S60)) → List (S60) → List (S38) → Int → Int → Bool → Option ((List (List (S60))))
 | 0, _, _, _, _, _, _, _ => none
 | k + 1, x0, x3, x4, x10, x11, x12, x29 => if x29 = true then (backseatref08_Join.l0 k x0 x3 x4 x10 x11 (wrap64 (x12 + 1))) else (backseatref08_Join.l1 k x0 x3 x4 (x4.length : Int) x10 x11 x12)
def backseatref08_Join.l1 : Nat → List (S38) → List (List (S60)) → List (S60) → Int → List (S38) → Int → Int → Option ((List (List (S60))))
 | 0, _, _, _, _, _, _, _ => none
 | k + 1, x0, x3, x4, x7, x10, x11, x12 => if x7 > 0 then (if 0 ≤ (wrap64 (x7 - 1)) then (if (wrap64 (x7 - 1)) < (x4.length : Int) then ((backseatref08_Blank.f ((rd_T60 x4 (wrap64 (x7 - 1))).f0) ((rd_T60 x4 (wrap64 (x7 - 1))).f1) ((rd_T60 x4 (wrap64 (x7 - 1))).f2.f0) ((rd_T60 x4 (wrap64 (x7 - 1))).f2.f1) ((rd_T60 x4 (wrap64 (x7 - 1))).f2.f2)).bind fun t476 => (if t476 = true then (backseatref08_Join.l1 k x0 x3 x4 (wrap64 (x7 - 1)) x10 x11 x12) else (if 0 ≤ x7 then (if x7 ≤ (x4.length : Int) then (if x3.length < 5864062014805 then (backseatref08_Join.l0 k x0 (x3 ++ [(x4.take (x7 : Int).toNat)]) (([] : List (S60))) x10 x11 (wrap64 (x12 + 1))) else (none)) else (none)) else (none)))) else (none)) else (none)) else (if 0 ≤ x7 then (if x7 ≤ (x4.length : Int) then (if x3.length < 5864062014805 then (backseatref08_Join.l0 k x0 (x3 ++ [(x4.take (x7 : Int).toNat)]) (([] : List (S60))) x10 x11 (wrap64 (x12 + 1))) else (none)) else (none)) else (none))
end
def backseatref08_Join.f (k : Nat) (l0 : List (S38)) : Option ((List (List (S60)))) := backseatref08_Join.l0 k l0 (([] : List (List (S60)))) (([] : List (S60))) l0 (l0.length : Int) 0
set_option maxHeartbeats 8000000 in
set_option maxRecDepth 100000 in
theorem backseatref08_Join.calls (k : Nat) (A0 : Option Addr) (c0 : Nat) (l0 : List (S38)) (r : List (List (S60))) (w : World) (hr0 : Kd.C k38 w A0 l0.length l0) (hc0 : l0.length ≤ c0) (h : backseatref08_Join.f k l0 = some r) :
  Calls Tryd.prog 21 #[.slice A0 l0.length c0] w fun e w' => ∃ v0_ : Value, e = .returned (v0_) ∧ Kd.N (Kd.slice 60 k60) 36 w' w.heap.size (fun k_ => (w.heap.size ≤ k_)) v0_ r ∧ Below w.heap.size w w' := by
 have hu38 := Tryd.underlying38
 have hu60 := Tryd.underlying60
 have HR0 := Aside0.mk hr0
 have HC0 := Aside0.mk hc0
 clear hr0 hc0
 have HB := Aside0.mk (Below.refl w.heap.size w)
 have H : (backseatref08_Join.l0 k l0 (([] : List (List (S60)))) (([] : List (S60))) l0 (l0.length : Int) 0) = some r := h
 clear h
 obtain ⟨y464, hy464⟩ : ∃ y_ : List (List (S60)), y_ = (([] : List (List (S60)))) := ⟨_, rfl⟩
 replace H : (backseatref08_Join.l0 k l0 y464 (([] : List (S60))) l0 (l0.length : Int) 0) = some r := by first | (rw [hy464]; with_reducible exact H) | (have H2_ := (Option.bind_some _ _).symm.trans H; rw [hy464]; with_reducible exact H2_) | (have H2_ := (Option.bind_some _ _).symm.trans H; with_reducible exact H2_) | with_reducible exact H | (rw [hy464]; exact H) | exact H
 have Ny464 := Aside0.mk hy464
 clear hy464
 obtain ⟨y467, hy467⟩ : ∃ y_ : List (S60), y_ = (([] : List (S60))) := ⟨_, rfl⟩
 replace H : (backseatref08_Join.l0 k l0 y464 y467 l0 (l0.length : Int) 0) = some r := by first | (rw [hy467]; with_reducible exact H) | (have H2_ := (Option.bind_some _ _).symm.trans H; rw [hy467]; with_reducible exact H2_) | (have H2_ := (Option.bind_some _ _).symm.trans H; with_reducible exact H2_) | with_reducible exact H | (rw [hy467]; exact H) | exact H
 have Ny467 := Aside0.mk hy467
 clear hy467
 have H' := Aside0.mk H
 clear H
 go_enter Tryd.func21, Tryd.ntmps21
 go_wp2_with (first | ((with_reducible refine gate_dst (N := 8) rfl ?_); (try (refine gate_guard (by rfl) ?_; dsimp only)); refine Kd.N_lit (Kd.slice 60 k60) _ 36 ?hg (N' := 8) ?hd (xs := ([] : List (List (S60)))) (inner := []) (ok := (fun k_ => (w.heap.size ≤ k_))) (okp := (fun k_ => (w.heap.size ≤ k_))) ?hr ?hp (fun _ hk => hk) ((show ∀ k_, w.heap.size ≤ k_ → (fun k_ => (w.heap.size ≤ k_)) k_ from fun k_ hk => (Nat.le_trans (below_size zb) hk)) _ (Nat.le_refl _)) (Below.refl _ _) (Nat.le_refl _) (by simp) ?_; (case hd => rfl); (case hg => rfl); (case hr => exact zo); (case hp => exact (Reps.none _ _)); intro v465 w2 ho3 hb hg_ hnew_; clear hg_ hnew_; (first | rw [← Ny464.out] at ho3 | (simp only [Int.reduceToNat] at ho3; rw [← Ny464.out] at ho3)); have HO466 := Aside0.mk (Kd.N_lower ho3 (below_size zb)); replace HB := (zs HB hb); clear hb ho3) | ((with_reducible refine gate_dst (N := 9) rfl ?_); (try (refine gate_guard (by rfl) ?_; dsimp only)); refine Kd.R_lit k60 _ 60 ?hg (N := 9) ?hd (xs := ([] : List (S60))) (inner := []) (ok := fun _ => True) (okp := fun _ => True) ?hr ?hp (fun _ hk => hk) trivial (Below.refl _ _) (Nat.le_refl _) (by simp) ?_; (case hd => rfl); (case hg => rfl); (case hr => exact zo); (case hp => exact (Reps.none _ _)); intro v468 w4 ho5 hb hg_ hnew_; clear hg_ hnew_; (first | rw [← Ny467.out] at ho5 | (simp only [Int.reduceToNat] at ho5; rw [← Ny467.out] at ho5)); replace HO466 := Aside0.mk (Kd.N_elder' (zNa HO466) (Kd.R_base ho5) hb); have HO469 := Aside0.mk (Kd.R_lower (Kd.R_newM (M := fun k_ => (w.heap.size ≤ k_)) ho5 (below_size zb) (fun k_ h_ => h_)) (below_size zb)); replace HB := (zs HB hb); clear hb ho5))
 go_loopg [3, 4, 12] k (fun kq v3 v4 v12 w' => ∃ (x3_1 : List (List (S60))) (x4_1 : List (S60)) (x12_1 : Int), v12 = .int .i64 x12_1 ∧ Aside0 (backseatref08_Join.l0 kq l0 x3_1 x4_1 l0 (l0.length : Int) x12_1 = some r) ∧ Aside0 (kq ≤ k) ∧ Aside0 (Kd.N (Kd.slice 60 k60) 36 w' w.heap.size (fun k_ => (w.heap.size ≤ k_) ∧ some k_ ≠ (v4 : Value).ownBlock) v3 x3_1) ∧ Aside0 (Kd.R k60 60 w' w.heap.size (fun k_ => (w.heap.size ≤ k_)) v4 x4_1) ∧ Aside0 (Below w.heap.size w w'))
 case atStart => exact ⟨(y464), (y467), (0), zf, H', ⟨Nat.le_refl _⟩, ⟨by (with_reducible repeat (first | apply Kd.N_alloc | apply Kd.N_drewN | apply Kd.N_drew)); exact HO466.out⟩, ⟨by (with_reducible repeat (first | apply Kd.R_alloc | apply Kd.R_drewN | apply Kd.R_drew)); exact Kd.R_mono HO469.out (fun _ hk => hk.1)⟩, ⟨zb⟩⟩
 case round =>
  clear H'
  obtain ⟨x3_1, x4_1, x12_1, rfl, HA, HK1, HO_3, HO_4, HB⟩ := hrel
  cases gk with
  | zero => exact absurd HA.out (by simp [backseatref08_Join.l0])
  | succ k1 =>
   have H := HA.out
   clear HA
   simp only [backseatref08_Join.l0] at H
   by_cases c6 : x12_1 < (l0.length : Int)
   ·rw [if_pos c6] at H
    have c6b0 : decide (x12_1 < (l0.length : Int)) = true := decide_eq_true c6
    clear c6
    by_cases c7 : 0 ≤ x12_1
    ·rw [if_pos c7] at H
     have c7b0 : decide (0 ≤ x12_1) = true := decide_eq_true c7
     clear c7
     by_cases c8 : x12_1 < (l0.length : Int)
     ·rw [if_pos c8] at H
      have c8b0 : decide (x12_1 < (l0.length : Int)) = true := decide_eq_true c8
      clear c8
      by_cases c9 : x4_1.length + ((rd_T38 l0 x12_1).f0).length < 2932031007402
      ·rw [if_pos c9] at H
       have LMc9 := Aside0.mk c9
       clear c9
       obtain ⟨y472, hy472⟩ : ∃ y_ : List (S60), y_ = (x4_1 ++ ((rd_T38 l0 x12_1).f0)) := ⟨_, rfl⟩
       replace H : (if (rd_T38 l0 x12_1).f1 = true then (backseatref08_Join.j1 k1 l0 x3_1 y472 l0 (l0.length : Int) x12_1 (decide ((wrap64 (x12_1 + 1)) < (l0.length : Int)))) else (backseatref08_Join.j1 k1 l0 x3_1 y472 l0 (l0.length : Int) x12_1 false)) = some r := by first | (rw [hy472]; with_reducible exact H) | (have H2_ := (Option.bind_some _ _).symm.trans H; rw [hy472]; with_reducible exact H2_) | (have H2_ := (Option.bind_some _ _).symm.trans H; with_reducible exact H2_) | with_reducible exact H | (rw [hy472]; exact H) | exact H
       have Ny472 := Aside0.mk hy472
       clear hy472
       have HC10 := Aside0.mk H
       clear H
       have p470 : 0 ≤ (x12_1 : Int) := of_decide_eq_true za
       have q470 : x12_1 < (l0.length : Int) := of_decide_eq_true za
       obtain ⟨ad470, A470_0, c470_0, e470, hx470_0, hx470_1, hl470_0, hi470_0⟩ := at_T38 HR0.out x12_1 p470 q470
       cases e470
       replace hx470_0 := zc HB hx470_0
       replace hx470_1 := zc HB hx470_1
       have HR470_0 := Aside0.mk hi470_0
       have HC470_0 := Aside0.mk hl470_0
       clear hi470_0 hl470_0
       replace p470 := eq_true p470
       replace q470 := eq_true q470
       go_upto_region 7 with (first | ((with_reducible refine gate_dst (N := 6) rfl ?_); (try (refine gate_guard (by rfl) ?_; dsimp only)); refine box_event ?hg (N := 6) ?hd (cs := #[.slice none 0 0, .bool false]) (t := 38) ?hr ?_; (case hd => rfl); (case hg => rfl); (case hr => exact zo); intro gb471 hg w11 hbox hb; replace HO_3 := Aside0.mk (Kd.N_below (Kd.N_elderB (zNa HO_3) gb471 (Nat.le_of_eq hg.symm)) hb); replace HO_4 := (zR HO_4 hb); have BK471 := Aside0.mk (hbox); have GW471 := Aside0.mk ((zg hg : w.heap.size ≤ gb471)); have GE471 := Aside0.mk ((zg hg : w.heap.size ≤ gb471)); replace HB := (zs HB hb); clear hb hbox hg; obtain ⟨hcz12_0, hcz12_1, hfz12_0, hfz12_1⟩ := zq2 (w := w11) BK471) | ((with_reducible refine gate_builtin (b := .append) (xs := #[.tmp 17, .tmp 19]) rfl ?_); (try (refine gate_guard (by rfl) ?_; dsimp only)); at_builtin; refine Kd.R_append_rows k60 (w0 := w) w.heap.size rfl (.tmp 17) (.tmp 19) 36 60 (.agg #[(.string ⟨#[]⟩), (.int .i64 0), (.int .i64 0), (.int .i64 0), (.int .i64 0)]) 48 rfl Tryd.underlying36 info60 rfl (by decide) (by omega) u4 x4_1 ((rd_T38 l0 x12_1).f0) _ _ _ (fun k_ => (w.heap.size ≤ k_)) (fun _ => False) rfl rfl ?aO ?aR (fun _ _ h => h) (fun _ h => h.elim) ?aF ?aB ?aS ?aL ?_; (case aR => exact Kd.C_below HR470_0.out zb); (case aB => exact zb); (case aF => exact (fun k_ hk => (Nat.le_trans (below_size zb) hk))); (case aO => exact (by (with_reducible repeat (first | apply Kd.R_alloc | apply Kd.R_drewN | apply Kd.R_drew)); exact Kd.R_mono (Kd.R_far (p := ⟨gb471, 1, none⟩) (Kd.R_far (p := ⟨gb471, 0, none⟩) (Kd.R_types HO_4.out BK471.out (by decide)) (fun _ hk => hk.2) (.slice A470_0 ((rd_T38 l0 x12_1).f0).length c470_0)) (fun _ hk => hk.2) (.bool ((rd_T38 l0 x12_1).f1))) (fun _ hk => hk.1))); (case aS => exact (below_size zb)); (case aL => have := LMc9.out; omega); intro v473 w13 ho hb hg hat; rw [← Ny472.out] at ho; have n0_ := Aside0.mk (Kd.N_afterv (ok := (fun k_ => (w.heap.size ≤ k_) ∧ k_ ≠ gb471)) (by (with_reducible repeat (first | apply Kd.N_alloc | apply Kd.N_drewN | apply Kd.N_drew)); exact Kd.N_mono (Kd.N_far (p := ⟨gb471, 1, none⟩) (Kd.N_far (p := ⟨gb471, 0, none⟩) (Kd.N_mono HO_3.out (fun k_ hk => (⟨hk, hk.2⟩ : _ ∧ k_ ≠ gb471))) (fun _ hk => hk.2) (.slice A470_0 ((rd_T38 l0 x12_1).f0).length c470_0)) (fun _ hk => hk.2) (.bool ((rd_T38 l0 x12_1).f1))) (fun _ hk => ⟨⟨hk.1.1.1, hk.1.2⟩, hk.1.1.2⟩)) hg hat); have n1_ := Aside0.mk (blk_grown (g := gb471) (o := .cells #[.slice A470_0 ((rd_T38 l0 x12_1).f0).length c470_0, .bool ((rd_T38 l0 x12_1).f1)] 38 (0, 0)) (by refine blk_put (cs := #[.slice A470_0 ((rd_T38 l0 x12_1).f0).length c470_0, .bool false]) ?_ 1 _ rfl; refine blk_put (cs := #[.slice none 0 0, .bool false]) ?_ 0 _ rfl; exact BK471.out) hg (Kd.R_ne HO_4.out BK471.out (by decide))); have n2_ := Aside0.mk (hb); have n3_ := Aside0.mk (ho); clear HO_3; clear BK471; clear HB; clear HO_4; have HO_3 := n0_; have BK471 := n1_; have HB := n2_; have HO474 := n3_; clear n0_ n1_ n2_ n3_; clear ho hb hg hat))
       (try simp only [Act.put, List.setIfInBounds_toArray, List.set_cons_zero, List.set_cons_succ])
       go_cut [29] (fun v29 wc => ∃ (kq : Nat) (x29_9 : Bool), v29 = .bool x29_9 ∧ Aside0 (backseatref08_Join.j1 kq l0 x3_1 y472 l0 (l0.length : Int) x12_1 x29_9 = some r) ∧ Aside0 (kq ≤ k1) ∧ Aside0 (Kd.N (Kd.slice 60 k60) 36 wc w.heap.size (fun k_ => (w.heap.size ≤ k_) ∧ some k_ ≠ (v473 : Value).ownBlock ∧ k_ ≠ gb471) u3 x3_1) ∧ Aside0 (Kd.R k60 60 wc w.heap.size (fun k_ => (w.heap.size ≤ k_)) v473 y472) ∧ Aside0 (wc.heap[gb471]? = some (.cells #[(.slice A470_0 ((rd_T38 l0 x12_1).f0).length c470_0), .bool ((rd_T38 l0 x12_1).f1)] 38 (0, 0))) ∧ Aside0 (Below w.heap.size w wc))
       case first =>
        have H := HC10.out
        clear HC10
        obtain ⟨bq14, hbq14⟩ : ∃ b_ : Bool, b_ = ((rd_T38 l0 x12_1).f1) := ⟨_, rfl⟩
        replace H : (if bq14 = true then (backseatref08_Join.j1 k1 l0 x3_1 y472 l0 (l0.length : Int) x12_1 (decide ((wrap64 (x12_1 + 1)) < (l0.length : Int)))) else (backseatref08_Join.j1 k1 l0 x3_1 y472 l0 (l0.length : Int) x12_1 false)) = some r := by rw [← hbq14] at H; exact H
        have Nbq14 := Aside0.mk hbq14
        clear hbq14
        (try rw [← Nbq14.out])
        by_cases c15 : bq14 = true
        ·subst c15
         have H1 : (backseatref08_Join.j1 k1 l0 x3_1 y472 l0 (l0.length : Int) x12_1 (decide ((wrap64 (x12_1 + 1)) < (l0.length : Int)))) = some r := by rw [if_pos rfl] at H; exact H
         clear H
         have H := H1
         clear H1
         have H' := Aside0.mk H
         clear H
         have hcz16_0 : w13.cell? ⟨gb471, 0, none⟩ = some (.slice A470_0 ((rd_T38 l0 x12_1).f0).length c470_0) := (blk_cell BK471.out 0).trans (by first | rfl | (rw [← Nbq14.out]; rfl) | (rw [Nbq14.out]; rfl))
         have hcz16_1 : w13.cell? ⟨gb471, 1, none⟩ = some (.bool true) := (blk_cell BK471.out 1).trans (by first | rfl | (rw [← Nbq14.out]; rfl) | (rw [Nbq14.out]; rfl))
         have hfz16_0 := blk_frozen BK471.out 0
         have hfz16_1 := blk_frozen BK471.out 1
         go_wp2
         go_meet
         case rel => exact ⟨_, (decide ((wrap64 (x12_1 + 1)) < (l0.length : Int))), zf, H', ⟨by have := HK1.out; first | omega | exact Nat.le_refl _⟩, ⟨by (with_reducible repeat (first | apply Kd.N_alloc | apply Kd.N_drewN | apply Kd.N_drew)); exact Kd.N_mono HO_3.out (fun _ hk => ⟨hk.1.1, ⟨hk.2, hk.1.2⟩⟩)⟩, ⟨by (with_reducible repeat (first | apply Kd.R_alloc | apply Kd.R_drewN | apply Kd.R_drew)); exact HO474.out⟩, ⟨by exact BK471.out⟩, ⟨zb⟩⟩
        ·replace c15 := Bool.eq_false_iff.mpr c15
         subst c15
         have H1 : (backseatref08_Join.j1 k1 l0 x3_1 y472 l0 (l0.length : Int) x12_1 false) = some r := by rw [if_neg (show ¬ (false = true) by decide)] at H; exact H
         clear H
         have H := H1
         clear H1
         have H' := Aside0.mk H
         clear H
         have hcz17_0 : w13.cell? ⟨gb471, 0, none⟩ = some (.slice A470_0 ((rd_T38 l0 x12_1).f0).length c470_0) := (blk_cell BK471.out 0).trans (by first | rfl | (rw [← Nbq14.out]; rfl) | (rw [Nbq14.out]; rfl))
         have hcz17_1 : w13.cell? ⟨gb471, 1, none⟩ = some (.bool false) := (blk_cell BK471.out 1).trans (by first | rfl | (rw [← Nbq14.out]; rfl) | (rw [Nbq14.out]; rfl))
         have hfz17_0 := blk_frozen BK471.out 0
         have hfz17_1 := blk_frozen BK471.out 1
         go_wp2
         go_meet
         case rel => exact ⟨_, (false), zf, H', ⟨by have := HK1.out; first | omega | exact Nat.le_refl _⟩, ⟨by (with_reducible repeat (first | apply Kd.N_alloc | apply Kd.N_drewN | apply Kd.N_drew)); exact Kd.N_mono HO_3.out (fun _ hk => ⟨hk.1.1, ⟨hk.2, hk.1.2⟩⟩)⟩, ⟨by (with_reducible repeat (first | apply Kd.R_alloc | apply Kd.R_drewN | apply Kd.R_drew)); exact HO474.out⟩, ⟨by exact BK471.out⟩, ⟨zb⟩⟩
       case rest =>
        clear HC10
        try clear c6
        try clear c6b0
        try clear c7
        try clear c7b0
        try clear c8
        try clear c8b0
        try clear c9
        try clear hcz12_0
        try clear hcz12_1
        try clear hfz12_0
        try clear hfz12_1
        try clear hx470_0
        try clear hx470_1
        try clear p470
        try clear q470
        obtain ⟨kq, x29_9, rfl, HA, HJ9, HO_3, HO_4, BK471, HB⟩ := hcut
        cases kq with
        | zero => exact absurd HA.out (by simp [backseatref08_Join.j1])
        | succ kj9 =>
         have H := HA.out
         clear HA
         simp only [backseatref08_Join.j1] at H
         by_cases c18 : x29_9 = true
         ·subst c18
          have H1 : (backseatref08_Join.l0 kj9 l0 x3_1 y472 l0 (l0.length : Int) (wrap64 (x12_1 + 1))) = some r := by rw [if_pos rfl] at H; exact H
          clear H
          have H := H1
          clear H1
          have H' := Aside0.mk H
          clear H
          go_wp2
          go_roundg kj9
          case measure => have := HK1.out; have := HJ9.out; omega
          case rel => exact ⟨(x3_1), (y472), (wrap64 (x12_1 + 1)), zf, H', ⟨by have := HK1.out; have := HJ9.out; omega⟩, ⟨by (with_reducible repeat (first | apply Kd.N_alloc | apply Kd.N_drewN | apply Kd.N_drew)); exact Kd.N_mono HO_3.out (fun _ hk => ⟨hk.1, hk.2.1⟩)⟩, ⟨by (with_reducible repeat (first | apply Kd.R_alloc | apply Kd.R_drewN | apply Kd.R_drew)); exact HO_4.out⟩, ⟨zb⟩⟩
         ·replace c18 := Bool.eq_false_iff.mpr c18
          subst c18
          have H1 : (backseatref08_Join.l1 kj9 l0 x3_1 y472 (y472.length : Int) l0 (l0.length : Int) x12_1) = some r := by rw [if_neg (show ¬ (false = true) by decide)] at H; exact H
          clear H
          have H := H1
          clear H1
          have H' := Aside0.mk H
          clear H
          obtain ⟨Ao19, co19, eo19⟩ := Kd.R_slice HO_4.out
          subst eo19
          go_wp2
          go_loopg [7] kj9 (fun kq v7 w' => ∃ (x7_3 : Int), v7 = .int .i64 x7_3 ∧ Aside0 (backseatref08_Join.l1 kq l0 x3_1 y472 x7_3 l0 (l0.length : Int) x12_1 = some r) ∧ Aside0 (kq ≤ kj9) ∧ Aside0 (Kd.N (Kd.slice 60 k60) 36 w' w.heap.size (fun k_ => (w.heap.size ≤ k_) ∧ some k_ ≠ ((.slice Ao19 y472.length co19) : Value).ownBlock ∧ k_ ≠ gb471) u3 x3_1) ∧ Aside0 (Kd.R k60 60 w' w.heap.size (fun k_ => (w.heap.size ≤ k_)) (.slice Ao19 y472.length co19) y472) ∧ Aside0 (w'.heap[gb471]? = some (.cells #[(.slice A470_0 ((rd_T38 l0 x12_1).f0).length c470_0), .bool ((rd_T38 l0 x12_1).f1)] 38 (0, 0))) ∧ Aside0 (Below w.heap.size w w'))
          case atStart => exact ⟨((y472.length : Int)), zf, H', ⟨Nat.le_refl _⟩, ⟨by (with_reducible repeat (first | apply Kd.N_alloc | apply Kd.N_drewN | apply Kd.N_drew)); exact HO_3.out⟩, ⟨by (with_reducible repeat (first | apply Kd.R_alloc | apply Kd.R_drewN | apply Kd.R_drew)); exact HO_4.out⟩, ⟨by exact BK471.out⟩, ⟨zb⟩⟩
          case round =>
           clear H'
           try clear c6
           try clear c6b0
           try clear c7
           try clear c7b0
           try clear c8
           try clear c8b0
           try clear c9
           try clear c18
           try clear hcz12_0
           try clear hcz12_1
           try clear hfz12_0
           try clear hfz12_1
           try clear hx470_0
           try clear hx470_1
           try clear p470
           try clear q470
           obtain ⟨x7_3, rfl, HA, HK3, HO_3, HO_4, BK471, HB⟩ := hrel
           cases gk with
           | zero => exact absurd HA.out (by simp [backseatref08_Join.l1])
           | succ k3 =>
            have H := HA.out
            clear HA
            simp only [backseatref08_Join.l1] at H
            by_cases c20 : x7_3 > 0
            ·rw [if_pos c20] at H
             have c20b0 : decide (0 < x7_3) = true := decide_eq_true c20
             clear c20
             obtain ⟨ji21, hji21⟩ : ∃ j_ : Int, (wrap64 (x7_3 - 1)) = j_ := ⟨_, rfl⟩
             replace H : (if 0 ≤ (ji21) then (if (ji21) < (y472.length : Int) then ((backseatref08_Blank.f ((rd_T60 y472 (ji21)).f0) ((rd_T60 y472 (ji21)).f1) ((rd_T60 y472 (ji21)).f2.f0) ((rd_T60 y472 (ji21)).f2.f1) ((rd_T60 y472 (ji21)).f2.f2)).bind fun t476 => (if t476 = true then (backseatref08_Join.l1 k3 l0 x3_1 y472 ji21 l0 (l0.length : Int) x12_1) else (if 0 ≤ x7_3 then (if x7_3 ≤ (y472.length : Int) then (if x3_1.length < 5864062014805 then (backseatref08_Join.l0 k3 l0 (x3_1 ++ [(y472.take (x7_3 : Int).toNat)]) (([] : List (S60))) l0 (l0.length : Int) (wrap64 (x12_1 + 1))) else (none)) else (none)) else (none)))) else (none)) else (none)) = some r := by first | (rw [hji21] at H; exact H) | (simp only [hji21] at H ⊢; exact H)
             have hji21w : (IntKind.i64.wrap (x7_3 - 1)) = ji21 := (i64_w _).trans hji21
             by_cases c22 : 0 ≤ (ji21)
             ·rw [if_pos c22] at H
              have c22b0 : decide (0 ≤ (ji21)) = true := decide_eq_true c22
              clear c22
              by_cases c23 : (ji21) < (y472.length : Int)
              ·rw [if_pos c23] at H
               have c23b0 : decide ((ji21) < (y472.length : Int)) = true := decide_eq_true c23
               clear c23
               replace H := Option.bind_eq_some_iff.mp H
               obtain ⟨t476, A240, H⟩ := H
               replace H : (if t476 = true then (backseatref08_Join.l1 k3 l0 x3_1 y472 ji21 l0 (l0.length : Int) x12_1) else (if 0 ≤ x7_3 then (if x7_3 ≤ (y472.length : Int) then (if x3_1.length < 5864062014805 then (backseatref08_Join.l0 k3 l0 (x3_1 ++ [(y472.take (x7_3 : Int).toNat)]) (([] : List (S60))) l0 (l0.length : Int) (wrap64 (x12_1 + 1))) else (none)) else (none)) else (none))) = some r := H
               have A24 := Aside0.mk A240
               clear A240
               by_cases c25 : t476 = true
               ·subst c25
                have H1 : (backseatref08_Join.l1 k3 l0 x3_1 y472 ji21 l0 (l0.length : Int) x12_1) = some r := by rw [if_pos rfl] at H; exact H
                clear H
                have H := H1
                clear H1
                have H' := Aside0.mk H
                clear H
                have p475 : 0 ≤ ((ji21) : Int) := of_decide_eq_true za
                have q475 : (ji21) < (y472.length : Int) := of_decide_eq_true za
                obtain ⟨ad475, e475, hx475_0, hx475_1, hx475_2, hx475_3, hx475_4⟩ := at_T60 (Kd.R_reads' HO_4.out).2.2 (ji21) p475 q475
                cases e475
                replace p475 := eq_true p475
                replace q475 := eq_true q475
                go_wp2_with (first | (go_at_call 49; (with_reducible refine (backseatref08_Blank.calls ((rd_T60 y472 (ji21)).f0) ((rd_T60 y472 (ji21)).f1) ((rd_T60 y472 (ji21)).f2.f0) ((rd_T60 y472 (ji21)).f2.f1) ((rd_T60 y472 (ji21)).f2.f2) true _ A24.out).mono ?_); rintro e w26 ⟨rfl, hb⟩; replace HO_3 := (zN HO_3 hb); replace HO_4 := (zR HO_4 hb); replace BK471 := (zk BK471 hb); replace HB := (zs HB hb); (try clear hb)))
                go_roundg k3
                case measure => have := HK1.out; have := HJ9.out; have := HK3.out; omega
                case rel => exact ⟨(ji21), (by first | rfl | (simp; done) | (simp only [← hji21] <;> (first | rfl | (simp; done))) | (simp [*]; done) | (simp; simp only [decide_eq_true_eq, eq_iff_iff, iff_true] at *; omega)), H', ⟨by have := HK1.out; have := HJ9.out; have := HK3.out; omega⟩, ⟨by (with_reducible repeat (first | apply Kd.N_alloc | apply Kd.N_drewN | apply Kd.N_drew)); exact HO_3.out⟩, ⟨by (with_reducible repeat (first | apply Kd.R_alloc | apply Kd.R_drewN | apply Kd.R_drew)); exact HO_4.out⟩, ⟨by exact BK471.out⟩, ⟨zb⟩⟩
               ·replace c25 := Bool.eq_false_iff.mpr c25
                subst c25
                have H1 : (if 0 ≤ x7_3 then (if x7_3 ≤ (y472.length : Int) then (if x3_1.length < 5864062014805 then (backseatref08_Join.l0 k3 l0 (x3_1 ++ [(y472.take (x7_3 : Int).toNat)]) (([] : List (S60))) l0 (l0.length : Int) (wrap64 (x12_1 + 1))) else (none)) else (none)) else (none)) = some r := by rw [if_neg (show ¬ (false = true) by decide)] at H; exact H
                clear H
                have H := H1
                clear H1
                by_cases c27 : 0 ≤ x7_3
                ·rw [if_pos c27] at H
                 have c27b0 := eq_true c27
                 have c27b1 : decide (0 ≤ x7_3) = true := decide_eq_true c27
                 clear c27
                 by_cases c28 : x7_3 ≤ (y472.length : Int)
                 ·rw [if_pos c28] at H
                  have c28b0 := eq_true c28
                  have c28b1 : decide (x7_3 ≤ (y472.length : Int)) = true := decide_eq_true c28
                  clear c28
                  obtain ⟨y477, hy477⟩ : ∃ y_ : List (S60), y_ = (y472.take (x7_3 : Int).toNat) := ⟨_, rfl⟩
                  replace H : (if x3_1.length < 5864062014805 then (backseatref08_Join.l0 k3 l0 (x3_1 ++ [y477]) (([] : List (S60))) l0 (l0.length : Int) (wrap64 (x12_1 + 1))) else (none)) = some r := by first | (rw [hy477]; with_reducible exact H) | (have H2_ := (Option.bind_some _ _).symm.trans H; rw [hy477]; with_reducible exact H2_) | (have H2_ := (Option.bind_some _ _).symm.trans H; with_reducible exact H2_) | with_reducible exact H | (rw [hy477]; exact H) | exact H
                  have Ny477 := Aside0.mk hy477
                  clear hy477
                  by_cases c29 : x3_1.length < 5864062014805
                  ·rw [if_pos c29] at H
                   have LMc29 := Aside0.mk c29
                   clear c29
                   obtain ⟨y482, hy482⟩ : ∃ y_ : List (List (S60)), y_ = (x3_1 ++ [y477]) := ⟨_, rfl⟩
                   replace H : (backseatref08_Join.l0 k3 l0 y482 (([] : List (S60))) l0 (l0.length : Int) (wrap64 (x12_1 + 1))) = some r := by first | (rw [hy482]; with_reducible exact H) | (have H2_ := (Option.bind_some _ _).symm.trans H; rw [hy482]; with_reducible exact H2_) | (have H2_ := (Option.bind_some _ _).symm.trans H; with_reducible exact H2_) | with_reducible exact H | (rw [hy482]; exact H) | exact H
                   have Ny482 := Aside0.mk hy482
                   clear hy482
                   obtain ⟨y485, hy485⟩ : ∃ y_ : List (S60), y_ = (([] : List (S60))) := ⟨_, rfl⟩
                   replace H : (backseatref08_Join.l0 k3 l0 y482 y485 l0 (l0.length : Int) (wrap64 (x12_1 + 1))) = some r := by first | (rw [hy485]; with_reducible exact H) | (have H2_ := (Option.bind_some _ _).symm.trans H; rw [hy485]; with_reducible exact H2_) | (have H2_ := (Option.bind_some _ _).symm.trans H; with_reducible exact H2_) | with_reducible exact H | (rw [hy485]; exact H) | exact H
                   have Ny485 := Aside0.mk hy485
                   clear hy485
                   have H' := Aside0.mk H
                   clear H
                   have p475 : 0 ≤ ((ji21) : Int) := of_decide_eq_true za
                   have q475 : (ji21) < (y472.length : Int) := of_decide_eq_true za
                   obtain ⟨ad475, e475, hx475_0, hx475_1, hx475_2, hx475_3, hx475_4⟩ := at_T60 (Kd.R_reads' HO_4.out).2.2 (ji21) p475 q475
                   cases e475
                   replace p475 := eq_true p475
                   replace q475 := eq_true q475
                   go_wp2_with (first | (go_at_call 49; (with_reducible refine (backseatref08_Blank.calls ((rd_T60 y472 (ji21)).f0) ((rd_T60 y472 (ji21)).f1) ((rd_T60 y472 (ji21)).f2.f0) ((rd_T60 y472 (ji21)).f2.f1) ((rd_T60 y472 (ji21)).f2.f2) false _ A24.out).mono ?_); rintro e w30 ⟨rfl, hb⟩; replace HO_3 := (zN HO_3 hb); replace HO_4 := (zR HO_4 hb); replace BK471 := (zk BK471 hb); replace HB := (zs HB hb); (try clear hb); (try clear hk); have q31 : (x7_3 : Int) ≤ ((y472.length : Int) : Int) := of_decide_eq_true za; obtain ⟨i031, hi031, _, hsz31, _⟩ := info_parts info60; have hroom31 : y472.length ≤ co19 := (Kd.R_reads' HO_4.out).2.1; have hC31 : Kd.F k60 _ _ (some ad475) y472.length y472 := (Kd.V_at (base := w.heap.size) (Kd.R_V (Kd.R_types (Kd.R_apart' (HO_4.out) (Kd.N_typed HO_3.out) (by decide)) BK471.out (by decide)))).2.2; have hcut31 := cut_to (P := Tryd.prog) 36 60 .i64 Tryd.underlying36 hi031 (some ad475) y472.length co19 x7_3 (of_decide_eq_true za) q31 hroom31; have hr31 := Kd.F_take (m := (x7_3 : Int).toNat) hC31 (by omega); have hy31 : y477.length = (x7_3 : Int).toNat := (by rw [Ny477.out, List.length_take]; omega); rw [← Ny477.out] at hr31; rw [← hy31] at hcut31; have HO481 := Aside0.mk (show Kd.V k60 60 _ w.heap.size _ (.slice (some ad475) y477.length co19) y477 from Kd.V_mk (by omega) hr31); have HC481 := Aside0.mk (show y477.length ≤ co19 from by omega); clear hr31 hC31 hroom31 hi031 hsz31; have KY31 := Aside0.mk hy31; clear hy31; replace q31 := eq_true q31) | ((with_reducible refine gate_builtin (b := .append) (xs := #[.tmp 44, .tmp 48]) rfl ?_); (try (refine gate_guard (by rfl) ?_; dsimp only)); at_builtin; refine Kd.N_append (Kd.slice 60 k60) (w0 := w) w.heap.size rfl (.tmp 44) (.tmp 48) 39 36 (.slice none 0 0) 24 rfl Tryd.underlying39 info36 rfl (by decide) (by omega) u3 x3_1 y477 [.slice (some ad475) y477.length co19] (fun k_ => (w.heap.size ≤ k_) ∧ k_ ≠ gb471) (fun k_ => ((fun k_ => (w.heap.size ≤ k_) ∧ k_ ≠ gb471)) k_ ∧ some k_ ≠ (u3 : Value).ownBlock) rfl rfl ?aP (fun _ hk => hk) ?aF ?aO ?aB ?aS ?aL ?_; (case aP => exact (Kd.FK_slice_mk (Kd.V_reads' (Kd.V_mono (ok' := (fun k_ => ((fun k_ => (w.heap.size ≤ k_) ∧ k_ ≠ gb471)) k_ ∧ some k_ ≠ (u3 : Value).ownBlock)) (HO481.out) (fun k_ hk => ⟨⟨hk.1.1, hk.2⟩, hk.1.2⟩))).2.1 (Kd.V_F (Kd.V_mono (ok' := (fun k_ => ((fun k_ => (w.heap.size ≤ k_) ∧ k_ ≠ gb471)) k_ ∧ some k_ ≠ (u3 : Value).ownBlock)) (HO481.out) (fun k_ hk => ⟨⟨hk.1.1, hk.2⟩, hk.1.2⟩))))); (case aB => exact zb); (case aF => exact (fun k_ hk => ⟨(Nat.le_trans (below_size zb) hk), Kd.freshB (g := gb471) (o := .cells #[.slice A470_0 ((rd_T38 l0 x12_1).f0).length c470_0, .bool ((rd_T38 l0 x12_1).f1)] 38 (0, 0)) (by exact BK471.out) k_ hk⟩)); (case aO => exact (by (with_reducible repeat (first | apply Kd.N_alloc | apply Kd.N_drewN | apply Kd.N_drew)); exact Kd.N_mono HO_3.out (fun _ hk => ⟨hk.1, hk.2.2⟩))); (case aS => exact (below_size zb)); (case aL => have := LMc29.out; omega); intro v483 w32 ho hb hg hat; rw [← Ny482.out] at ho; have n0_ := Aside0.mk (Kd.R_over' (zRa HO_4) (Kd.N_typed (zNa HO_3)) (by decide) hg); have n1_ := Aside0.mk (blk_grown (g := gb471) (o := .cells #[.slice A470_0 ((rd_T38 l0 x12_1).f0).length c470_0, .bool ((rd_T38 l0 x12_1).f1)] 38 (0, 0)) (by exact BK471.out) hg (Kd.N_ne HO_3.out BK471.out (by decide))); have n2_ := Aside0.mk (Kd.V_afterv (ok := (fun k_ => (w.heap.size ≤ k_) ∧ k_ ≠ gb471)) (by (with_reducible repeat (first | apply Kd.V_alloc | apply Kd.V_drewN | apply Kd.V_drew)); exact Kd.V_mono HO481.out (fun _ hk => ⟨⟨hk.1.1, hk.2⟩, hk.1.2⟩)) hg hat); have n3_ := Aside0.mk (hb); have n4_ := Aside0.mk (ho); clear HO_4; clear BK471; clear HO481; clear HB; clear HO_3; have HO_4 := n0_; have BK471 := n1_; have HO481 := n2_; have HB := n3_; have HO484 := n4_; clear n0_ n1_ n2_ n3_ n4_; clear ho hb hg hat) | ((with_reducible refine gate_dst (N := 50) rfl ?_); (try (refine gate_guard (by rfl) ?_; dsimp only)); refine Kd.R_lit k60 _ 60 ?hg (N := 50) ?hd (xs := ([] : List (S60))) (inner := []) (ok := fun _ => True) (okp := fun _ => True) ?hr ?hp (fun _ hk => hk) trivial (Below.refl _ _) (Nat.le_refl _) (by simp) ?_; (case hd => rfl); (case hg => rfl); (case hr => exact zo); (case hp => exact (Reps.none _ _)); intro v486 w33 ho34 hb hg_ hnew_; clear hg_ hnew_; (first | rw [← Ny485.out] at ho34 | (simp only [Int.reduceToNat] at ho34; rw [← Ny485.out] at ho34)); have n0_ := Aside0.mk (Kd.R_elder' (zRa HO_4) (Kd.R_base ho34) hb); have n1_ := Aside0.mk (Kd.V_elder' (by (with_reducible repeat (first | apply Kd.V_alloc | apply Kd.V_drewN | apply Kd.V_drew)); exact HO481.out) (Kd.R_base ho34) hb); have n2_ := Aside0.mk (Kd.N_elder' (zNa HO484) (Kd.R_base ho34) hb); have n3_ := Aside0.mk (Kd.R_lower (Kd.R_new' (Kd.R_newM (M := fun k_ => (w.heap.size ≤ k_)) ho34 (below_size zb) (fun k_ h_ => h_)) (Kd.R_lt (zRa HO_4))) (below_size zb)); have n4_ := (zk BK471 hb); have n5_ := (zs HB hb); clear HO_4; clear HO481; clear HO484; clear BK471; clear HB; have HO_4 := n0_; have HO481 := n1_; have HO484 := n2_; have HO487 := n3_; have BK471 := n4_; have HB := n5_; clear n0_ n1_ n2_ n3_ n4_ n5_; clear hb ho34))
                   go_roundg k3
                   case measure => have := HK1.out; have := HJ9.out; have := HK3.out; omega
                   case rel => exact ⟨(y482), (y485), (wrap64 (x12_1 + 1)), zf, H', ⟨by have := HK1.out; have := HJ9.out; have := HK3.out; omega⟩, ⟨by (with_reducible repeat (first | apply Kd.N_alloc | apply Kd.N_drewN | apply Kd.N_drew)); exact Kd.N_mono HO484.out (fun _ hk => ⟨hk.1.1, hk.2⟩)⟩, ⟨by (with_reducible repeat (first | apply Kd.R_alloc | apply Kd.R_drewN | apply Kd.R_drew)); exact Kd.R_mono HO487.out (fun _ hk => hk.1.1)⟩, ⟨zb⟩⟩
                  ·rw [if_neg c29] at H
                   exact absurd H (by simp)
                 ·rw [if_neg c28] at H
                  exact absurd H (by simp)
                ·rw [if_neg c27] at H
                 exact absurd H (by simp)
              ·rw [if_neg c23] at H
               exact absurd H (by simp)
             ·rw [if_neg c22] at H
              exact absurd H (by simp)
            ·rw [if_neg c20] at H
             have c20b0 : decide (0 < x7_3) = false := decide_eq_false c20
             clear c20
             by_cases c35 : 0 ≤ x7_3
             ·rw [if_pos c35] at H
              have c35b0 := eq_true c35
              have c35b1 : decide (0 ≤ x7_3) = true := decide_eq_true c35
              clear c35
              by_cases c36 : x7_3 ≤ (y472.length : Int)
              ·rw [if_pos c36] at H
               have c36b0 := eq_true c36
               have c36b1 : decide (x7_3 ≤ (y472.length : Int)) = true := decide_eq_true c36
               clear c36
               obtain ⟨y488, hy488⟩ : ∃ y_ : List (S60), y_ = (y472.take (x7_3 : Int).toNat) := ⟨_, rfl⟩
               replace H : (if x3_1.length < 5864062014805 then (backseatref08_Join.l0 k3 l0 (x3_1 ++ [y488]) (([] : List (S60))) l0 (l0.length : Int) (wrap64 (x12_1 + 1))) else (none)) = some r := by first | (rw [hy488]; with_reducible exact H) | (have H2_ := (Option.bind_some _ _).symm.trans H; rw [hy488]; with_reducible exact H2_) | (have H2_ := (Option.bind_some _ _).symm.trans H; with_reducible exact H2_) | with_reducible exact H | (rw [hy488]; exact H) | exact H
               have Ny488 := Aside0.mk hy488
               clear hy488
               by_cases c37 : x3_1.length < 5864062014805
               ·rw [if_pos c37] at H
                have LMc37 := Aside0.mk c37
                clear c37
                obtain ⟨y493, hy493⟩ : ∃ y_ : List (List (S60)), y_ = (x3_1 ++ [y488]) := ⟨_, rfl⟩
                replace H : (backseatref08_Join.l0 k3 l0 y493 (([] : List (S60))) l0 (l0.length : Int) (wrap64 (x12_1 + 1))) = some r := by first | (rw [hy493]; with_reducible exact H) | (have H2_ := (Option.bind_some _ _).symm.trans H; rw [hy493]; with_reducible exact H2_) | (have H2_ := (Option.bind_some _ _).symm.trans H; with_reducible exact H2_) | with_reducible exact H | (rw [hy493]; exact H) | exact H
                have Ny493 := Aside0.mk hy493
                clear hy493
                obtain ⟨y496, hy496⟩ : ∃ y_ : List (S60), y_ = (([] : List (S60))) := ⟨_, rfl⟩
                replace H : (backseatref08_Join.l0 k3 l0 y493 y496 l0 (l0.length : Int) (wrap64 (x12_1 + 1))) = some r := by first | (rw [hy496]; with_reducible exact H) | (have H2_ := (Option.bind_some _ _).symm.trans H; rw [hy496]; with_reducible exact H2_) | (have H2_ := (Option.bind_some _ _).symm.trans H; with_reducible exact H2_) | with_reducible exact H | (rw [hy496]; exact H) | exact H
                have Ny496 := Aside0.mk hy496
                clear hy496
                have H' := Aside0.mk H
                clear H
                have q38 : (x7_3 : Int) ≤ ((y472.length : Int) : Int) := of_decide_eq_true za
                obtain ⟨i038, hi038, _, hsz38, _⟩ := info_parts info60
                have hroom38 : y472.length ≤ co19 := (Kd.R_reads' HO_4.out).2.1
                have hC38 : Kd.F k60 _ _ Ao19 y472.length y472 := (Kd.V_at (base := w.heap.size) (Kd.R_V (Kd.R_types (Kd.R_apart' (HO_4.out) (Kd.N_typed HO_3.out) (by decide)) BK471.out (by decide)))).2.2
                have hcut38 := cut_to (P := Tryd.prog) 36 60 .i64 Tryd.underlying36 hi038 Ao19 y472.length co19 x7_3 (of_decide_eq_true za) q38 hroom38
                have hr38 := Kd.F_take (m := (x7_3 : Int).toNat) hC38 (by omega)
                have hy38 : y488.length = (x7_3 : Int).toNat := (by rw [Ny488.out, List.length_take]; omega)
                rw [← Ny488.out] at hr38
                rw [← hy38] at hcut38
                have HO492 := Aside0.mk (show Kd.V k60 60 _ w.heap.size _ (.slice Ao19 y488.length co19) y488 from Kd.V_mk (by omega) hr38)
                have HC492 := Aside0.mk (show y488.length ≤ co19 from by omega)
                clear hr38 hC38 hroom38 hi038 hsz38
                have KY38 := Aside0.mk hy38
                clear hy38
                replace q38 := eq_true q38
                go_wp2_with (first | ((with_reducible refine gate_builtin (b := .append) (xs := #[.tmp 44, .tmp 48]) rfl ?_); (try (refine gate_guard (by rfl) ?_; dsimp only)); at_builtin; refine Kd.N_append (Kd.slice 60 k60) (w0 := w) w.heap.size rfl (.tmp 44) (.tmp 48) 39 36 (.slice none 0 0) 24 rfl Tryd.underlying39 info36 rfl (by decide) (by omega) u3 x3_1 y488 [.slice Ao19 y488.length co19] (fun k_ => (w.heap.size ≤ k_) ∧ k_ ≠ gb471) (fun k_ => ((fun k_ => (w.heap.size ≤ k_) ∧ k_ ≠ gb471)) k_ ∧ some k_ ≠ (u3 : Value).ownBlock) rfl rfl ?aP (fun _ hk => hk) ?aF ?aO ?aB ?aS ?aL ?_; (case aP => exact (Kd.FK_slice_mk (Kd.V_reads' (Kd.V_mono (ok' := (fun k_ => ((fun k_ => (w.heap.size ≤ k_) ∧ k_ ≠ gb471)) k_ ∧ some k_ ≠ (u3 : Value).ownBlock)) (HO492.out) (fun k_ hk => ⟨⟨hk.1.1, hk.2⟩, hk.1.2⟩))).2.1 (Kd.V_F (Kd.V_mono (ok' := (fun k_ => ((fun k_ => (w.heap.size ≤ k_) ∧ k_ ≠ gb471)) k_ ∧ some k_ ≠ (u3 : Value).ownBlock)) (HO492.out) (fun k_ hk => ⟨⟨hk.1.1, hk.2⟩, hk.1.2⟩))))); (case aB => exact zb); (case aF => exact (fun k_ hk => ⟨(Nat.le_trans (below_size zb) hk), Kd.freshB (g := gb471) (o := .cells #[.slice A470_0 ((rd_T38 l0 x12_1).f0).length c470_0, .bool ((rd_T38 l0 x12_1).f1)] 38 (0, 0)) (by exact BK471.out) k_ hk⟩)); (case aO => exact (by (with_reducible repeat (first | apply Kd.N_alloc | apply Kd.N_drewN | apply Kd.N_drew)); exact Kd.N_mono HO_3.out (fun _ hk => ⟨hk.1, hk.2.2⟩))); (case aS => exact (below_size zb)); (case aL => have := LMc37.out; omega); intro v494 w39 ho hb hg hat; rw [← Ny493.out] at ho; have n0_ := Aside0.mk (Kd.R_over' (zRa HO_4) (Kd.N_typed (zNa HO_3)) (by decide) hg); have n1_ := Aside0.mk (blk_grown (g := gb471) (o := .cells #[.slice A470_0 ((rd_T38 l0 x12_1).f0).length c470_0, .bool ((rd_T38 l0 x12_1).f1)] 38 (0, 0)) (by exact BK471.out) hg (Kd.N_ne HO_3.out BK471.out (by decide))); have n2_ := Aside0.mk (Kd.V_afterv (ok := (fun k_ => (w.heap.size ≤ k_) ∧ k_ ≠ gb471)) (by (with_reducible repeat (first | apply Kd.V_alloc | apply Kd.V_drewN | apply Kd.V_drew)); exact Kd.V_mono HO492.out (fun _ hk => ⟨⟨hk.1.1, hk.2⟩, hk.1.2⟩)) hg hat); have n3_ := Aside0.mk (hb); have n4_ := Aside0.mk (ho); clear HO_4; clear BK471; clear HO492; clear HB; clear HO_3; have HO_4 := n0_; have BK471 := n1_; have HO492 := n2_; have HB := n3_; have HO495 := n4_; clear n0_ n1_ n2_ n3_ n4_; clear ho hb hg hat) | ((with_reducible refine gate_dst (N := 50) rfl ?_); (try (refine gate_guard (by rfl) ?_; dsimp only)); refine Kd.R_lit k60 _ 60 ?hg (N := 50) ?hd (xs := ([] : List (S60))) (inner := []) (ok := fun _ => True) (okp := fun _ => True) ?hr ?hp (fun _ hk => hk) trivial (Below.refl _ _) (Nat.le_refl _) (by simp) ?_; (case hd => rfl); (case hg => rfl); (case hr => exact zo); (case hp => exact (Reps.none _ _)); intro v497 w40 ho41 hb hg_ hnew_; clear hg_ hnew_; (first | rw [← Ny496.out] at ho41 | (simp only [Int.reduceToNat] at ho41; rw [← Ny496.out] at ho41)); have n0_ := Aside0.mk (Kd.R_elder' (zRa HO_4) (Kd.R_base ho41) hb); have n1_ := Aside0.mk (Kd.V_elder' (by (with_reducible repeat (first | apply Kd.V_alloc | apply Kd.V_drewN | apply Kd.V_drew)); exact HO492.out) (Kd.R_base ho41) hb); have n2_ := Aside0.mk (Kd.N_elder' (zNa HO495) (Kd.R_base ho41) hb); have n3_ := Aside0.mk (Kd.R_lower (Kd.R_new' (Kd.R_newM (M := fun k_ => (w.heap.size ≤ k_)) ho41 (below_size zb) (fun k_ h_ => h_)) (Kd.R_lt (zRa HO_4))) (below_size zb)); have n4_ := (zk BK471 hb); have n5_ := (zs HB hb); clear HO_4; clear HO492; clear HO495; clear BK471; clear HB; have HO_4 := n0_; have HO492 := n1_; have HO495 := n2_; have HO498 := n3_; have BK471 := n4_; have HB := n5_; clear n0_ n1_ n2_ n3_ n4_ n5_; clear hb ho41))
                go_roundg k3
                case measure => have := HK1.out; have := HJ9.out; have := HK3.out; omega
                case rel => exact ⟨(y493), (y496), (wrap64 (x12_1 + 1)), zf, H', ⟨by have := HK1.out; have := HJ9.out; have := HK3.out; omega⟩, ⟨by (with_reducible repeat (first | apply Kd.N_alloc | apply Kd.N_drewN | apply Kd.N_drew)); exact Kd.N_mono HO495.out (fun _ hk => ⟨hk.1.1, hk.2⟩)⟩, ⟨by (with_reducible repeat (first | apply Kd.R_alloc | apply Kd.R_drewN | apply Kd.R_drew)); exact Kd.R_mono HO498.out (fun _ hk => hk.1.1)⟩, ⟨zb⟩⟩
               ·rw [if_neg c37] at H
                exact absurd H (by simp)
              ·rw [if_neg c36] at H
               exact absurd H (by simp)
             ·rw [if_neg c35] at H
              exact absurd H (by simp)
      ·rw [if_neg c9] at H
       exact absurd H (by simp)
     ·rw [if_neg c8] at H
      exact absurd H (by simp)
    ·rw [if_neg c7] at H
     exact absurd H (by simp)
   ·rw [if_neg c6] at H
    have c6b0 : decide (x12_1 < (l0.length : Int)) = false := decide_eq_false c6
    clear c6
    obtain rfl := Option.some.inj H
    go_wp2
    go_ret
    exact ⟨_, ze, by (with_reducible repeat (first | apply Kd.N_alloc | apply Kd.N_drewN | apply Kd.N_drew)); exact Kd.N_mono HO_3.out (fun _ hk => hk.1), zb⟩
theorem eqA58 (d : Nat) (w : World) (x0 y0 : Int) (x1 y1 : Int) (x2 y2 : Int) :
  (Op.equalIn (d + 2) 58 (.agg #[.int .i64 x0, .int .i64 x1, .int .i64 x2]) (.agg #[.int .i64 y0, .int .i64 y1, .int .i64 y2])).run Tryd.prog w = .ok (x0 == y0 && (x1 == y1 && (x2 == y2))) w := by
 refine eqA_of Tryd.underlying58 (by kernel_rfl) ?_
 refine eqf_cons (by rfl) (by go_simp; rfl) (by go_simp; rfl) (by go_simp) ?_
 refine eqf_cons (by rfl) (by go_simp; rfl) (by go_simp; rfl) (by go_simp) ?_
 exact eqf_last (by rfl) (by go_simp; rfl) (by go_simp; rfl) (by go_simp)
theorem eqA60 (d : Nat) (w : World) (x0 y0 : ByteArray) (x1 y1 : Int) (x2 y2 : Int) (x3 y3 : Int) (x4 y4 : Int) :
  (Op.equalIn (d + 3) 60 (.agg #[.string x0, .int .i64 x1, .int .i64 x2, .int .i64 x3, .int .i64 x4]) (.agg #[.string y0, .int .i64 y1, .int .i64 y2, .int .i64 y3, .int .i64 y4])).run Tryd.prog w = .ok (x0.toList == y0.toList && (x1 == y1 && ((x2 == y2 && (x3 == y3 && (x4 == y4)))))) w := by
 refine eqA_of Tryd.underlying60 (by kernel_rfl) ?_
 refine eqf_cons (by rfl) (by go_simp; rfl) (by go_simp; rfl) (by go_simp) ?_
 refine eqf_cons (by rfl) (by go_simp; rfl) (by go_simp; rfl) (by go_simp) ?_
 exact eqf_last (by rfl) (by go_simp) (by go_simp) (eqA58 (d + 0) w _ _ _ _ _ _)
end Go.Proofs.YtckkdaehmccjlaaDoor.P
namespace Go.Proofs.YtckkdaehmccjlaaDoor.P
open Go.RowKit Go.Proofs.YtckkdaehmccjlaaDoorW.PrintWords Go.Proofs.YtckkdaehmccjlaaDoorW.PrintLast Go.Proofs.YtckkdaehmccjlaaDoorW.PrintMore
attribute [local go_sem] max2_int min2_int max_two min_two max_three min_three max_four min_four   -- for this text's walks alone
set_option linter.unusedVariables false
set_option linter.unusedSimpArgs false
attribute [local go_sem high] eqA60
mutual
def backseatref06_SameLine.j0 : Nat → Bool → List (S60) → Bool → List (S60) → Bool → Option (Bool)
 | 0, _, _, _, _, _ => none
 | k + 1, x19, x500000, x500001, x501000, x501001 => if x19 = true then (some false) else (backseatref06_SameLine.l0 k (x500000.length : Int) 0 x500000 x500001 x501000 x501001)
def backseatref06_SameLine.l0 : Nat → Int → Int → List (S60) → Bool → List (S60) → Bool → Option (Bool)
 | 0, _, _, _, _, _, _ => none
 | k + 1, x22, x23, x500000, x500001, x501000, x501001 => if x23 < x22 then (if 0 ≤ x23 then (if x23 < (x500000.length : Int) then (if x23 < (x501000.length : Int) then (if (!((((rd_T60 x500000 x23).f0).toList) == (((rd_T60 x501000 x23).f0).toList)) || (!(((rd_T60 x500000 x23).f1) == ((rd_T60 x501000 x23).f1)) || ((!(((rd_T60 x500000 x23).f2.f0) == ((rd_T60 x501000 x23).f2.f0)) || (!(((rd_T60 x500000 x23).f2.f1) == ((rd_T60 x501000 x23).f2.f1)) || (!(((rd_T60 x500000 x23).f2.f2) == ((rd_T60 x501000 x23).f2.f2)))))))) = true then (some false) else (backseatref06_SameLine.l0 k x22 (wrap64 (x23 + 1)) x500000 x500001 x501000 x501001)) else (none)) else (none)) else (none)) else (some true)
end
def backseatref06_SameLine.f (k : Nat) (l0_0 : List (S60)) (a0_1 : Bool) (l1_0 : List (S60)) (a1_1 : Bool) : Option (Bool) := if (l0_0.length : Int) = (l1_0.length : Int) then (backseatref06_SameLine.j0 k (a0_1 != a1_1) l0_0 a0_1 l1_0 a1_1) else (backseatref06_SameLine.j0 k true l0_0 a0_1 l1_0 a1_1)
set_option maxHeartbeats 8000000 in
set_option maxRecDepth 100000 in
theorem backseatref06_SameLine.calls (k : Nat) (A0_0 : Option Addr) (c0_0 : Nat) (l0_0 : List (S60)) (a0_1 : Bool) (A1_0 : Option Addr) (c1_0 : Nat) (l1_0 : List (S60)) (a1_1 : Bool) (r : Bool) (w : World) (hr0_0 : Kd.C k60 w A0_0 l0_0.length l0_0) (hc0_0 : l0_0.length ≤ c0_0) (hr1_0 : Kd.C k60 w A1_0 l1_0.length l1_0) (hc1_0 : l1_0.length ≤ c1_0) (h : backseatref06_SameLine.f k l0_0 a0_1 l1_0 a1_1 = some r) :
  Calls Tryd.prog 50 #[.agg #[.slice A0_0 l0_0.length c0_0, .bool a0_1], .agg #[.slice A1_0 l1_0.length c1_0, .bool a1_1]] w fun e w' => e = .returned (.bool r) ∧ Below w.heap.size w w' := by
 have hu38 := Tryd.underlying38
 have hu60 := Tryd.underlying60
 have HR0_0 := Aside0.mk hr0_0
 have HC0_0 := Aside0.mk hc0_0
 clear hr0_0 hc0_0
 have HR1_0 := Aside0.mk hr1_0
 have HC1_0 := Aside0.mk hc1_0
 clear hr1_0 hc1_0
 have HB := Aside0.mk (Below.refl w.heap.size w)
 have H : (if (l0_0.length : Int) = (l1_0.length : Int) then (backseatref06_SameLine.j0 k (a0_1 != a1_1) l0_0 a0_1 l1_0 a1_1) else (backseatref06_SameLine.j0 k true l0_0 a0_1 l1_0 a1_1)) = some r := h
 clear h
 have HC3 := Aside0.mk H
 clear H
 go_enter Tryd.func50, Tryd.ntmps50
 go_upto_region 1 with (first | ((with_reducible refine gate_dst (N := 2) rfl ?_); refine box_event ?hg (N := 2) ?hd (cs := #[.slice A0_0 l0_0.length c0_0, .bool a0_1]) (t := 38) ?hr ?_; (case hd => rfl); (case hg => rfl); (case hr => exact zo); intro gb499 hg w4 hbox hb; have BK499 := Aside0.mk (hbox); have GW499 := Aside0.mk ((zg hg : w.heap.size ≤ gb499)); have GE499 := Aside0.mk ((zg hg : w.heap.size ≤ gb499)); replace HB := (zs HB hb); clear hb hbox hg) | ((with_reducible refine gate_dst (N := 3) rfl ?_); refine box_event ?hg (N := 3) ?hd (cs := #[.slice A1_0 l1_0.length c1_0, .bool a1_1]) (t := 38) ?hr ?_; (case hd => rfl); (case hg => rfl); (case hr => exact zo); intro gb500 hg w5 hbox hb; have n0_ := (zk BK499 hb); have n1_ := (zs HB hb); have n2_ := Aside0.mk (hbox); have n3_ := Aside0.mk ((zg hg : w.heap.size ≤ gb500)); have n4_ := Aside0.mk ((zg hg : w.heap.size ≤ gb500)); have n5_ := Aside0.mk ((by rw [hg]; exact Nat.ne_of_lt (blk_lt (g := gb499) (o := .cells #[.slice A0_0 l0_0.length c0_0, .bool a0_1] 38 (0, 0)) (by exact BK499.out)) : gb499 ≠ gb500)); have n6_ := Aside0.mk ((by rw [hg]; exact Nat.ne_of_gt (blk_lt (g := gb499) (o := .cells #[.slice A0_0 l0_0.length c0_0, .bool a0_1] 38 (0, 0)) (by exact BK499.out)) : gb500 ≠ gb499)); clear BK499; clear HB; have BK499 := n0_; have HB := n1_; have BK500 := n2_; have GW500 := n3_; have GE500 := n4_; have NB499_500 := n5_; have NB500_499 := n6_; clear n0_ n1_ n2_ n3_ n4_ n5_ n6_; clear hb hbox hg))
 repeat (go_quiet (first | ((with_reducible refine gate_dst (N := 2) rfl ?_); refine box_event ?hg (N := 2) ?hd (cs := #[.slice A0_0 l0_0.length c0_0, .bool a0_1]) (t := 38) ?hr ?_; (case hd => rfl); (case hg => rfl); (case hr => exact zo); intro gb499 hg w4 hbox hb; have BK499 := Aside0.mk (hbox); have GW499 := Aside0.mk ((zg hg : w.heap.size ≤ gb499)); have GE499 := Aside0.mk ((zg hg : w.heap.size ≤ gb499)); replace HB := (zs HB hb); clear hb hbox hg) | ((with_reducible refine gate_dst (N := 3) rfl ?_); refine box_event ?hg (N := 3) ?hd (cs := #[.slice A1_0 l1_0.length c1_0, .bool a1_1]) (t := 38) ?hr ?_; (case hd => rfl); (case hg => rfl); (case hr => exact zo); intro gb500 hg w5 hbox hb; have n0_ := (zk BK499 hb); have n1_ := (zs HB hb); have n2_ := Aside0.mk (hbox); have n3_ := Aside0.mk ((zg hg : w.heap.size ≤ gb500)); have n4_ := Aside0.mk ((zg hg : w.heap.size ≤ gb500)); have n5_ := Aside0.mk ((by rw [hg]; exact Nat.ne_of_lt (blk_lt (g := gb499) (o := .cells #[.slice A0_0 l0_0.length c0_0, .bool a0_1] 38 (0, 0)) (by exact BK499.out)) : gb499 ≠ gb500)); have n6_ := Aside0.mk ((by rw [hg]; exact Nat.ne_of_gt (blk_lt (g := gb499) (o := .cells #[.slice A0_0 l0_0.length c0_0, .bool a0_1] 38 (0, 0)) (by exact BK499.out)) : gb500 ≠ gb499)); clear BK499; clear HB; have BK499 := n0_; have HB := n1_; have BK500 := n2_; have GW500 := n3_; have GE500 := n4_; have NB499_500 := n5_; have NB500_499 := n6_; clear n0_ n1_ n2_ n3_ n4_ n5_ n6_; clear hb hbox hg)); go_upto_region 1 with (first | ((with_reducible refine gate_dst (N := 2) rfl ?_); refine box_event ?hg (N := 2) ?hd (cs := #[.slice A0_0 l0_0.length c0_0, .bool a0_1]) (t := 38) ?hr ?_; (case hd => rfl); (case hg => rfl); (case hr => exact zo); intro gb499 hg w4 hbox hb; have BK499 := Aside0.mk (hbox); have GW499 := Aside0.mk ((zg hg : w.heap.size ≤ gb499)); have GE499 := Aside0.mk ((zg hg : w.heap.size ≤ gb499)); replace HB := (zs HB hb); clear hb hbox hg) | ((with_reducible refine gate_dst (N := 3) rfl ?_); refine box_event ?hg (N := 3) ?hd (cs := #[.slice A1_0 l1_0.length c1_0, .bool a1_1]) (t := 38) ?hr ?_; (case hd => rfl); (case hg => rfl); (case hr => exact zo); intro gb500 hg w5 hbox hb; have n0_ := (zk BK499 hb); have n1_ := (zs HB hb); have n2_ := Aside0.mk (hbox); have n3_ := Aside0.mk ((zg hg : w.heap.size ≤ gb500)); have n4_ := Aside0.mk ((zg hg : w.heap.size ≤ gb500)); have n5_ := Aside0.mk ((by rw [hg]; exact Nat.ne_of_lt (blk_lt (g := gb499) (o := .cells #[.slice A0_0 l0_0.length c0_0, .bool a0_1] 38 (0, 0)) (by exact BK499.out)) : gb499 ≠ gb500)); have n6_ := Aside0.mk ((by rw [hg]; exact Nat.ne_of_gt (blk_lt (g := gb499) (o := .cells #[.slice A0_0 l0_0.length c0_0, .bool a0_1] 38 (0, 0)) (by exact BK499.out)) : gb500 ≠ gb499)); clear BK499; clear HB; have BK499 := n0_; have HB := n1_; have BK500 := n2_; have GW500 := n3_; have GE500 := n4_; have NB499_500 := n5_; have NB500_499 := n6_; clear n0_ n1_ n2_ n3_ n4_ n5_ n6_; clear hb hbox hg)))
 (try simp only [Act.put, List.setIfInBounds_toArray, List.set_cons_zero, List.set_cons_succ])
 go_cut [19] (fun v19 wc => ∃ (kq : Nat) (x19_2 : Bool), v19 = .bool x19_2 ∧ Aside0 (backseatref06_SameLine.j0 kq x19_2 l0_0 a0_1 l1_0 a1_1 = some r) ∧ Aside0 (kq ≤ k) ∧ Aside0 (wc.heap[gb499]? = some (.cells #[(.slice A0_0 l0_0.length c0_0), .bool a0_1] 38 (0, 0))) ∧ Aside0 (wc.heap[gb500]? = some (.cells #[(.slice A1_0 l1_0.length c1_0), .bool a1_1] 38 (0, 0))) ∧ Aside0 (Below w.heap.size w wc))
 case first =>
  have H := HC3.out
  clear HC3
  by_cases c6 : (l0_0.length : Int) = (l1_0.length : Int)
  ·rw [if_pos c6] at H
   have c6b0 : ((l0_0.length : Int) == (l1_0.length : Int)) = true := beq_iff_eq.mpr c6
   have c6b1 : ((l0_0.length : Int) != (l1_0.length : Int)) = false := bne_eq_false_iff_eq.mpr c6
   have c6b2 : (l0_0.length == l1_0.length) = true := by first | simpa using c6 | (simp at c6 ⊢; omega)
   clear c6
   (first | rw [c6b0] | (simp only [i64_w, i32_w]; rw [c6b0]) | skip)
   have H' := Aside0.mk H
   clear H
   have hnb7 := NB499_500.out
   have hnc7 := NB500_499.out
   obtain ⟨hcz8_0, hcz8_1, hfz8_0, hfz8_1⟩ := zq2 (w := w5) BK499
   obtain ⟨hcz9_0, hcz9_1, hfz9_0, hfz9_1⟩ := zq2 (w := w5) BK500
   go_wp2
   repeat (go_quiet (fail); try go_wp2)
   go_meet
   case rel => exact ⟨_, ((a0_1 != a1_1)), zf, H', ⟨by first | omega | exact Nat.le_refl _⟩, ⟨by exact BK499.out⟩, ⟨by exact BK500.out⟩, ⟨zb⟩⟩
  ·rw [if_neg c6] at H
   have c6b0 : ((l0_0.length : Int) == (l1_0.length : Int)) = false := beq_eq_false_iff_ne.mpr c6
   have c6b1 : ((l0_0.length : Int) != (l1_0.length : Int)) = true := bne_iff_ne.mpr c6
   have c6b2 : (l0_0.length == l1_0.length) = false := by first | simpa using c6 | (simp at c6 ⊢; omega)
   (first | rw [c6b0] | (simp only [i64_w, i32_w]; rw [c6b0]) | skip)
   have H' := Aside0.mk H
   clear H
   have hnb10 := NB499_500.out
   have hnc10 := NB500_499.out
   obtain ⟨hcz11_0, hcz11_1, hfz11_0, hfz11_1⟩ := zq2 (w := w5) BK499
   obtain ⟨hcz12_0, hcz12_1, hfz12_0, hfz12_1⟩ := zq2 (w := w5) BK500
   go_wp2
   repeat (go_quiet (fail); try go_wp2)
   go_meet
   case rel => exact ⟨_, (true), zf, H', ⟨by first | omega | exact Nat.le_refl _⟩, ⟨by exact BK499.out⟩, ⟨by exact BK500.out⟩, ⟨zb⟩⟩
 case rest =>
  clear HC3
  obtain ⟨kq, x19_2, rfl, HA, HJ2, BK499, BK500, HB⟩ := hcut
  cases kq with
  | zero => exact absurd HA.out (by simp [backseatref06_SameLine.j0])
  | succ kj2 =>
   have H := HA.out
   clear HA
   simp only [backseatref06_SameLine.j0] at H
   by_cases c13 : x19_2 = true
   ·subst c13
    have H1 : (some false) = some r := by rw [if_pos rfl] at H; exact H
    clear H
    have H := H1
    clear H1
    obtain rfl := Option.some.inj H
    go_wp2
    repeat (go_quiet (fail); try go_wp2)
    go_ret
    exact ⟨ze, zb⟩
   ·replace c13 := Bool.eq_false_iff.mpr c13
    subst c13
    have H1 : (backseatref06_SameLine.l0 kj2 (l0_0.length : Int) 0 l0_0 a0_1 l1_0 a1_1) = some r := by rw [if_neg (show ¬ (false = true) by decide)] at H; exact H
    clear H
    have H := H1
    clear H1
    have H' := Aside0.mk H
    clear H
    have hnb14 := NB499_500.out
    have hnc14 := NB500_499.out
    obtain ⟨hcz15_0, hcz15_1, hfz15_0, hfz15_1⟩ := zq2 (w := wc) BK499
    go_wp2
    repeat (go_quiet (fail); try go_wp2)
    go_loopg [23] kj2 (fun kq v23 w' => ∃ (x23_2 : Int), v23 = .int .i64 x23_2 ∧ Aside0 (backseatref06_SameLine.l0 kq (l0_0.length : Int) x23_2 l0_0 a0_1 l1_0 a1_1 = some r) ∧ Aside0 (kq ≤ kj2) ∧ Aside0 (w'.heap[gb499]? = some (.cells #[(.slice A0_0 l0_0.length c0_0), .bool a0_1] 38 (0, 0))) ∧ Aside0 (w'.heap[gb500]? = some (.cells #[(.slice A1_0 l1_0.length c1_0), .bool a1_1] 38 (0, 0))) ∧ Aside0 (Below w.heap.size w w'))
    case atStart => exact ⟨(0), zf, H', ⟨Nat.le_refl _⟩, ⟨by exact BK499.out⟩, ⟨by exact BK500.out⟩, ⟨zb⟩⟩
    case round =>
     clear H'
     try clear c13
     try clear hcz15_0
     try clear hcz15_1
     try clear hfz15_0
     try clear hfz15_1
     obtain ⟨x23_2, rfl, HA, HK2, BK499, BK500, HB⟩ := hrel
     cases gk with
     | zero => exact absurd HA.out (by simp [backseatref06_SameLine.l0])
     | succ k2 =>
      have H := HA.out
      clear HA
      simp only [backseatref06_SameLine.l0] at H
      by_cases c16 : x23_2 < (l0_0.length : Int)
      ·rw [if_pos c16] at H
       have c16b0 : decide (x23_2 < (l0_0.length : Int)) = true := decide_eq_true c16
       clear c16
       by_cases c17 : 0 ≤ x23_2
       ·rw [if_pos c17] at H
        have c17b0 : decide (0 ≤ x23_2) = true := decide_eq_true c17
        clear c17
        by_cases c18 : x23_2 < (l0_0.length : Int)
        ·rw [if_pos c18] at H
         have c18b0 : decide (x23_2 < (l0_0.length : Int)) = true := decide_eq_true c18
         clear c18
         by_cases c19 : x23_2 < (l1_0.length : Int)
         ·rw [if_pos c19] at H
          have c19b0 : decide (x23_2 < (l1_0.length : Int)) = true := decide_eq_true c19
          clear c19
          by_cases c20 : (!((((rd_T60 l0_0 x23_2).f0).toList) == (((rd_T60 l1_0 x23_2).f0).toList)) || (!(((rd_T60 l0_0 x23_2).f1) == ((rd_T60 l1_0 x23_2).f1)) || ((!(((rd_T60 l0_0 x23_2).f2.f0) == ((rd_T60 l1_0 x23_2).f2.f0)) || (!(((rd_T60 l0_0 x23_2).f2.f1) == ((rd_T60 l1_0 x23_2).f2.f1)) || (!(((rd_T60 l0_0 x23_2).f2.f2) == ((rd_T60 l1_0 x23_2).f2.f2)))))))) = true
          ·rw [if_pos c20] at H
           have c20b0 : (!((((rd_T60 l0_0 x23_2).f0).toList) == (((rd_T60 l1_0 x23_2).f0).toList)) || (!(((rd_T60 l0_0 x23_2).f1) == ((rd_T60 l1_0 x23_2).f1)) || ((!(((rd_T60 l0_0 x23_2).f2.f0) == ((rd_T60 l1_0 x23_2).f2.f0)) || (!(((rd_T60 l0_0 x23_2).f2.f1) == ((rd_T60 l1_0 x23_2).f2.f1)) || (!(((rd_T60 l0_0 x23_2).f2.f2) == ((rd_T60 l1_0 x23_2).f2.f2)))))))) = true := c20
           clear c20
           obtain rfl := Option.some.inj H
           have hnb21 := NB499_500.out
           have hnc21 := NB500_499.out
           obtain ⟨hcz22_0, hcz22_1, hfz22_0, hfz22_1⟩ := zq2 (w := wr) BK499
           have p501 : 0 ≤ (x23_2 : Int) := of_decide_eq_true za
           have q501 : x23_2 < (l0_0.length : Int) := of_decide_eq_true za
           obtain ⟨ad501, e501, hx501_0, hx501_1, hx501_2, hx501_3, hx501_4⟩ := at_T60 HR0_0.out x23_2 p501 q501
           cases e501
           replace hx501_0 := zc HB hx501_0
           replace hx501_1 := zc HB hx501_1
           replace hx501_2 := zc HB hx501_2
           replace hx501_3 := zc HB hx501_3
           replace hx501_4 := zc HB hx501_4
           replace p501 := eq_true p501
           replace q501 := eq_true q501
           obtain ⟨hcz23_0, hcz23_1, hfz23_0, hfz23_1⟩ := zq2 (w := wr) BK500
           have p502 : 0 ≤ (x23_2 : Int) := of_decide_eq_true za
           have q502 : x23_2 < (l1_0.length : Int) := of_decide_eq_true za
           obtain ⟨ad502, e502, hx502_0, hx502_1, hx502_2, hx502_3, hx502_4⟩ := at_T60 HR1_0.out x23_2 p502 q502
           cases e502
           replace hx502_0 := zc HB hx502_0
           replace hx502_1 := zc HB hx502_1
           replace hx502_2 := zc HB hx502_2
           replace hx502_3 := zc HB hx502_3
           replace hx502_4 := zc HB hx502_4
           replace p502 := eq_true p502
           replace q502 := eq_true q502
           go_wp2
           repeat (go_quiet (fail); try go_wp2)
           go_ret
           exact ⟨ze, zb⟩
          ·rw [if_neg c20] at H
           have c20b0 : (!((((rd_T60 l0_0 x23_2).f0).toList) == (((rd_T60 l1_0 x23_2).f0).toList)) || (!(((rd_T60 l0_0 x23_2).f1) == ((rd_T60 l1_0 x23_2).f1)) || ((!(((rd_T60 l0_0 x23_2).f2.f0) == ((rd_T60 l1_0 x23_2).f2.f0)) || (!(((rd_T60 l0_0 x23_2).f2.f1) == ((rd_T60 l1_0 x23_2).f2.f1)) || (!(((rd_T60 l0_0 x23_2).f2.f2) == ((rd_T60 l1_0 x23_2).f2.f2)))))))) = false := by simpa using c20
           clear c20
           have H' := Aside0.mk H
           clear H
           have hnb24 := NB499_500.out
           have hnc24 := NB500_499.out
           obtain ⟨hcz25_0, hcz25_1, hfz25_0, hfz25_1⟩ := zq2 (w := wr) BK499
           have p501 : 0 ≤ (x23_2 : Int) := of_decide_eq_true za
           have q501 : x23_2 < (l0_0.length : Int) := of_decide_eq_true za
           obtain ⟨ad501, e501, hx501_0, hx501_1, hx501_2, hx501_3, hx501_4⟩ := at_T60 HR0_0.out x23_2 p501 q501
           cases e501
           replace hx501_0 := zc HB hx501_0
           replace hx501_1 := zc HB hx501_1
           replace hx501_2 := zc HB hx501_2
           replace hx501_3 := zc HB hx501_3
           replace hx501_4 := zc HB hx501_4
           replace p501 := eq_true p501
           replace q501 := eq_true q501
           obtain ⟨hcz26_0, hcz26_1, hfz26_0, hfz26_1⟩ := zq2 (w := wr) BK500
           have p502 : 0 ≤ (x23_2 : Int) := of_decide_eq_true za
           have q502 : x23_2 < (l1_0.length : Int) := of_decide_eq_true za
           obtain ⟨ad502, e502, hx502_0, hx502_1, hx502_2, hx502_3, hx502_4⟩ := at_T60 HR1_0.out x23_2 p502 q502
           cases e502
           replace hx502_0 := zc HB hx502_0
           replace hx502_1 := zc HB hx502_1
           replace hx502_2 := zc HB hx502_2
           replace hx502_3 := zc HB hx502_3
           replace hx502_4 := zc HB hx502_4
           replace p502 := eq_true p502
           replace q502 := eq_true q502
           go_wp2
           repeat (go_quiet (fail); try go_wp2)
           go_roundg k2
           case measure => have := HJ2.out; have := HK2.out; omega
           case rel => exact ⟨(wrap64 (x23_2 + 1)), zf, H', ⟨by have := HJ2.out; have := HK2.out; omega⟩, ⟨by exact BK499.out⟩, ⟨by exact BK500.out⟩, ⟨zb⟩⟩
         ·rw [if_neg c19] at H
          exact absurd H (by simp)
        ·rw [if_neg c18] at H
         exact absurd H (by simp)
       ·rw [if_neg c17] at H
        exact absurd H (by simp)
      ·rw [if_neg c16] at H
       have c16b0 : decide (x23_2 < (l0_0.length : Int)) = false := decide_eq_false c16
       clear c16
       obtain rfl := Option.some.inj H
       go_wp2
       repeat (go_quiet (fail); try go_wp2)
       go_ret
       exact ⟨ze, zb⟩
end Go.Proofs.YtckkdaehmccjlaaDoor.P
namespace Go.Proofs.YtckkdaehmccjlaaDoor.P
open Go.RowKit Go.Proofs.YtckkdaehmccjlaaDoorW.PrintWords Go.Proofs.YtckkdaehmccjlaaDoorW.PrintLast Go.Proofs.YtckkdaehmccjlaaDoorW.PrintMore
attribute [local go_sem] max2_int min2_int max_two min_two max_three min_three max_four min_four   -- for this text's walks alone
set_option linter.unusedVariables false
set_option linter.unusedSimpArgs false
def backseatlaw08_same.f (k : Nat) (l0 : List (S60)) (l1 : List (S60)) : Option (Bool) := (backseatref06_SameLine.f k l0 false l1 false).bind fun t503 => (some t503)
set_option maxHeartbeats 8000000 in
set_option maxRecDepth 100000 in
theorem backseatlaw08_same.calls (k : Nat) (A0 : Option Addr) (c0 : Nat) (l0 : List (S60)) (A1 : Option Addr) (c1 : Nat) (l1 : List (S60)) (r : Bool) (w : World) (hr0 : Kd.C k60 w A0 l0.length l0) (hc0 : l0.length ≤ c0) (hr1 : Kd.C k60 w A1 l1.length l1) (hc1 : l1.length ≤ c1) (h : backseatlaw08_same.f k l0 l1 = some r) :
  Calls Tryd.prog 22 #[.slice A0 l0.length c0, .slice A1 l1.length c1] w fun e w' => e = .returned (.bool r) ∧ Below w.heap.size w w' := by
 have hu38 := Tryd.underlying38
 have HR0 := Aside0.mk hr0
 have HC0 := Aside0.mk hc0
 clear hr0 hc0
 have HR1 := Aside0.mk hr1
 have HC1 := Aside0.mk hc1
 clear hr1 hc1
 have HB := Aside0.mk (Below.refl w.heap.size w)
 have H : ((backseatref06_SameLine.f k l0 false l1 false).bind fun t503 => (some t503)) = some r := h
 clear h
 replace H := Option.bind_eq_some_iff.mp H
 obtain ⟨t503, A30, H⟩ := H
 replace H : (some t503) = some r := H
 have A3 := Aside0.mk A30
 clear A30
 obtain rfl := Option.some.inj H
 go_enter Tryd.func22, Tryd.ntmps22
 go_wp2_with (first | ((with_reducible refine gate_callee (f := 50) rfl ?_); refine goesL_ (some 9) rfl rfl Tryd.func50 (by kernel_rfl) rfl #[.agg #[.slice A0 l0.length c0, .bool false], .agg #[.slice A1 l1.length c1, .bool false]] rfl zl ?_; (with_reducible refine (backseatref06_SameLine.calls k _ _ l0 false _ _ l1 false t503 _ ?side1 ?side2 ?side3 ?side4 A3.out).mono ?_); (case side1 => repeat (first | exact HR0.out | (with_reducible refine Kd.C_alloc ?_ _) | (with_reducible refine Kd.C_drewN ?_ _) | (with_reducible refine Kd.C_drew ?_))); (case side2 => exact HC0.out); (case side3 => repeat (first | exact HR1.out | (with_reducible refine Kd.C_alloc ?_ _) | (with_reducible refine Kd.C_drewN ?_ _) | (with_reducible refine Kd.C_drew ?_))); (case side4 => exact HC1.out); rintro e w4 ⟨rfl, hb⟩; refine ⟨_, rfl, ?_⟩; replace HB := (zs HB hb); (try clear hb)))
 go_ret
 exact ⟨ze, zb⟩
def backseatref06_half.f (l0 : List (S60)) (a1 : Int) : Option (Bool) := if 0 ≤ a1 then (if a1 < (l0.length : Int) then (if ((rd_T60 l0 a1).f1) = 2 then (if (wrap64 (a1 + 1)) = (l0.length : Int) then (some true) else (if 0 ≤ (wrap64 (a1 + 1)) then (if (wrap64 (a1 + 1)) < (l0.length : Int) then (some (((rd_T60 l0 (wrap64 (a1 + 1))).f1) != 0)) else (none)) else (none))) else (if ((rd_T60 l0 a1).f1) = 0 then (if a1 = 0 then (some true) else (if 0 ≤ (wrap64 (a1 - 1)) then (if (wrap64 (a1 - 1)) < (l0.length : Int) then (some (((rd_T60 l0 (wrap64 (a1 - 1))).f1) != 2)) else (none)) else (none))) else (some false))) else (none)) else (none)
set_option maxHeartbeats 8000000 in
set_option maxRecDepth 100000 in
theorem backseatref06_half.calls (A0 : Option Addr) (c0 : Nat) (l0 : List (S60)) (a1 : Int) (r : Bool) (w : World) (hr0 : Kd.C k60 w A0 l0.length l0) (hc0 : l0.length ≤ c0) (h : backseatref06_half.f l0 a1 = some r) :
  Calls Tryd.prog 54 #[.slice A0 l0.length c0, .int .i64 a1] w fun e w' => e = .returned (.bool r) ∧ Drawn0 w w' := by
 have HR0 := Aside0.mk hr0
 have HC0 := Aside0.mk hc0
 clear hr0 hc0
 have H : (if 0 ≤ a1 then (if a1 < (l0.length : Int) then (if ((rd_T60 l0 a1).f1) = 2 then (if (wrap64 (a1 + 1)) = (l0.length : Int) then (some true) else (if 0 ≤ (wrap64 (a1 + 1)) then (if (wrap64 (a1 + 1)) < (l0.length : Int) then (some (((rd_T60 l0 (wrap64 (a1 + 1))).f1) != 0)) else (none)) else (none))) else (if ((rd_T60 l0 a1).f1) = 0 then (if a1 = 0 then (some true) else (if 0 ≤ (wrap64 (a1 - 1)) then (if (wrap64 (a1 - 1)) < (l0.length : Int) then (some (((rd_T60 l0 (wrap64 (a1 - 1))).f1) != 2)) else (none)) else (none))) else (some false))) else (none)) else (none)) = some r := h
 clear h
 by_cases c3 : 0 ≤ a1
 ·rw [if_pos c3] at H
  have c3b0 : decide (0 ≤ a1) = true := decide_eq_true c3
  clear c3
  by_cases c4 : a1 < (l0.length : Int)
  ·rw [if_pos c4] at H
   have c4b0 : decide (a1 < (l0.length : Int)) = true := decide_eq_true c4
   clear c4
   by_cases c5 : ((rd_T60 l0 a1).f1) = 2
   ·rw [if_pos c5] at H
    have c5b0 : (((rd_T60 l0 a1).f1) == 2) = true := beq_iff_eq.mpr c5
    have c5b1 : (((rd_T60 l0 a1).f1) != 2) = false := bne_eq_false_iff_eq.mpr c5
    clear c5
    by_cases c6 : (wrap64 (a1 + 1)) = (l0.length : Int)
    ·rw [if_pos c6] at H
     have c6b0 : ((wrap64 (a1 + 1)) == (l0.length : Int)) = true := beq_iff_eq.mpr c6
     have c6b1 : ((wrap64 (a1 + 1)) != (l0.length : Int)) = false := bne_eq_false_iff_eq.mpr c6
     clear c6
     obtain rfl := Option.some.inj H
     have p232 : 0 ≤ (a1 : Int) := of_decide_eq_true za
     have q232 : a1 < (l0.length : Int) := of_decide_eq_true za
     obtain ⟨ad232, e232, hx232_0, hx232_1, hx232_2, hx232_3, hx232_4⟩ := at_T60 HR0.out a1 p232 q232
     cases e232
     replace p232 := eq_true p232
     replace q232 := eq_true q232
     go_enter Tryd.func54, Tryd.ntmps54
     go_wp2
     go_ret
     exact ⟨by first | rfl | (simp; done) | (simp [*]; done), by repeat (first | exact Drawn0.refl _ | apply Drawn0.step)⟩
    ·rw [if_neg c6] at H
     have c6b0 : ((wrap64 (a1 + 1)) == (l0.length : Int)) = false := beq_eq_false_iff_ne.mpr c6
     have c6b1 : ((wrap64 (a1 + 1)) != (l0.length : Int)) = true := bne_iff_ne.mpr c6
     obtain ⟨ji7, hji7⟩ : ∃ j_ : Int, (wrap64 (a1 + 1)) = j_ := ⟨_, rfl⟩
     replace H : (if 0 ≤ (ji7) then (if (ji7) < (l0.length : Int) then (some (((rd_T60 l0 (ji7)).f1) != 0)) else (none)) else (none)) = some r := by first | (rw [hji7] at H; exact H) | (simp only [hji7] at H ⊢; exact H)
     (try rw [hji7] at c6b0)
     (try rw [hji7] at c6b1)
     have hji7w : (IntKind.i64.wrap (a1 + 1)) = ji7 := (i64_w _).trans hji7
     by_cases c8 : 0 ≤ (ji7)
     ·rw [if_pos c8] at H
      have c8b0 : decide (0 ≤ (ji7)) = true := decide_eq_true c8
      clear c8
      by_cases c9 : (ji7) < (l0.length : Int)
      ·rw [if_pos c9] at H
       have c9b0 : decide ((ji7) < (l0.length : Int)) = true := decide_eq_true c9
       clear c9
       obtain rfl := Option.some.inj H
       have p232 : 0 ≤ (a1 : Int) := of_decide_eq_true za
       have q232 : a1 < (l0.length : Int) := of_decide_eq_true za
       obtain ⟨ad232, e232, hx232_0, hx232_1, hx232_2, hx232_3, hx232_4⟩ := at_T60 HR0.out a1 p232 q232
       cases e232
       replace p232 := eq_true p232
       replace q232 := eq_true q232
       have p233 : 0 ≤ ((ji7) : Int) := of_decide_eq_true za
       have q233 : (ji7) < (l0.length : Int) := of_decide_eq_true za
       obtain ⟨ad233, e233, hx233_0, hx233_1, hx233_2, hx233_3, hx233_4⟩ := at_T60 HR0.out (ji7) p233 q233
       obtain rfl : ad232 = ad233 := (by injection e233)
       replace p233 := eq_true p233
       replace q233 := eq_true q233
       go_enter Tryd.func54, Tryd.ntmps54
       go_wp2
       go_ret
       exact ⟨by first | rfl | (simp; done) | (simp only [← hji7] <;> (first | rfl | (simp; done))) | (simp [*]; done) | (simp; simp only [decide_eq_true_eq, eq_iff_iff, iff_true] at *; omega), by repeat (first | exact Drawn0.refl _ | apply Drawn0.step)⟩
      ·rw [if_neg c9] at H
       exact absurd H (by simp)
     ·rw [if_neg c8] at H
      exact absurd H (by simp)
   ·rw [if_neg c5] at H
    have c5b0 : (((rd_T60 l0 a1).f1) == 2) = false := beq_eq_false_iff_ne.mpr c5
    have c5b1 : (((rd_T60 l0 a1).f1) != 2) = true := bne_iff_ne.mpr c5
    by_cases c10 : ((rd_T60 l0 a1).f1) = 0
    ·rw [if_pos c10] at H
     have c10b0 : (((rd_T60 l0 a1).f1) == 0) = true := beq_iff_eq.mpr c10
     have c10b1 : (((rd_T60 l0 a1).f1) != 0) = false := bne_eq_false_iff_eq.mpr c10
     clear c10
     by_cases c11 : a1 = 0
     ·rw [if_pos c11] at H
      have c11b0 : (a1 == 0) = true := beq_iff_eq.mpr c11
      have c11b1 : (a1 != 0) = false := bne_eq_false_iff_eq.mpr c11
      clear c11
      obtain rfl := Option.some.inj H
      have p232 : 0 ≤ (a1 : Int) := of_decide_eq_true za
      have q232 : a1 < (l0.length : Int) := of_decide_eq_true za
      obtain ⟨ad232, e232, hx232_0, hx232_1, hx232_2, hx232_3, hx232_4⟩ := at_T60 HR0.out a1 p232 q232
      cases e232
      replace p232 := eq_true p232
      replace q232 := eq_true q232
      have p234 : 0 ≤ (a1 : Int) := of_decide_eq_true za
      have q234 : a1 < (l0.length : Int) := of_decide_eq_true za
      obtain ⟨ad234, e234, hx234_0, hx234_1, hx234_2, hx234_3, hx234_4⟩ := at_T60 HR0.out a1 p234 q234
      obtain rfl : ad232 = ad234 := (by injection e234)
      replace p234 := eq_true p234
      replace q234 := eq_true q234
      go_enter Tryd.func54, Tryd.ntmps54
      go_wp2
      go_ret
      exact ⟨by first | rfl | (simp; done) | (simp [*]; done), by repeat (first | exact Drawn0.refl _ | apply Drawn0.step)⟩
     ·rw [if_neg c11] at H
      have c11b0 : (a1 == 0) = false := beq_eq_false_iff_ne.mpr c11
      have c11b1 : (a1 != 0) = true := bne_iff_ne.mpr c11
      obtain ⟨ji12, hji12⟩ : ∃ j_ : Int, (wrap64 (a1 - 1)) = j_ := ⟨_, rfl⟩
      replace H : (if 0 ≤ (ji12) then (if (ji12) < (l0.length : Int) then (some (((rd_T60 l0 (ji12)).f1) != 2)) else (none)) else (none)) = some r := by first | (rw [hji12] at H; exact H) | (simp only [hji12] at H ⊢; exact H)
      have hji12w : (IntKind.i64.wrap (a1 - 1)) = ji12 := (i64_w _).trans hji12
      by_cases c13 : 0 ≤ (ji12)
      ·rw [if_pos c13] at H
       have c13b0 : decide (0 ≤ (ji12)) = true := decide_eq_true c13
       clear c13
       by_cases c14 : (ji12) < (l0.length : Int)
       ·rw [if_pos c14] at H
        have c14b0 : decide ((ji12) < (l0.length : Int)) = true := decide_eq_true c14
        clear c14
        obtain rfl := Option.some.inj H
        have p232 : 0 ≤ (a1 : Int) := of_decide_eq_true za
        have q232 : a1 < (l0.length : Int) := of_decide_eq_true za
        obtain ⟨ad232, e232, hx232_0, hx232_1, hx232_2, hx232_3, hx232_4⟩ := at_T60 HR0.out a1 p232 q232
        cases e232
        replace p232 := eq_true p232
        replace q232 := eq_true q232
        have p234 : 0 ≤ (a1 : Int) := of_decide_eq_true za
        have q234 : a1 < (l0.length : Int) := of_decide_eq_true za
        obtain ⟨ad234, e234, hx234_0, hx234_1, hx234_2, hx234_3, hx234_4⟩ := at_T60 HR0.out a1 p234 q234
        obtain rfl : ad232 = ad234 := (by injection e234)
        replace p234 := eq_true p234
        replace q234 := eq_true q234
        have p235 : 0 ≤ ((ji12) : Int) := of_decide_eq_true za
        have q235 : (ji12) < (l0.length : Int) := of_decide_eq_true za
        obtain ⟨ad235, e235, hx235_0, hx235_1, hx235_2, hx235_3, hx235_4⟩ := at_T60 HR0.out (ji12) p235 q235
        obtain rfl : ad232 = ad235 := (by injection e235)
        replace p235 := eq_true p235
        replace q235 := eq_true q235
        go_enter Tryd.func54, Tryd.ntmps54
        go_wp2
        go_ret
        exact ⟨by first | rfl | (simp; done) | (simp only [← hji12] <;> (first | rfl | (simp; done))) | (simp [*]; done) | (simp; simp only [decide_eq_true_eq, eq_iff_iff, iff_true] at *; omega), by repeat (first | exact Drawn0.refl _ | apply Drawn0.step)⟩
       ·rw [if_neg c14] at H
        exact absurd H (by simp)
      ·rw [if_neg c13] at H
       exact absurd H (by simp)
    ·rw [if_neg c10] at H
     have c10b0 : (((rd_T60 l0 a1).f1) == 0) = false := beq_eq_false_iff_ne.mpr c10
     have c10b1 : (((rd_T60 l0 a1).f1) != 0) = true := bne_iff_ne.mpr c10
     obtain rfl := Option.some.inj H
     have p232 : 0 ≤ (a1 : Int) := of_decide_eq_true za
     have q232 : a1 < (l0.length : Int) := of_decide_eq_true za
     obtain ⟨ad232, e232, hx232_0, hx232_1, hx232_2, hx232_3, hx232_4⟩ := at_T60 HR0.out a1 p232 q232
     cases e232
     replace p232 := eq_true p232
     replace q232 := eq_true q232
     have p234 : 0 ≤ (a1 : Int) := of_decide_eq_true za
     have q234 : a1 < (l0.length : Int) := of_decide_eq_true za
     obtain ⟨ad234, e234, hx234_0, hx234_1, hx234_2, hx234_3, hx234_4⟩ := at_T60 HR0.out a1 p234 q234
     obtain rfl : ad232 = ad234 := (by injection e234)
     replace p234 := eq_true p234
     replace q234 := eq_true q234
     go_enter Tryd.func54, Tryd.ntmps54
     go_wp2
     go_ret
     exact ⟨by first | rfl | (simp; done) | (simp [*]; done), by repeat (first | exact Drawn0.refl _ | apply Drawn0.step)⟩
  ·rw [if_neg c4] at H
   exact absurd H (by simp)
 ·rw [if_neg c3] at H
  exact absurd H (by simp)
def backseatref04_in.f (a0 : Int) (a1 : Int) (a2 : Int) : Option (Bool) := if a0 ≥ a1 then (some (decide (a0 ≤ a2))) else (some false)
set_option maxHeartbeats 8000000 in
set_option maxRecDepth 100000 in
theorem backseatref04_in.calls (a0 : Int) (a1 : Int) (a2 : Int) (r : Bool) (w : World) (h : backseatref04_in.f a0 a1 a2 = some r) :
  Calls Tryd.prog 90 #[.int .i64 a0, .int .i64 a1, .int .i64 a2] w fun e w' => e = .returned (.bool r) ∧ Drawn0 w w' := by
 have H : (if a0 ≥ a1 then (some (decide (a0 ≤ a2))) else (some false)) = some r := h
 clear h
 by_cases c4 : a0 ≥ a1
 ·rw [if_pos c4] at H
  have c4b0 : decide (a1 ≤ a0) = true := decide_eq_true c4
  clear c4
  obtain rfl := Option.some.inj H
  go_enter Tryd.func90, Tryd.ntmps90
  go_wp2
  go_ret
  exact ⟨by first | rfl | (simp; done) | (simp [*]; done), by repeat (first | exact Drawn0.refl _ | apply Drawn0.step)⟩
 ·rw [if_neg c4] at H
  have c4b0 : decide (a1 ≤ a0) = false := decide_eq_false c4
  clear c4
  obtain rfl := Option.some.inj H
  go_enter Tryd.func90, Tryd.ntmps90
  go_wp2
  go_ret
  exact ⟨by first | rfl | (simp; done) | (simp [*]; done), by repeat (first | exact Drawn0.refl _ | apply Drawn0.step)⟩
def backseatref04_Look.f (a0_0 : Int) (a0_1 : Int) (a0_2 : Int) : Option (Bool) := (backseatref04_in.f a0_0 0 256).bind fun t200 => (if t200 = true then ((backseatref04_in.f a0_1 0 256).bind fun t201 => (if t201 = true then ((backseatref04_in.f a0_2 0 255).bind fun t202 => (some t202)) else (some false))) else (some false))
set_option maxHeartbeats 8000000 in
set_option maxRecDepth 100000 in
theorem backseatref04_Look.calls (a0_0 : Int) (a0_1 : Int) (a0_2 : Int) (r : Bool) (w : World) (h : backseatref04_Look.f a0_0 a0_1 a0_2 = some r) :
  Calls Tryd.prog 73 #[.agg #[.int .i64 a0_0, .int .i64 a0_1, .int .i64 a0_2]] w fun e w' => e = .returned (.bool r) ∧ Below w.heap.size w w' := by
 have hu58 := Tryd.underlying58
 have HB := Aside0.mk (Below.refl w.heap.size w)
 have H : ((backseatref04_in.f a0_0 0 256).bind fun t200 => (if t200 = true then ((backseatref04_in.f a0_1 0 256).bind fun t201 => (if t201 = true then ((backseatref04_in.f a0_2 0 255).bind fun t202 => (some t202)) else (some false))) else (some false))) = some r := h
 clear h
 replace H := Option.bind_eq_some_iff.mp H
 obtain ⟨t200, A20, H⟩ := H
 replace H : (if t200 = true then ((backseatref04_in.f a0_1 0 256).bind fun t201 => (if t201 = true then ((backseatref04_in.f a0_2 0 255).bind fun t202 => (some t202)) else (some false))) else (some false)) = some r := H
 have A2 := Aside0.mk A20
 clear A20
 by_cases c3 : t200 = true
 ·subst c3
  have H1 : ((backseatref04_in.f a0_1 0 256).bind fun t201 => (if t201 = true then ((backseatref04_in.f a0_2 0 255).bind fun t202 => (some t202)) else (some false))) = some r := by rw [if_pos rfl] at H; exact H
  clear H
  have H := H1
  clear H1
  replace H := Option.bind_eq_some_iff.mp H
  obtain ⟨t201, A40, H⟩ := H
  replace H : (if t201 = true then ((backseatref04_in.f a0_2 0 255).bind fun t202 => (some t202)) else (some false)) = some r := H
  have A4 := Aside0.mk A40
  clear A40
  by_cases c5 : t201 = true
  ·subst c5
   have H1 : ((backseatref04_in.f a0_2 0 255).bind fun t202 => (some t202)) = some r := by rw [if_pos rfl] at H; exact H
   clear H
   have H := H1
   clear H1
   replace H := Option.bind_eq_some_iff.mp H
   obtain ⟨t202, A60, H⟩ := H
   replace H : (some t202) = some r := H
   have A6 := Aside0.mk A60
   clear A60
   obtain rfl := Option.some.inj H
   go_enter Tryd.func73, Tryd.ntmps73
   go_wp2_with (first | ((with_reducible refine gate_dst (N := 1) rfl ?_); refine box_event ?hg (N := 1) ?hd (cs := #[.int .i64 a0_0, .int .i64 a0_1, .int .i64 a0_2]) (t := 58) ?hr ?_; (case hd => rfl); (case hg => rfl); (case hr => exact zo); intro gb199 hg w7 hbox hb; have BK199 := Aside0.mk (hbox); have GW199 := Aside0.mk ((zg hg : w.heap.size ≤ gb199)); have GE199 := Aside0.mk ((zg hg : w.heap.size ≤ gb199)); replace HB := (zs HB hb); clear hb hbox hg; obtain ⟨hcz8_0, hcz8_1, hcz8_2, hfz8_0, hfz8_1, hfz8_2⟩ := zq3 (w := w7) BK199) | ((with_reducible refine gate_callee (f := 90) rfl ?_); refine goesL_ (some 5) rfl rfl Tryd.func90 (by kernel_rfl) rfl #[.int .i64 a0_0, .int .i64 0, .int .i64 256] rfl zl ?_; (with_reducible refine (backseatref04_in.calls a0_0 0 256 true _ A2.out).mono ?_); rintro e w' ⟨rfl, ⟨nd, rfl⟩⟩; refine ⟨_, rfl, ?_⟩) | (go_at_call 90; (with_reducible refine (backseatref04_in.calls a0_1 0 256 true _ A4.out).mono ?_); rintro e w' ⟨rfl, ⟨nd, rfl⟩⟩) | (go_at_call 90; (with_reducible refine (backseatref04_in.calls a0_2 0 255 t202 _ A6.out).mono ?_); rintro e w' ⟨rfl, ⟨nd, rfl⟩⟩))
   go_ret
   exact ⟨ze, zb⟩
  ·replace c5 := Bool.eq_false_iff.mpr c5
   subst c5
   have H1 : (some false) = some r := by rw [if_neg (show ¬ (false = true) by decide)] at H; exact H
   clear H
   have H := H1
   clear H1
   obtain rfl := Option.some.inj H
   go_enter Tryd.func73, Tryd.ntmps73
   go_wp2_with (first | ((with_reducible refine gate_dst (N := 1) rfl ?_); refine box_event ?hg (N := 1) ?hd (cs := #[.int .i64 a0_0, .int .i64 a0_1, .int .i64 a0_2]) (t := 58) ?hr ?_; (case hd => rfl); (case hg => rfl); (case hr => exact zo); intro gb199 hg w9 hbox hb; have BK199 := Aside0.mk (hbox); have GW199 := Aside0.mk ((zg hg : w.heap.size ≤ gb199)); have GE199 := Aside0.mk ((zg hg : w.heap.size ≤ gb199)); replace HB := (zs HB hb); clear hb hbox hg; obtain ⟨hcz10_0, hcz10_1, hcz10_2, hfz10_0, hfz10_1, hfz10_2⟩ := zq3 (w := w9) BK199) | ((with_reducible refine gate_callee (f := 90) rfl ?_); refine goesL_ (some 5) rfl rfl Tryd.func90 (by kernel_rfl) rfl #[.int .i64 a0_0, .int .i64 0, .int .i64 256] rfl zl ?_; (with_reducible refine (backseatref04_in.calls a0_0 0 256 true _ A2.out).mono ?_); rintro e w' ⟨rfl, ⟨nd, rfl⟩⟩; refine ⟨_, rfl, ?_⟩) | (go_at_call 90; (with_reducible refine (backseatref04_in.calls a0_1 0 256 false _ A4.out).mono ?_); rintro e w' ⟨rfl, ⟨nd, rfl⟩⟩))
   go_ret
   exact ⟨ze, zb⟩
 ·replace c3 := Bool.eq_false_iff.mpr c3
  subst c3
  have H1 : (some false) = some r := by rw [if_neg (show ¬ (false = true) by decide)] at H; exact H
  clear H
  have H := H1
  clear H1
  obtain rfl := Option.some.inj H
  go_enter Tryd.func73, Tryd.ntmps73
  go_wp2_with (first | ((with_reducible refine gate_dst (N := 1) rfl ?_); refine box_event ?hg (N := 1) ?hd (cs := #[.int .i64 a0_0, .int .i64 a0_1, .int .i64 a0_2]) (t := 58) ?hr ?_; (case hd => rfl); (case hg => rfl); (case hr => exact zo); intro gb199 hg w11 hbox hb; have BK199 := Aside0.mk (hbox); have GW199 := Aside0.mk ((zg hg : w.heap.size ≤ gb199)); have GE199 := Aside0.mk ((zg hg : w.heap.size ≤ gb199)); replace HB := (zs HB hb); clear hb hbox hg; obtain ⟨hcz12_0, hcz12_1, hcz12_2, hfz12_0, hfz12_1, hfz12_2⟩ := zq3 (w := w11) BK199) | ((with_reducible refine gate_callee (f := 90) rfl ?_); refine goesL_ (some 5) rfl rfl Tryd.func90 (by kernel_rfl) rfl #[.int .i64 a0_0, .int .i64 0, .int .i64 256] rfl zl ?_; (with_reducible refine (backseatref04_in.calls a0_0 0 256 false _ A2.out).mono ?_); rintro e w' ⟨rfl, ⟨nd, rfl⟩⟩; refine ⟨_, rfl, ?_⟩))
  go_ret
  exact ⟨ze, zb⟩
def backseatref01_Is.f (a0 : Int) : Option (Bool) := if a0 ≥ 0 then (if a0 ≤ 1114111 then (if a0 < 55296 then (some true) else (some (decide (a0 > 57343)))) else (some false)) else (some false)
set_option maxHeartbeats 8000000 in
set_option maxRecDepth 100000 in
theorem backseatref01_Is.calls (a0 : Int) (r : Bool) (w : World) (h : backseatref01_Is.f a0 = some r) :
  Calls Tryd.prog 94 #[.int .i32 a0] w fun e w' => e = .returned (.bool r) ∧ Drawn0 w w' := by
 have H : (if a0 ≥ 0 then (if a0 ≤ 1114111 then (if a0 < 55296 then (some true) else (some (decide (a0 > 57343)))) else (some false)) else (some false)) = some r := h
 clear h
 by_cases c2 : a0 ≥ 0
 ·rw [if_pos c2] at H
  have c2b0 : decide (0 ≤ a0) = true := decide_eq_true c2
  clear c2
  by_cases c3 : a0 ≤ 1114111
  ·rw [if_pos c3] at H
   have c3b0 : decide (a0 ≤ 1114111) = true := decide_eq_true c3
   clear c3
   by_cases c4 : a0 < 55296
   ·rw [if_pos c4] at H
    have c4b0 : decide (a0 < 55296) = true := decide_eq_true c4
    clear c4
    obtain rfl := Option.some.inj H
    go_enter Tryd.func94, Tryd.ntmps94
    go_wp2
    go_ret
    exact ⟨by first | rfl | (simp; done) | (simp [*]; done), by repeat (first | exact Drawn0.refl _ | apply Drawn0.step)⟩
   ·rw [if_neg c4] at H
    have c4b0 : decide (a0 < 55296) = false := decide_eq_false c4
    clear c4
    obtain rfl := Option.some.inj H
    go_enter Tryd.func94, Tryd.ntmps94
    go_wp2
    go_ret
    exact ⟨by first | rfl | (simp; done) | (simp [*]; done), by repeat (first | exact Drawn0.refl _ | apply Drawn0.step)⟩
  ·rw [if_neg c3] at H
   have c3b0 : decide (a0 ≤ 1114111) = false := decide_eq_false c3
   clear c3
   obtain rfl := Option.some.inj H
   go_enter Tryd.func94, Tryd.ntmps94
   go_wp2
   go_ret
   exact ⟨by first | rfl | (simp; done) | (simp [*]; done), by repeat (first | exact Drawn0.refl _ | apply Drawn0.step)⟩
 ·rw [if_neg c2] at H
  have c2b0 : decide (0 ≤ a0) = false := decide_eq_false c2
  clear c2
  obtain rfl := Option.some.inj H
  go_enter Tryd.func94, Tryd.ntmps94
  go_wp2
  go_ret
  exact ⟨by first | rfl | (simp; done) | (simp [*]; done), by repeat (first | exact Drawn0.refl _ | apply Drawn0.step)⟩
def backseatref01_in.f (a0 : Int) (a1 : Int) (a2 : Int) : Option (Bool) := if a0 ≥ a1 then (some (decide (a0 ≤ a2))) else (some false)
set_option maxHeartbeats 8000000 in
set_option maxRecDepth 100000 in
theorem backseatref01_in.calls (a0 : Int) (a1 : Int) (a2 : Int) (r : Bool) (w : World) (h : backseatref01_in.f a0 a1 a2 = some r) :
  Calls Tryd.prog 95 #[.int .i32 a0, .int .i32 a1, .int .i32 a2] w fun e w' => e = .returned (.bool r) ∧ Drawn0 w w' := by
 have H : (if a0 ≥ a1 then (some (decide (a0 ≤ a2))) else (some false)) = some r := h
 clear h
 by_cases c4 : a0 ≥ a1
 ·rw [if_pos c4] at H
  have c4b0 : decide (a1 ≤ a0) = true := decide_eq_true c4
  clear c4
  obtain rfl := Option.some.inj H
  go_enter Tryd.func95, Tryd.ntmps95
  go_wp2
  go_ret
  exact ⟨by first | rfl | (simp; done) | (simp [*]; done), by repeat (first | exact Drawn0.refl _ | apply Drawn0.step)⟩
 ·rw [if_neg c4] at H
  have c4b0 : decide (a1 ≤ a0) = false := decide_eq_false c4
  clear c4
  obtain rfl := Option.some.inj H
  go_enter Tryd.func95, Tryd.ntmps95
  go_wp2
  go_ret
  exact ⟨by first | rfl | (simp; done) | (simp [*]; done), by repeat (first | exact Drawn0.refl _ | apply Drawn0.step)⟩
mutual
def backseatref01_Width.j0 : Nat → Int → Bool → Option (Int)
 | 0, _, _ => none
 | k + 1, x0, x13 => if x13 = true then (some (-1)) else ((backseatref01_in.f x0 768 879).bind fun t209 => (if t209 = true then (backseatref01_Width.j1 k x0 true) else ((backseatref01_in.f x0 8203 8205).bind fun t210 => (if t210 = true then (backseatref01_Width.j1 k x0 true) else ((backseatref01_in.f x0 65024 65039).bind fun t211 => (backseatref01_Width.j1 k x0 t211))))))
def backseatref01_Width.j1 : Nat → Int → Bool → Option (Int)
 | 0, _, _ => none
 | k + 1, x0, x23 => if x23 = true then (some 0) else ((backseatref01_in.f x0 4352 4447).bind fun t212 => (if t212 = true then (backseatref01_Width.j2 k x0 true) else ((backseatref01_in.f x0 12353 19903).bind fun t213 => (if t213 = true then (backseatref01_Width.j2 k x0 true) else ((backseatref01_in.f x0 19968 40959).bind fun t214 => (if t214 = true then (backseatref01_Width.j2 k x0 true) else ((backseatref01_in.f x0 44032 55203).bind fun t215 => (backseatref01_Width.j2 k x0 t215))))))))
def backseatref01_Width.j2 : Nat → Int → Bool → Option (Int)
 | 0, _, _ => none
 | k + 1, x0, x37 => if x37 = true then (some 2) else ((backseatref01_in.f x0 63744 64255).bind fun t216 => (if t216 = true then (some 2) else ((backseatref01_in.f x0 65281 65376).bind fun t217 => (if t217 = true then (some 2) else ((backseatref01_in.f x0 127744 129791).bind fun t218 => (if t218 = true then (some 2) else ((backseatref01_in.f x0 131072 262141).bind fun t219 => (if t219 = true then (some 2) else (some 1)))))))))
end
def backseatref01_Width.f (k : Nat) (a0 : Int) : Option (Int) := (backseatref01_Is.f a0).bind fun t207 => (if t207 = true then (if a0 < 32 then (backseatref01_Width.j0 k a0 true) else ((backseatref01_in.f a0 127 159).bind fun t208 => (backseatref01_Width.j0 k a0 t208))) else (backseatref01_Width.j0 k a0 true))
set_option maxHeartbeats 8000000 in
set_option maxRecDepth 100000 in
theorem backseatref01_Width.calls (k : Nat) (a0 : Int) (r : Int) (w : World) (h : backseatref01_Width.f k a0 = some r) :
  Calls Tryd.prog 75 #[.int .i32 a0] w fun e w' => e = .returned (.int .i64 r) ∧ Drawn0 w w' := by
 have H : ((backseatref01_Is.f a0).bind fun t207 => (if t207 = true then (if a0 < 32 then (backseatref01_Width.j0 k a0 true) else ((backseatref01_in.f a0 127 159).bind fun t208 => (backseatref01_Width.j0 k a0 t208))) else (backseatref01_Width.j0 k a0 true))) = some r := h
 clear h
 have HC2 := Aside0.mk H
 clear H
 go_enter Tryd.func75, Tryd.ntmps75
 go_upto_region 1 with (fail)
 go_cut [13] (fun v13 wc => ∃ (kq : Nat) (x13_1 : Bool), v13 = .bool x13_1 ∧ Aside0 (backseatref01_Width.j0 kq a0 x13_1 = some r) ∧ Aside0 (kq ≤ k) ∧ Drawn0 w wc)
 case first =>
  have H := HC2.out
  clear HC2
  replace H := Option.bind_eq_some_iff.mp H
  obtain ⟨t207, A30, H⟩ := H
  replace H : (if t207 = true then (if a0 < 32 then (backseatref01_Width.j0 k a0 true) else ((backseatref01_in.f a0 127 159).bind fun t208 => (backseatref01_Width.j0 k a0 t208))) else (backseatref01_Width.j0 k a0 true)) = some r := H
  have A3 := Aside0.mk A30
  clear A30
  by_cases c4 : t207 = true
  ·subst c4
   have H1 : (if a0 < 32 then (backseatref01_Width.j0 k a0 true) else ((backseatref01_in.f a0 127 159).bind fun t208 => (backseatref01_Width.j0 k a0 t208))) = some r := by rw [if_pos rfl] at H; exact H
   clear H
   have H := H1
   clear H1
   by_cases c5 : a0 < 32
   ·rw [if_pos c5] at H
    have c5b0 : decide (a0 < 32) = true := decide_eq_true c5
    clear c5
    (first | rw [c5b0] | (simp only [i64_w, i32_w]; rw [c5b0]) | skip)
    have H' := Aside0.mk H
    clear H
    go_wp2_with (first | ((with_reducible refine gate_callee (f := 94) rfl ?_); refine goesL_ (some 4) rfl rfl Tryd.func94 (by kernel_rfl) rfl #[.int .i32 a0] rfl zl ?_; (with_reducible refine (backseatref01_Is.calls a0 true _ A3.out).mono ?_); rintro e w' ⟨rfl, ⟨nd, rfl⟩⟩; refine ⟨_, rfl, ?_⟩))
    go_meet
    case rel => exact ⟨_, (true), zf, H', ⟨by first | omega | exact Nat.le_refl _⟩, by repeat (first | exact Drawn0.refl _ | apply Drawn0.step)⟩
   ·rw [if_neg c5] at H
    have c5b0 : decide (a0 < 32) = false := decide_eq_false c5
    clear c5
    (first | rw [c5b0] | (simp only [i64_w, i32_w]; rw [c5b0]) | skip)
    replace H := Option.bind_eq_some_iff.mp H
    obtain ⟨t208, A60, H⟩ := H
    replace H : (backseatref01_Width.j0 k a0 t208) = some r := H
    have A6 := Aside0.mk A60
    clear A60
    have H' := Aside0.mk H
    clear H
    go_wp2_with (first | ((with_reducible refine gate_callee (f := 94) rfl ?_); refine goesL_ (some 4) rfl rfl Tryd.func94 (by kernel_rfl) rfl #[.int .i32 a0] rfl zl ?_; (with_reducible refine (backseatref01_Is.calls a0 true _ A3.out).mono ?_); rintro e w' ⟨rfl, ⟨nd, rfl⟩⟩; refine ⟨_, rfl, ?_⟩) | (go_at_call 95; (with_reducible refine (backseatref01_in.calls a0 127 159 t208 _ A6.out).mono ?_); rintro e w' ⟨rfl, ⟨nd, rfl⟩⟩))
    go_meet
    case rel => exact ⟨_, (t208), zf, H', ⟨by first | omega | exact Nat.le_refl _⟩, by repeat (first | exact Drawn0.refl _ | apply Drawn0.step)⟩
  ·replace c4 := Bool.eq_false_iff.mpr c4
   subst c4
   have H1 : (backseatref01_Width.j0 k a0 true) = some r := by rw [if_neg (show ¬ (false = true) by decide)] at H; exact H
   clear H
   have H := H1
   clear H1
   have H' := Aside0.mk H
   clear H
   go_wp2_with (first | ((with_reducible refine gate_callee (f := 94) rfl ?_); refine goesL_ (some 4) rfl rfl Tryd.func94 (by kernel_rfl) rfl #[.int .i32 a0] rfl zl ?_; (with_reducible refine (backseatref01_Is.calls a0 false _ A3.out).mono ?_); rintro e w' ⟨rfl, ⟨nd, rfl⟩⟩; refine ⟨_, rfl, ?_⟩))
   go_meet
   case rel => exact ⟨_, (true), zf, H', ⟨by first | omega | exact Nat.le_refl _⟩, by repeat (first | exact Drawn0.refl _ | apply Drawn0.step)⟩
 case rest =>
  clear HC2
  obtain ⟨kq, x13_1, rfl, HA, HJ1, ⟨mc1, rfl⟩⟩ := hcut
  cases kq with
  | zero => exact absurd HA.out (by simp [backseatref01_Width.j0])
  | succ kj1 =>
   have H := HA.out
   clear HA
   simp only [backseatref01_Width.j0] at H
   by_cases c7 : x13_1 = true
   ·subst c7
    have H1 : (some (-1)) = some r := by rw [if_pos rfl] at H; exact H
    clear H
    have H := H1
    clear H1
    obtain rfl := Option.some.inj H
    go_wp2
    go_ret
    exact ⟨by first | rfl | (simp; done) | (simp [*]; done), by repeat (first | exact Drawn0.refl _ | apply Drawn0.step)⟩
   ·replace c7 := Bool.eq_false_iff.mpr c7
    subst c7
    have H1 : ((backseatref01_in.f a0 768 879).bind fun t209 => (if t209 = true then (backseatref01_Width.j1 kj1 a0 true) else ((backseatref01_in.f a0 8203 8205).bind fun t210 => (if t210 = true then (backseatref01_Width.j1 kj1 a0 true) else ((backseatref01_in.f a0 65024 65039).bind fun t211 => (backseatref01_Width.j1 kj1 a0 t211)))))) = some r := by rw [if_neg (show ¬ (false = true) by decide)] at H; exact H
    clear H
    have H := H1
    clear H1
    have HC8 := Aside0.mk H
    clear H
    go_upto_region 3 with (fail)
    go_cut [23] (fun v23 wc => ∃ (kq : Nat) (x23_7 : Bool), v23 = .bool x23_7 ∧ Aside0 (backseatref01_Width.j1 kq a0 x23_7 = some r) ∧ Aside0 (kq ≤ kj1) ∧ Drawn0 w wc)
    case first =>
     have H := HC8.out
     clear HC8
     replace H := Option.bind_eq_some_iff.mp H
     obtain ⟨t209, A90, H⟩ := H
     replace H : (if t209 = true then (backseatref01_Width.j1 kj1 a0 true) else ((backseatref01_in.f a0 8203 8205).bind fun t210 => (if t210 = true then (backseatref01_Width.j1 kj1 a0 true) else ((backseatref01_in.f a0 65024 65039).bind fun t211 => (backseatref01_Width.j1 kj1 a0 t211))))) = some r := H
     have A9 := Aside0.mk A90
     clear A90
     by_cases c10 : t209 = true
     ·subst c10
      have H1 : (backseatref01_Width.j1 kj1 a0 true) = some r := by rw [if_pos rfl] at H; exact H
      clear H
      have H := H1
      clear H1
      have H' := Aside0.mk H
      clear H
      go_wp2_with (first | ((with_reducible refine gate_callee (f := 95) rfl ?_); refine goesL_ (some 15) rfl rfl Tryd.func95 (by kernel_rfl) rfl #[.int .i32 a0, .int .i32 768, .int .i32 879] rfl zl ?_; (with_reducible refine (backseatref01_in.calls a0 768 879 true _ A9.out).mono ?_); rintro e w' ⟨rfl, ⟨nd, rfl⟩⟩; refine ⟨_, rfl, ?_⟩))
      go_meet
      case rel => exact ⟨_, (true), zf, H', ⟨by have := HJ1.out; first | omega | exact Nat.le_refl _⟩, by repeat (first | exact Drawn0.refl _ | apply Drawn0.step)⟩
     ·replace c10 := Bool.eq_false_iff.mpr c10
      subst c10
      have H1 : ((backseatref01_in.f a0 8203 8205).bind fun t210 => (if t210 = true then (backseatref01_Width.j1 kj1 a0 true) else ((backseatref01_in.f a0 65024 65039).bind fun t211 => (backseatref01_Width.j1 kj1 a0 t211)))) = some r := by rw [if_neg (show ¬ (false = true) by decide)] at H; exact H
      clear H
      have H := H1
      clear H1
      replace H := Option.bind_eq_some_iff.mp H
      obtain ⟨t210, A110, H⟩ := H
      replace H : (if t210 = true then (backseatref01_Width.j1 kj1 a0 true) else ((backseatref01_in.f a0 65024 65039).bind fun t211 => (backseatref01_Width.j1 kj1 a0 t211))) = some r := H
      have A11 := Aside0.mk A110
      clear A110
      by_cases c12 : t210 = true
      ·subst c12
       have H1 : (backseatref01_Width.j1 kj1 a0 true) = some r := by rw [if_pos rfl] at H; exact H
       clear H
       have H := H1
       clear H1
       have H' := Aside0.mk H
       clear H
       go_wp2_with (first | ((with_reducible refine gate_callee (f := 95) rfl ?_); refine goesL_ (some 15) rfl rfl Tryd.func95 (by kernel_rfl) rfl #[.int .i32 a0, .int .i32 768, .int .i32 879] rfl zl ?_; (with_reducible refine (backseatref01_in.calls a0 768 879 false _ A9.out).mono ?_); rintro e w' ⟨rfl, ⟨nd, rfl⟩⟩; refine ⟨_, rfl, ?_⟩) | (go_at_call 95; (with_reducible refine (backseatref01_in.calls a0 8203 8205 true _ A11.out).mono ?_); rintro e w' ⟨rfl, ⟨nd, rfl⟩⟩))
       go_meet
       case rel => exact ⟨_, (true), zf, H', ⟨by have := HJ1.out; first | omega | exact Nat.le_refl _⟩, by repeat (first | exact Drawn0.refl _ | apply Drawn0.step)⟩
      ·replace c12 := Bool.eq_false_iff.mpr c12
       subst c12
       have H1 : ((backseatref01_in.f a0 65024 65039).bind fun t211 => (backseatref01_Width.j1 kj1 a0 t211)) = some r := by rw [if_neg (show ¬ (false = true) by decide)] at H; exact H
       clear H
       have H := H1
       clear H1
       replace H := Option.bind_eq_some_iff.mp H
       obtain ⟨t211, A130, H⟩ := H
       replace H : (backseatref01_Width.j1 kj1 a0 t211) = some r := H
       have A13 := Aside0.mk A130
       clear A130
       have H' := Aside0.mk H
       clear H
       go_wp2_with (first | ((with_reducible refine gate_callee (f := 95) rfl ?_); refine goesL_ (some 15) rfl rfl Tryd.func95 (by kernel_rfl) rfl #[.int .i32 a0, .int .i32 768, .int .i32 879] rfl zl ?_; (with_reducible refine (backseatref01_in.calls a0 768 879 false _ A9.out).mono ?_); rintro e w' ⟨rfl, ⟨nd, rfl⟩⟩; refine ⟨_, rfl, ?_⟩) | (go_at_call 95; (with_reducible refine (backseatref01_in.calls a0 8203 8205 false _ A11.out).mono ?_); rintro e w' ⟨rfl, ⟨nd, rfl⟩⟩) | (go_at_call 95; (with_reducible refine (backseatref01_in.calls a0 65024 65039 t211 _ A13.out).mono ?_); rintro e w' ⟨rfl, ⟨nd, rfl⟩⟩))
       go_meet
       case rel => exact ⟨_, (t211), zf, H', ⟨by have := HJ1.out; first | omega | exact Nat.le_refl _⟩, by repeat (first | exact Drawn0.refl _ | apply Drawn0.step)⟩
    case rest =>
     clear HC8
     try clear c7
     obtain ⟨kq, x23_7, rfl, HA, HJ7, ⟨mc7, rfl⟩⟩ := hcut
     cases kq with
     | zero => exact absurd HA.out (by simp [backseatref01_Width.j1])
     | succ kj7 =>
      have H := HA.out
      clear HA
      simp only [backseatref01_Width.j1] at H
      by_cases c14 : x23_7 = true
      ·subst c14
       have H1 : (some 0) = some r := by rw [if_pos rfl] at H; exact H
       clear H
       have H := H1
       clear H1
       obtain rfl := Option.some.inj H
       go_wp2
       go_ret
       exact ⟨by first | rfl | (simp; done) | (simp [*]; done), by repeat (first | exact Drawn0.refl _ | apply Drawn0.step)⟩
      ·replace c14 := Bool.eq_false_iff.mpr c14
       subst c14
       have H1 : ((backseatref01_in.f a0 4352 4447).bind fun t212 => (if t212 = true then (backseatref01_Width.j2 kj7 a0 true) else ((backseatref01_in.f a0 12353 19903).bind fun t213 => (if t213 = true then (backseatref01_Width.j2 kj7 a0 true) else ((backseatref01_in.f a0 19968 40959).bind fun t214 => (if t214 = true then (backseatref01_Width.j2 kj7 a0 true) else ((backseatref01_in.f a0 44032 55203).bind fun t215 => (backseatref01_Width.j2 kj7 a0 t215)))))))) = some r := by rw [if_neg (show ¬ (false = true) by decide)] at H; exact H
       clear H
       have H := H1
       clear H1
       have HC15 := Aside0.mk H
       clear H
       go_upto_region 5 with (fail)
       go_cut [37] (fun v37 wc => ∃ (kq : Nat) (x37_14 : Bool), v37 = .bool x37_14 ∧ Aside0 (backseatref01_Width.j2 kq a0 x37_14 = some r) ∧ Aside0 (kq ≤ kj7) ∧ Drawn0 w wc)
       case first =>
        have H := HC15.out
        clear HC15
        replace H := Option.bind_eq_some_iff.mp H
        obtain ⟨t212, A160, H⟩ := H
        replace H : (if t212 = true then (backseatref01_Width.j2 kj7 a0 true) else ((backseatref01_in.f a0 12353 19903).bind fun t213 => (if t213 = true then (backseatref01_Width.j2 kj7 a0 true) else ((backseatref01_in.f a0 19968 40959).bind fun t214 => (if t214 = true then (backseatref01_Width.j2 kj7 a0 true) else ((backseatref01_in.f a0 44032 55203).bind fun t215 => (backseatref01_Width.j2 kj7 a0 t215))))))) = some r := H
        have A16 := Aside0.mk A160
        clear A160
        by_cases c17 : t212 = true
        ·subst c17
         have H1 : (backseatref01_Width.j2 kj7 a0 true) = some r := by rw [if_pos rfl] at H; exact H
         clear H
         have H := H1
         clear H1
         have H' := Aside0.mk H
         clear H
         go_wp2_with (first | ((with_reducible refine gate_callee (f := 95) rfl ?_); refine goesL_ (some 25) rfl rfl Tryd.func95 (by kernel_rfl) rfl #[.int .i32 a0, .int .i32 4352, .int .i32 4447] rfl zl ?_; (with_reducible refine (backseatref01_in.calls a0 4352 4447 true _ A16.out).mono ?_); rintro e w' ⟨rfl, ⟨nd, rfl⟩⟩; refine ⟨_, rfl, ?_⟩))
         go_meet
         case rel => exact ⟨_, (true), zf, H', ⟨by have := HJ1.out; have := HJ7.out; first | omega | exact Nat.le_refl _⟩, by repeat (first | exact Drawn0.refl _ | apply Drawn0.step)⟩
        ·replace c17 := Bool.eq_false_iff.mpr c17
         subst c17
         have H1 : ((backseatref01_in.f a0 12353 19903).bind fun t213 => (if t213 = true then (backseatref01_Width.j2 kj7 a0 true) else ((backseatref01_in.f a0 19968 40959).bind fun t214 => (if t214 = true then (backseatref01_Width.j2 kj7 a0 true) else ((backseatref01_in.f a0 44032 55203).bind fun t215 => (backseatref01_Width.j2 kj7 a0 t215)))))) = some r := by rw [if_neg (show ¬ (false = true) by decide)] at H; exact H
         clear H
         have H := H1
         clear H1
         replace H := Option.bind_eq_some_iff.mp H
         obtain ⟨t213, A180, H⟩ := H
         replace H : (if t213 = true then (backseatref01_Width.j2 kj7 a0 true) else ((backseatref01_in.f a0 19968 40959).bind fun t214 => (if t214 = true then (backseatref01_Width.j2 kj7 a0 true) else ((backseatref01_in.f a0 44032 55203).bind fun t215 => (backseatref01_Width.j2 kj7 a0 t215))))) = some r := H
         have A18 := Aside0.mk A180
         clear A180
         by_cases c19 : t213 = true
         ·subst c19
          have H1 : (backseatref01_Width.j2 kj7 a0 true) = some r := by rw [if_pos rfl] at H; exact H
          clear H
          have H := H1
          clear H1
          have H' := Aside0.mk H
          clear H
          go_wp2_with (first | ((with_reducible refine gate_callee (f := 95) rfl ?_); refine goesL_ (some 25) rfl rfl Tryd.func95 (by kernel_rfl) rfl #[.int .i32 a0, .int .i32 4352, .int .i32 4447] rfl zl ?_; (with_reducible refine (backseatref01_in.calls a0 4352 4447 false _ A16.out).mono ?_); rintro e w' ⟨rfl, ⟨nd, rfl⟩⟩; refine ⟨_, rfl, ?_⟩) | (go_at_call 95; (with_reducible refine (backseatref01_in.calls a0 12353 19903 true _ A18.out).mono ?_); rintro e w' ⟨rfl, ⟨nd, rfl⟩⟩))
          go_meet
          case rel => exact ⟨_, (true), zf, H', ⟨by have := HJ1.out; have := HJ7.out; first | omega | exact Nat.le_refl _⟩, by repeat (first | exact Drawn0.refl _ | apply Drawn0.step)⟩
         ·replace c19 := Bool.eq_false_iff.mpr c19
          subst c19
          have H1 : ((backseatref01_in.f a0 19968 40959).bind fun t214 => (if t214 = true then (backseatref01_Width.j2 kj7 a0 true) else ((backseatref01_in.f a0 44032 55203).bind fun t215 => (backseatref01_Width.j2 kj7 a0 t215)))) = some r := by rw [if_neg (show ¬ (false = true) by decide)] at H; exact H
          clear H
          have H := H1
          clear H1
          replace H := Option.bind_eq_some_iff.mp H
          obtain ⟨t214, A200, H⟩ := H
          replace H : (if t214 = true then (backseatref01_Width.j2 kj7 a0 true) else ((backseatref01_in.f a0 44032 55203).bind fun t215 => (backseatref01_Width.j2 kj7 a0 t215))) = some r := H
          have A20 := Aside0.mk A200
          clear A200
          by_cases c21 : t214 = true
          ·subst c21
           have H1 : (backseatref01_Width.j2 kj7 a0 true) = some r := by rw [if_pos rfl] at H; exact H
           clear H
           have H := H1
           clear H1
           have H' := Aside0.mk H
           clear H
           go_wp2_with (first | ((with_reducible refine gate_callee (f := 95) rfl ?_); refine goesL_ (some 25) rfl rfl Tryd.func95 (by kernel_rfl) rfl #[.int .i32 a0, .int .i32 4352, .int .i32 4447] rfl zl ?_; (with_reducible refine (backseatref01_in.calls a0 4352 4447 false _ A16.out).mono ?_); rintro e w' ⟨rfl, ⟨nd, rfl⟩⟩; refine ⟨_, rfl, ?_⟩) | (go_at_call 95; (with_reducible refine (backseatref01_in.calls a0 12353 19903 false _ A18.out).mono ?_); rintro e w' ⟨rfl, ⟨nd, rfl⟩⟩) | (go_at_call 95; (with_reducible refine (backseatref01_in.calls a0 19968 40959 true _ A20.out).mono ?_); rintro e w' ⟨rfl, ⟨nd, rfl⟩⟩))
           go_meet
           case rel => exact ⟨_, (true), zf, H', ⟨by have := HJ1.out; have := HJ7.out; first | omega | exact Nat.le_refl _⟩, by repeat (first | exact Drawn0.refl _ | apply Drawn0.step)⟩
          ·replace c21 := Bool.eq_false_iff.mpr c21
           subst c21
           have H1 : ((backseatref01_in.f a0 44032 55203).bind fun t215 => (backseatref01_Width.j2 kj7 a0 t215)) = some r := by rw [if_neg (show ¬ (false = true) by decide)] at H; exact H
           clear H
           have H := H1
           clear H1
           replace H := Option.bind_eq_some_iff.mp H
           obtain ⟨t215, A220, H⟩ := H
           replace H : (backseatref01_Width.j2 kj7 a0 t215) = some r := H
           have A22 := Aside0.mk A220
           clear A220
           have H' := Aside0.mk H
           clear H
           go_wp2_with (first | ((with_reducible refine gate_callee (f := 95) rfl ?_); refine goesL_ (some 25) rfl rfl Tryd.func95 (by kernel_rfl) rfl #[.int .i32 a0, .int .i32 4352, .int .i32 4447] rfl zl ?_; (with_reducible refine (backseatref01_in.calls a0 4352 4447 false _ A16.out).mono ?_); rintro e w' ⟨rfl, ⟨nd, rfl⟩⟩; refine ⟨_, rfl, ?_⟩) | (go_at_call 95; (with_reducible refine (backseatref01_in.calls a0 12353 19903 false _ A18.out).mono ?_); rintro e w' ⟨rfl, ⟨nd, rfl⟩⟩) | (go_at_call 95; (with_reducible refine (backseatref01_in.calls a0 19968 40959 false _ A20.out).mono ?_); rintro e w' ⟨rfl, ⟨nd, rfl⟩⟩) | (go_at_call 95; (with_reducible refine (backseatref01_in.calls a0 44032 55203 t215 _ A22.out).mono ?_); rintro e w' ⟨rfl, ⟨nd, rfl⟩⟩))
           go_meet
           case rel => exact ⟨_, (t215), zf, H', ⟨by have := HJ1.out; have := HJ7.out; first | omega | exact Nat.le_refl _⟩, by repeat (first | exact Drawn0.refl _ | apply Drawn0.step)⟩
       case rest =>
        clear HC15
        try clear c7
        try clear c14
        obtain ⟨kq, x37_14, rfl, HA, HJ14, ⟨mc14, rfl⟩⟩ := hcut
        cases kq with
        | zero => exact absurd HA.out (by simp [backseatref01_Width.j2])
        | succ kj14 =>
         have H := HA.out
         clear HA
         simp only [backseatref01_Width.j2] at H
         by_cases c23 : x37_14 = true
         ·subst c23
          have H1 : (some 2) = some r := by rw [if_pos rfl] at H; exact H
          clear H
          have H := H1
          clear H1
          obtain rfl := Option.some.inj H
          go_wp2
          go_ret
          exact ⟨by first | rfl | (simp; done) | (simp [*]; done), by repeat (first | exact Drawn0.refl _ | apply Drawn0.step)⟩
         ·replace c23 := Bool.eq_false_iff.mpr c23
          subst c23
          have H1 : ((backseatref01_in.f a0 63744 64255).bind fun t216 => (if t216 = true then (some 2) else ((backseatref01_in.f a0 65281 65376).bind fun t217 => (if t217 = true then (some 2) else ((backseatref01_in.f a0 127744 129791).bind fun t218 => (if t218 = true then (some 2) else ((backseatref01_in.f a0 131072 262141).bind fun t219 => (if t219 = true then (some 2) else (some 1))))))))) = some r := by rw [if_neg (show ¬ (false = true) by decide)] at H; exact H
          clear H
          have H := H1
          clear H1
          replace H := Option.bind_eq_some_iff.mp H
          obtain ⟨t216, A240, H⟩ := H
          replace H : (if t216 = true then (some 2) else ((backseatref01_in.f a0 65281 65376).bind fun t217 => (if t217 = true then (some 2) else ((backseatref01_in.f a0 127744 129791).bind fun t218 => (if t218 = true then (some 2) else ((backseatref01_in.f a0 131072 262141).bind fun t219 => (if t219 = true then (some 2) else (some 1)))))))) = some r := H
          have A24 := Aside0.mk A240
          clear A240
          by_cases c25 : t216 = true
          ·subst c25
           have H1 : (some 2) = some r := by rw [if_pos rfl] at H; exact H
           clear H
           have H := H1
           clear H1
           obtain rfl := Option.some.inj H
           go_wp2_with (first | ((with_reducible refine gate_callee (f := 95) rfl ?_); refine goesL_ (some 39) rfl rfl Tryd.func95 (by kernel_rfl) rfl #[.int .i32 a0, .int .i32 63744, .int .i32 64255] rfl zl ?_; (with_reducible refine (backseatref01_in.calls a0 63744 64255 true _ A24.out).mono ?_); rintro e w' ⟨rfl, ⟨nd, rfl⟩⟩; refine ⟨_, rfl, ?_⟩))
           go_ret
           exact ⟨by first | rfl | (simp; done) | (simp [*]; done), by repeat (first | exact Drawn0.refl _ | apply Drawn0.step)⟩
          ·replace c25 := Bool.eq_false_iff.mpr c25
           subst c25
           have H1 : ((backseatref01_in.f a0 65281 65376).bind fun t217 => (if t217 = true then (some 2) else ((backseatref01_in.f a0 127744 129791).bind fun t218 => (if t218 = true then (some 2) else ((backseatref01_in.f a0 131072 262141).bind fun t219 => (if t219 = true then (some 2) else (some 1))))))) = some r := by rw [if_neg (show ¬ (false = true) by decide)] at H; exact H
           clear H
           have H := H1
           clear H1
           replace H := Option.bind_eq_some_iff.mp H
           obtain ⟨t217, A260, H⟩ := H
           replace H : (if t217 = true then (some 2) else ((backseatref01_in.f a0 127744 129791).bind fun t218 => (if t218 = true then (some 2) else ((backseatref01_in.f a0 131072 262141).bind fun t219 => (if t219 = true then (some 2) else (some 1)))))) = some r := H
           have A26 := Aside0.mk A260
           clear A260
           by_cases c27 : t217 = true
           ·subst c27
            have H1 : (some 2) = some r := by rw [if_pos rfl] at H; exact H
            clear H
            have H := H1
            clear H1
            obtain rfl := Option.some.inj H
            go_wp2_with (first | ((with_reducible refine gate_callee (f := 95) rfl ?_); refine goesL_ (some 39) rfl rfl Tryd.func95 (by kernel_rfl) rfl #[.int .i32 a0, .int .i32 63744, .int .i32 64255] rfl zl ?_; (with_reducible refine (backseatref01_in.calls a0 63744 64255 false _ A24.out).mono ?_); rintro e w' ⟨rfl, ⟨nd, rfl⟩⟩; refine ⟨_, rfl, ?_⟩) | (go_at_call 95; (with_reducible refine (backseatref01_in.calls a0 65281 65376 true _ A26.out).mono ?_); rintro e w' ⟨rfl, ⟨nd, rfl⟩⟩))
            go_ret
            exact ⟨by first | rfl | (simp; done) | (simp [*]; done), by repeat (first | exact Drawn0.refl _ | apply Drawn0.step)⟩
           ·replace c27 := Bool.eq_false_iff.mpr c27
            subst c27
            have H1 : ((backseatref01_in.f a0 127744 129791).bind fun t218 => (if t218 = true then (some 2) else ((backseatref01_in.f a0 131072 262141).bind fun t219 => (if t219 = true then (some 2) else (some 1))))) = some r := by rw [if_neg (show ¬ (false = true) by decide)] at H; exact H
            clear H
            have H := H1
            clear H1
            replace H := Option.bind_eq_some_iff.mp H
            obtain ⟨t218, A280, H⟩ := H
            replace H : (if t218 = true then (some 2) else ((backseatref01_in.f a0 131072 262141).bind fun t219 => (if t219 = true then (some 2) else (some 1)))) = some r := H
            have A28 := Aside0.mk A280
            clear A280
            by_cases c29 : t218 = true
            ·subst c29
             have H1 : (some 2) = some r := by rw [if_pos rfl] at H; exact H
             clear H
             have H := H1
             clear H1
             obtain rfl := Option.some.inj H
             go_wp2_with (first | ((with_reducible refine gate_callee (f := 95) rfl ?_); refine goesL_ (some 39) rfl rfl Tryd.func95 (by kernel_rfl) rfl #[.int .i32 a0, .int .i32 63744, .int .i32 64255] rfl zl ?_; (with_reducible refine (backseatref01_in.calls a0 63744 64255 false _ A24.out).mono ?_); rintro e w' ⟨rfl, ⟨nd, rfl⟩⟩; refine ⟨_, rfl, ?_⟩) | (go_at_call 95; (with_reducible refine (backseatref01_in.calls a0 65281 65376 false _ A26.out).mono ?_); rintro e w' ⟨rfl, ⟨nd, rfl⟩⟩) | (go_at_call 95; (with_reducible refine (backseatref01_in.calls a0 127744 129791 true _ A28.out).mono ?_); rintro e w' ⟨rfl, ⟨nd, rfl⟩⟩))
             go_ret
             exact ⟨by first | rfl | (simp; done) | (simp [*]; done), by repeat (first | exact Drawn0.refl _ | apply Drawn0.step)⟩
            ·replace c29 := Bool.eq_false_iff.mpr c29
             subst c29
             have H1 : ((backseatref01_in.f a0 131072 262141).bind fun t219 => (if t219 = true then (some 2) else (some 1))) = some r := by rw [if_neg (show ¬ (false = true) by decide)] at H; exact H
             clear H
             have H := H1
             clear H1
             replace H := Option.bind_eq_some_iff.mp H
             obtain ⟨t219, A300, H⟩ := H
             replace H : (if t219 = true then (some 2) else (some 1)) = some r := H
             have A30 := Aside0.mk A300
             clear A300
             by_cases c31 : t219 = true
             ·subst c31
              have H1 : (some 2) = some r := by rw [if_pos rfl] at H; exact H
              clear H
              have H := H1
              clear H1
              obtain rfl := Option.some.inj H
              go_wp2_with (first | ((with_reducible refine gate_callee (f := 95) rfl ?_); refine goesL_ (some 39) rfl rfl Tryd.func95 (by kernel_rfl) rfl #[.int .i32 a0, .int .i32 63744, .int .i32 64255] rfl zl ?_; (with_reducible refine (backseatref01_in.calls a0 63744 64255 false _ A24.out).mono ?_); rintro e w' ⟨rfl, ⟨nd, rfl⟩⟩; refine ⟨_, rfl, ?_⟩) | (go_at_call 95; (with_reducible refine (backseatref01_in.calls a0 65281 65376 false _ A26.out).mono ?_); rintro e w' ⟨rfl, ⟨nd, rfl⟩⟩) | (go_at_call 95; (with_reducible refine (backseatref01_in.calls a0 127744 129791 false _ A28.out).mono ?_); rintro e w' ⟨rfl, ⟨nd, rfl⟩⟩) | (go_at_call 95; (with_reducible refine (backseatref01_in.calls a0 131072 262141 true _ A30.out).mono ?_); rintro e w' ⟨rfl, ⟨nd, rfl⟩⟩))
              go_ret
              exact ⟨by first | rfl | (simp; done) | (simp [*]; done), by repeat (first | exact Drawn0.refl _ | apply Drawn0.step)⟩
             ·replace c31 := Bool.eq_false_iff.mpr c31
              subst c31
              have H1 : (some 1) = some r := by rw [if_neg (show ¬ (false = true) by decide)] at H; exact H
              clear H
              have H := H1
              clear H1
              obtain rfl := Option.some.inj H
              go_wp2_with (first | ((with_reducible refine gate_callee (f := 95) rfl ?_); refine goesL_ (some 39) rfl rfl Tryd.func95 (by kernel_rfl) rfl #[.int .i32 a0, .int .i32 63744, .int .i32 64255] rfl zl ?_; (with_reducible refine (backseatref01_in.calls a0 63744 64255 false _ A24.out).mono ?_); rintro e w' ⟨rfl, ⟨nd, rfl⟩⟩; refine ⟨_, rfl, ?_⟩) | (go_at_call 95; (with_reducible refine (backseatref01_in.calls a0 65281 65376 false _ A26.out).mono ?_); rintro e w' ⟨rfl, ⟨nd, rfl⟩⟩) | (go_at_call 95; (with_reducible refine (backseatref01_in.calls a0 127744 129791 false _ A28.out).mono ?_); rintro e w' ⟨rfl, ⟨nd, rfl⟩⟩) | (go_at_call 95; (with_reducible refine (backseatref01_in.calls a0 131072 262141 false _ A30.out).mono ?_); rintro e w' ⟨rfl, ⟨nd, rfl⟩⟩))
              go_ret
              exact ⟨by first | rfl | (simp; done) | (simp [*]; done), by repeat (first | exact Drawn0.refl _ | apply Drawn0.step)⟩
mutual
def backseatref01_need.j0 : Nat → Int → Bool → Option (Int)
 | 0, _, _ => none
 | k + 1, x0, x10 => if x10 = true then (some 2) else (if x0 ≥ 224 then (backseatref01_need.j1 k x0 (decide (x0 < 240))) else (backseatref01_need.j1 k x0 false))
def backseatref01_need.j1 : Nat → Int → Bool → Option (Int)
 | 0, _, _ => none
 | k + 1, x0, x16 => if x16 = true then (some 3) else (if x0 ≥ 240 then (if x0 < 245 then (some 4) else (some 0)) else (some 0))
end
def backseatref01_need.f (k : Nat) (a0 : Int) : Option (Int) := if a0 < 128 then (some 1) else (if a0 ≥ 194 then (backseatref01_need.j0 k a0 (decide (a0 < 224))) else (backseatref01_need.j0 k a0 false))
set_option maxHeartbeats 8000000 in
set_option maxRecDepth 100000 in
theorem backseatref01_need.calls (k : Nat) (a0 : Int) (r : Int) (w : World) (h : backseatref01_need.f k a0 = some r) :
  Calls Tryd.prog 91 #[.int .u8 a0] w fun e w' => e = .returned (.int .i64 r) ∧ Drawn0 w w' := by
 have H : (if a0 < 128 then (some 1) else (if a0 ≥ 194 then (backseatref01_need.j0 k a0 (decide (a0 < 224))) else (backseatref01_need.j0 k a0 false))) = some r := h
 clear h
 by_cases c2 : a0 < 128
 ·rw [if_pos c2] at H
  have c2b0 : decide (a0 < 128) = true := decide_eq_true c2
  clear c2
  obtain rfl := Option.some.inj H
  go_enter Tryd.func91, Tryd.ntmps91
  go_wp2
  go_ret
  exact ⟨by first | rfl | (simp; done) | (simp [*]; done), by repeat (first | exact Drawn0.refl _ | apply Drawn0.step)⟩
 ·rw [if_neg c2] at H
  have c2b0 : decide (a0 < 128) = false := decide_eq_false c2
  clear c2
  have HC3 := Aside0.mk H
  clear H
  go_enter Tryd.func91, Tryd.ntmps91
  go_upto_region 3 with (fail)
  go_cut [10] (fun v10 wc => ∃ (kq : Nat) (x10_2 : Bool), v10 = .bool x10_2 ∧ Aside0 (backseatref01_need.j0 kq a0 x10_2 = some r) ∧ Aside0 (kq ≤ k) ∧ Drawn0 w wc)
  case first =>
   have H := HC3.out
   clear HC3
   by_cases c4 : a0 ≥ 194
   ·rw [if_pos c4] at H
    have c4b0 : decide (194 ≤ a0) = true := decide_eq_true c4
    clear c4
    (first | rw [c4b0] | (simp only [i64_w, i32_w]; rw [c4b0]) | skip)
    have H' := Aside0.mk H
    clear H
    go_wp2
    go_meet
    case rel => exact ⟨_, (decide (a0 < 224)), zf, H', ⟨by first | omega | exact Nat.le_refl _⟩, by repeat (first | exact Drawn0.refl _ | apply Drawn0.step)⟩
   ·rw [if_neg c4] at H
    have c4b0 : decide (194 ≤ a0) = false := decide_eq_false c4
    clear c4
    (first | rw [c4b0] | (simp only [i64_w, i32_w]; rw [c4b0]) | skip)
    have H' := Aside0.mk H
    clear H
    go_wp2
    go_meet
    case rel => exact ⟨_, (false), zf, H', ⟨by first | omega | exact Nat.le_refl _⟩, by repeat (first | exact Drawn0.refl _ | apply Drawn0.step)⟩
  case rest =>
   clear HC3
   try clear c2
   try clear c2b0
   obtain ⟨kq, x10_2, rfl, HA, HJ2, ⟨mc2, rfl⟩⟩ := hcut
   cases kq with
   | zero => exact absurd HA.out (by simp [backseatref01_need.j0])
   | succ kj2 =>
    have H := HA.out
    clear HA
    simp only [backseatref01_need.j0] at H
    by_cases c5 : x10_2 = true
    ·subst c5
     have H1 : (some 2) = some r := by rw [if_pos rfl] at H; exact H
     clear H
     have H := H1
     clear H1
     obtain rfl := Option.some.inj H
     go_wp2
     go_ret
     exact ⟨by first | rfl | (simp; done) | (simp [*]; done), by repeat (first | exact Drawn0.refl _ | apply Drawn0.step)⟩
    ·replace c5 := Bool.eq_false_iff.mpr c5
     subst c5
     have H1 : (if a0 ≥ 224 then (backseatref01_need.j1 kj2 a0 (decide (a0 < 240))) else (backseatref01_need.j1 kj2 a0 false)) = some r := by rw [if_neg (show ¬ (false = true) by decide)] at H; exact H
     clear H
     have H := H1
     clear H1
     have HC6 := Aside0.mk H
     clear H
     go_upto_region 5 with (fail)
     go_cut [16] (fun v16 wc => ∃ (kq : Nat) (x16_5 : Bool), v16 = .bool x16_5 ∧ Aside0 (backseatref01_need.j1 kq a0 x16_5 = some r) ∧ Aside0 (kq ≤ kj2) ∧ Drawn0 w wc)
     case first =>
      have H := HC6.out
      clear HC6
      by_cases c7 : a0 ≥ 224
      ·rw [if_pos c7] at H
       have c7b0 : decide (224 ≤ a0) = true := decide_eq_true c7
       clear c7
       (first | rw [c7b0] | (simp only [i64_w, i32_w]; rw [c7b0]) | skip)
       have H' := Aside0.mk H
       clear H
       go_wp2
       go_meet
       case rel => exact ⟨_, (decide (a0 < 240)), zf, H', ⟨by have := HJ2.out; first | omega | exact Nat.le_refl _⟩, by repeat (first | exact Drawn0.refl _ | apply Drawn0.step)⟩
      ·rw [if_neg c7] at H
       have c7b0 : decide (224 ≤ a0) = false := decide_eq_false c7
       clear c7
       (first | rw [c7b0] | (simp only [i64_w, i32_w]; rw [c7b0]) | skip)
       have H' := Aside0.mk H
       clear H
       go_wp2
       go_meet
       case rel => exact ⟨_, (false), zf, H', ⟨by have := HJ2.out; first | omega | exact Nat.le_refl _⟩, by repeat (first | exact Drawn0.refl _ | apply Drawn0.step)⟩
     case rest =>
      clear HC6
      try clear c2
      try clear c2b0
      try clear c5
      obtain ⟨kq, x16_5, rfl, HA, HJ5, ⟨mc5, rfl⟩⟩ := hcut
      cases kq with
      | zero => exact absurd HA.out (by simp [backseatref01_need.j1])
      | succ kj5 =>
       have H := HA.out
       clear HA
       simp only [backseatref01_need.j1] at H
       by_cases c8 : x16_5 = true
       ·subst c8
        have H1 : (some 3) = some r := by rw [if_pos rfl] at H; exact H
        clear H
        have H := H1
        clear H1
        obtain rfl := Option.some.inj H
        go_wp2
        go_ret
        exact ⟨by first | rfl | (simp; done) | (simp [*]; done), by repeat (first | exact Drawn0.refl _ | apply Drawn0.step)⟩
       ·replace c8 := Bool.eq_false_iff.mpr c8
        subst c8
        have H1 : (if a0 ≥ 240 then (if a0 < 245 then (some 4) else (some 0)) else (some 0)) = some r := by rw [if_neg (show ¬ (false = true) by decide)] at H; exact H
        clear H
        have H := H1
        clear H1
        by_cases c9 : a0 ≥ 240
        ·rw [if_pos c9] at H
         have c9b0 : decide (240 ≤ a0) = true := decide_eq_true c9
         clear c9
         by_cases c10 : a0 < 245
         ·rw [if_pos c10] at H
          have c10b0 : decide (a0 < 245) = true := decide_eq_true c10
          clear c10
          obtain rfl := Option.some.inj H
          go_wp2
          go_ret
          exact ⟨by first | rfl | (simp; done) | (simp [*]; done), by repeat (first | exact Drawn0.refl _ | apply Drawn0.step)⟩
         ·rw [if_neg c10] at H
          have c10b0 : decide (a0 < 245) = false := decide_eq_false c10
          clear c10
          obtain rfl := Option.some.inj H
          go_wp2
          go_ret
          exact ⟨by first | rfl | (simp; done) | (simp [*]; done), by repeat (first | exact Drawn0.refl _ | apply Drawn0.step)⟩
        ·rw [if_neg c9] at H
         have c9b0 : decide (240 ≤ a0) = false := decide_eq_false c9
         clear c9
         obtain rfl := Option.some.inj H
         go_wp2
         go_ret
         exact ⟨by first | rfl | (simp; done) | (simp [*]; done), by repeat (first | exact Drawn0.refl _ | apply Drawn0.step)⟩
end Go.Proofs.YtckkdaehmccjlaaDoor.P
namespace Go.Proofs.YtckkdaehmccjlaaDoor.P
open Go.RowKit Go.Proofs.YtckkdaehmccjlaaDoorW.PrintWords Go.Proofs.YtckkdaehmccjlaaDoorW.PrintLast Go.Proofs.YtckkdaehmccjlaaDoorW.PrintMore
set_option linter.unusedVariables false
set_option linter.unusedSimpArgs false
def RowB (W : World) (base : Nat) (v : Value) (xs : List Int) : Prop :=
 ∃ g cap, v = .slice (some ⟨g, 0, none⟩) xs.length cap ∧ base ≤ g ∧ g < W.heap.size ∧ xs.length ≤ cap ∧ cap ≤ 9223372036854775807 ∧
  (∀ j u, (nums .u8 xs)[j]? = some u → W.cell? ⟨g, j, none⟩ = some u) ∧ (∀ j, xs.length ≤ j → j < cap → (W.cell? ⟨g, j, none⟩).isSome = true ∧ W.frozen? ⟨g, j, none⟩ = false)
theorem RowB.kept {W W' : World} {base : Nat} {v : Value} {xs : List Int} {row : Option Nat} (h : RowB W base v xs) (hg : W.grownBy W' row) (hne : v.ownBlock ≠ row) : RowB W' base v xs := by
 obtain ⟨g, cap, rfl, hb, hlt, hl, hm, hc, hs⟩ := h
 have e : W'.heap[g]? = W.heap[g]? := hg.block g hlt hne
 refine ⟨g, cap, rfl, hb, Nat.lt_of_lt_of_le hlt hg.size, hl, hm, fun j u hj => ?_, fun j h1 h2 => ?_⟩
 ·have := hc j u hj; unfold World.cell? at this ⊢; rw [e]; exact this
 ·have := hs j h1 h2; unfold World.cell? World.frozen? at this ⊢; rw [e]; exact this
theorem RowB.below {W W' : World} {base : Nat} {v : Value} {xs : List Int} (h : RowB W base v xs) (hb : Below W.heap.size W W') : RowB W' base v xs :=
 h.kept (grown_of_below hb none) (by obtain ⟨g, cap, rfl, _⟩ := h; simp [Value.ownBlock])
theorem RowB.lt {W : World} {base : Nat} {v : Value} {xs : List Int} (h : RowB W base v xs) : ∀ k, v.ownBlock = some k → base ≤ k ∧ k < W.heap.size := by
 obtain ⟨g, cap, rfl, hb, hlt, _⟩ := h
 intro k hk
 have : g = k := by simpa [Value.ownBlock] using hk
 subst this
 exact ⟨hb, hlt⟩
theorem RowB.form {W : World} {base : Nat} {v : Value} {xs : List Int} (h : RowB W base v xs) : ∃ g cap, v = .slice (some ⟨g, 0, none⟩) xs.length cap := by
 obtain ⟨g, cap, e, _⟩ := h
 exact ⟨g, cap, e⟩
theorem RowB.made (W : World) (e : TypeId) (s : ByteArray) (base : Nat) (hb : base ≤ W.heap.size) (hs : s.size ≤ 9223372036854775807) : RowB (Lib.bytesWorld W e s) base (.slice (some ⟨W.heap.size, 0, none⟩) s.size (grownCap W s.size 0 e)) (bytesOf s) := by
 have hn := Lib.bytesWorld_at_new W e s
 have hcs : (Lib.bytesCells W e s).size = grownCap W s.size 0 e := by
  have := grownCap_ge W s.size 0 e
  simp [Lib.bytesCells]
  have e1 : s.data.size = s.size := rfl
  omega
 have hlt : W.heap.size < (Lib.bytesWorld W e s).heap.size := by rw [Lib.bytesWorld_size]; omega
 refine ⟨W.heap.size, _, by rw [bytesOf_length], hb, hlt, by rw [bytesOf_length]; exact grownCap_ge _ _ _ _, grownCap_le_maxLen _ _ _ _ hs, fun j u hj => ?_, fun j h1 h2 => ?_⟩
 ·have hl : j < (bytesOf s).length := by
   have := (List.getElem?_eq_some_iff.1 hj).1
   simpa [nums] using this
  have hr := bytes_reads W e s hs
  obtain ⟨ad, ha, hc⟩ := hr.at_ j (by omega) (by rw [bytesOf_length] at hl; omega)
  cases ha
  rw [add_plain, Int.toNat_natCast] at hc
  rw [hc]
  simp only [nums, List.getElem?_map, Option.map_eq_some_iff] at hj
  obtain ⟨x, hx, rfl⟩ := hj
  unfold rd
  rw [List.getD_eq_getElem?_getD, Int.toNat_natCast, hx]; rfl
 ·constructor
  ·simp only [World.cell?, hn]
   rw [Array.getElem?_eq_getElem (by rw [hcs]; exact h2)]; rfl
  ·simp only [World.frozen?, hn]
   simp; omega
section
variable {P : Program} {ops : Array Oper} {rest : List Oper} {o : Oper} {a : Act} {Q : Exit → Act → World → Prop}
theorem RowB.append {w : World} (hgd : o.guard = none) (s x : Operand) (t e : TypeId)
  (ho : o.op = .call { callee := .builtin .append, args := #[s, x], argTypes := #[t, t] })
  (ht : P.underlying t = some (.slice e)) (hinfo : (P.info? e).map (fun i => (i.zero, i.size, i.bytes)) = some (some (.int .u8 0), 1, 1))
  (base : Nat) (v : Value) (xs : List Int) (hs : a.eval s = v) (hown : RowB w base v xs) (c : Int) (g2 : Nat) (hne : v.ownBlock ≠ some g2) (hx : a.eval x = .slice (some ⟨g2, 0, none⟩) 1 1) (hc : w.cell? ⟨g2, 0, none⟩ = some (.int .u8 c))
  (hl : xs.length < 1000) (hbase : base ≤ w.heap.size)
  (h : ∀ v' w', RowB w' base v' (xs ++ [c]) → w.grownBy w' v.ownBlock → (v'.ownBlock = v.ownBlock ∨ ∃ b, v'.ownBlock = some b ∧ w.heap.size ≤ b) → wpList P ops Q rest (a.put o.dst v') w') : wpList P ops Q (o :: rest) a w := by
 obtain ⟨i0, hi, hz0, hz1, hz2⟩ := info_parts hinfo
 obtain ⟨g, cap, rfl, hb, hlt, hlc, hm, hcells, hroom⟩ := hown
 refine wpList_append_arg w hgd s x t ho e i0 (.int .u8 0) 1 1 ht hi hz0 hz1 hz2 rfl (by decide) g 0 xs.length cap (nums .u8 xs) hs (by simp [nums]) (fun j u hj => by rw [Nat.zero_add]; exact hcells j u hj)
  ⟨g2, 0, none⟩ 1 1 [.int .u8 c] hx rfl (fun j u hj => ?_) (fun u hu => ?_) (fun hr j hj => ?_) (by unfold maxLen; omega) (by omega) (fun hr => ?_) (fun hr v' w' hown' hgrow => ?_)
 ·match j, hj with
  | 0, hj => simp at hj; subst hj; rw [add_plain]; exact hc
 ·simp at hu; subst hu; rfl
 ·simp at hj; subst hj
  simp only [Nat.zero_add, Nat.mul_one, Nat.add_zero]
  exact hroom xs.length (Nat.le_refl _) (by omega)
 ·simp only [Nat.zero_add, Nat.mul_one]
  have hsc : w.setCells g xs.length [.int .u8 c] = w.setCell ⟨g, xs.length, none⟩ (.int .u8 c) := rfl
  rw [hsc]
  obtain ⟨hi1, hf1⟩ := hroom xs.length (Nat.le_refl _) (by omega)
  refine h _ _ ⟨g, cap, by rw [List.length_append]; rfl, hb, by show g < (w.heap.modify _ _).size; rw [Array.size_modify]; exact hlt, by simp; omega, hm, fun j u hj => ?_, fun j h1 h2 => ?_⟩ ⟨rfl, rfl, rfl, by show w.heap.size ≤ (w.heap.modify _ _).size; rw [Array.size_modify]; exact Nat.le_refl _, fun k _ hk => Below.heap_setCell _ _ _ _ (fun e => hk (by simp [Value.ownBlock, e]))⟩ (.inl rfl)
  ·rw [nums_append] at hj
   by_cases hjx : j < xs.length
   ·rw [List.getElem?_append_left (by simpa [nums] using hjx)] at hj
    rw [World.cell?_setCell_other _ _ _ _ (by intro e; injection e with _ e2 _; omega)]
    exact hcells j u hj
   ·have hj0 : j = xs.length := by
     have := (List.getElem?_eq_some_iff.1 hj).1
     simp [nums] at this; omega
    subst hj0
    rw [List.getElem?_append_right (by simp [nums])] at hj
    simp [nums] at hj
    subst hj
    exact World.cell?_setCell_same' _ _ _ hi1
  ·simp at h1
   rw [World.cell?_setCell_other _ _ _ _ (by intro e; injection e with _ e2 _; omega), World.frozen?_setCell]
   exact hroom j (by omega) h2
 ·rcases hown'.2 with ⟨_, h0⟩ | ⟨g', cap', cur, rfl, hb', hg', hn', hc', hsz', htk⟩
  ·omega
  ·refine h _ _ ⟨g', cap', by rw [List.length_append]; rfl, by omega, blk_lt hg', by simp; omega, hc', fun j u hj => ?_, fun j h1 h2 => ?_⟩ ⟨hgrow.os, hgrow.tape, hgrow.output, hgrow.size, fun k hk _ => hgrow.block k hk (by simp)⟩ (.inr ⟨g', rfl, hb'⟩)
   ·rw [nums_append] at hj
    have := hown'.cells (g := g') rfl j u (by simpa [nums] using hj)
    rwa [add_plain] at this
   ·simp at h1
    constructor
    ·simp only [World.cell?, hg']
     rw [Array.getElem?_eq_getElem (by omega)]; rfl
    ·simp [World.frozen?, hg']
end
theorem RowB.string {P : Program} {w : World} {base : Nat} {src dst e : TypeId} {v : Value} {xs : List Int} (hs : P.underlying src = some (.slice e)) (he : P.underlying e = some (.int .u8)) (hd : P.underlying dst = some .string)
  (h : RowB w base v xs) : (convert src dst v).run P w = .ok (.string (strOfNums xs)) w := by
 obtain ⟨g, cap, rfl, hb, hlt, hlc, hm, hcells, hroom⟩ := h
 refine run_convert_bytes_arg w src e hs he g 0 xs.length cap xs rfl (fun i hi => ?_) dst hd
 rw [Nat.zero_add]
 exact hcells i _ (by simp [nums, List.getElem?_eq_getElem hi, List.getD_eq_getElem?_getD])
def valGo : List Int → Int → Int
  | [], r => r
  | c :: t, r => if c < 128 ∨ c > 191 then -1 else valGo t (64 * r + c - 128)
def headOf (n : Nat) : Int := if n = 2 then 192 else if n = 3 then 224 else if n = 4 then 240 else 0
def valueZ : List Int → Int
  | [] => 0
  | [c] => c
  | c :: t => valGo t (c - headOf (t.length + 1))
def backseatref01_value.f (a0 : ByteArray) : Option Int := if 1 ≤ a0.size ∧ a0.size ≤ 4 then some (valueZ (bytesOf a0)) else none
theorem bytesOf_drop (s : ByteArray) (k : Nat) (h : k < s.size) : (bytesOf s).drop k = bt s k :: (bytesOf s).drop (k + 1) := by
  rw [List.drop_eq_getElem_cons (by rw [bytesOf_length]; exact h)]
  congr 1
  have := rd_bytesOf s k
  rw [← this]; unfold rd
  rw [List.getD_eq_getElem?_getD, Int.toNat_natCast, List.getElem?_eq_getElem (by rw [bytesOf_length]; exact h)]
  rfl
theorem valueZ_cons (c : Int) (t : List Int) (h : 0 < t.length) : valueZ (c :: t) = valGo t (c - headOf (t.length + 1)) := by
  cases t with
  | nil => simp at h
  | cons d t => rfl
theorem bytesOf_cons (s : ByteArray) (h : 0 < s.size) : bytesOf s = bt s 0 :: (bytesOf s).drop 1 := by
  have := bytesOf_drop s 0 h
  rwa [List.drop_zero] at this
theorem valueZ_one (s : ByteArray) (h : s.size = 1) : valueZ (bytesOf s) = bt s 0 := by
  rw [bytesOf_cons s (by omega), List.drop_eq_nil_of_le (by rw [bytesOf_length]; omega)]; rfl
theorem valueZ_more (s : ByteArray) (h : 1 < s.size) : valueZ (bytesOf s) = valGo ((bytesOf s).drop 1) (bt s 0 - headOf s.size) := by
  conv => lhs; rw [bytesOf_cons s (by omega)]
  rw [valueZ_cons _ _ (by rw [List.length_drop, bytesOf_length]; omega), List.length_drop, bytesOf_length, show s.size - 1 + 1 = s.size by omega]
set_option maxHeartbeats 4000000 in
set_option maxRecDepth 100000 in
theorem value_any (s : ByteArray) (w : World) (h1 : 1 ≤ s.size) (h4 : s.size ≤ 4) :
    Calls Tryd.prog 93 #[.string s] w fun e w' => e = .returned (.int .i32 (valueZ (bytesOf s))) ∧ Below w.heap.size w w' := by
  have hm : s.size ≤ 9223372036854775807 := by omega
  go_enter Tryd.func93, Tryd.ntmps93
  go_wp2
  go_loopg [3, 4] 4 (fun kq r i wr => ∃ (k : Nat) (x : Int), k ≤ s.size ∧ i = .int .i64 k ∧ r = .int .i32 x ∧ Aside0 (kq + k = 4) ∧ Aside0 ((k = 0 ∧ x = 0) ∨ (1 ≤ k ∧ 1 < s.size ∧ valueZ (bytesOf s) = valGo ((bytesOf s).drop k) x ∧ 100 - 400 * 64 ^ (k - 1) ≤ x ∧ x ≤ 400 * 64 ^ (k - 1) - 100)) ∧ Aside0 (Below w.heap.size w wr))
  case atStart => exact ⟨0, 0, Nat.zero_le _, rfl, rfl, ⟨rfl⟩, ⟨.inl ⟨rfl, rfl⟩⟩, ⟨Below.refl _ _⟩⟩
  case round =>
    obtain ⟨k, x, hk, rfl, rfl, HG, HV, HB⟩ := hrel
    by_cases hlt : k < s.size
    · obtain ⟨c, hc⟩ : ∃ c : UInt8, s[k] = c := ⟨_, rfl⟩
      have hcl := c.toNat_lt
      have hbt : bt s k = c.toNat := by rw [← hc]; exact (bt_at s k (by simpa using hlt)).symm
      have HD := Aside0.mk (bytesOf_drop s k hlt)
      have HBT := Aside0.mk hbt
      clear hbt
      by_cases h0 : k = 0
      · subst h0
        obtain rfl : x = 0 := by rcases HV.out with h | h; exact h.2; omega
        have hs : s.size = 1 ∨ s.size = 2 ∨ s.size = 3 ∨ s.size = 4 := by omega
        clear HV h1 h4 hm
        rcases hs with hs | hs | hs | hs
        · have HQ := Aside0.mk (valueZ_one s hs)
          go_wp2
          go_ret
          exact ⟨by rw [HQ.out, show bt s 0 = c.toNat from HBT.out]; rfl, HB.out.alloc HB.out.size _⟩
        all_goals
          have HQ := Aside0.mk (valueZ_more s (by omega))
          go_wp2
          go_roundg (gk - 1)
          case measure => have := HG.out; omega
          case rel =>
            refine ⟨1, _, by omega, by go_num, rfl, ⟨by have := HG.out; omega⟩, ⟨.inr ⟨by omega, by omega, ?_, by omega, by omega⟩⟩, ⟨HB.out.alloc HB.out.size _⟩⟩
            rw [HQ.out, show bt s 0 = c.toNat from HBT.out, hs]; rfl
      · obtain ⟨hk1, hs1, hval, hb1, hb2⟩ : 1 ≤ k ∧ 1 < s.size ∧ valueZ (bytesOf s) = valGo ((bytesOf s).drop k) x ∧ 100 - 400 * 64 ^ (k - 1) ≤ x ∧ x ≤ 400 * 64 ^ (k - 1) - 100 := by rcases HV.out with h | h; exact absurd h.1 h0; exact h
        have HVal : Aside0 (valueZ (bytesOf s) = if (c.toNat : Int) < 128 ∨ (c.toNat : Int) > 191 then -1 else valGo ((bytesOf s).drop (k + 1)) (64 * x + c.toNat - 128)) := ⟨by
          rw [hval, HD.out, HBT.out]; rfl⟩
        have hk : k = 1 ∨ k = 2 ∨ k = 3 := by omega
        have hb : ∃ M : Int, M = 400 * 64 ^ (k - 1) ∧ M ≤ 1638400 := by rcases hk with rfl | rfl | rfl <;> exact ⟨_, rfl, by decide⟩
        have HP : Aside0 (100 - 400 * 64 ^ (k + 1 - 1) ≤ 64 * x + (c.toNat : Int) - 128 ∧ 64 * x + (c.toNat : Int) - 128 ≤ 400 * 64 ^ (k + 1 - 1) - 100 ∨ (c.toNat : Int) < 128 ∨ (c.toNat : Int) > 191) := ⟨by
          by_cases hc : (c.toNat : Int) < 128 ∨ (c.toNat : Int) > 191
          · exact .inr hc
          · left; rcases hk with rfl | rfl | rfl <;> simp at hb1 hb2 ⊢ <;> omega⟩
        obtain ⟨M, hM, hM2⟩ := hb
        rw [← hM] at hb1 hb2
        have hx1 : -1638400 ≤ x := by omega
        have hx2 : x ≤ 1638400 := by omega
        have h01 : ((k : Int) == 0) = false := by simpa using h0
        have HK := Aside0.mk hk
        clear HV h1 hM hM2 hb1 hb2 hval hk
        go_wp2
        all_goals
          first
          | (have hy : (c.toNat : Int) < 128 := by assumption
             go_ret
             exact ⟨by rw [HVal.out, if_pos (.inl hy)]; rfl, HB.out⟩)
          | (have hy : (191 : Int) < (c.toNat : Int) := by omega
             go_ret
             exact ⟨by rw [HVal.out, if_pos (.inr hy)]; rfl, HB.out⟩)
          | (have hy : ¬ ((c.toNat : Int) < 128 ∨ (c.toNat : Int) > 191) := by omega
             go_roundg (gk - 1)
             case measure => have := HG.out; omega
             case rel =>
               refine ⟨k + 1, _, by omega, by go_num, rfl, ⟨by have := HG.out; omega⟩, ⟨.inr ⟨by omega, by omega, ?_, ?_, ?_⟩⟩, HB⟩
               · rw [HVal.out, if_neg hy]
               · rcases HP.out with h | h
                 · exact h.1
                 · exact absurd h hy
               · rcases HP.out with h | h
                 · exact h.2
                 · exact absurd h hy)
    · have HQ : Aside0 (valueZ (bytesOf s) = x) := ⟨by
        rcases HV.out with h | h
        · omega
        · rw [h.2.2.1, List.drop_eq_nil_of_le (by rw [bytesOf_length]; omega)]; rfl⟩
      clear HV
      go_wp2
      go_ret
      exact ⟨by rw [HQ.out]; rfl, HB.out⟩
theorem backseatref01_value.calls (a0 : ByteArray) (r : Int) (w : World) (h : backseatref01_value.f a0 = some r) :
    Calls Tryd.prog 93 #[.string a0] w fun e w' => e = .returned (.int .i32 r) ∧ Below w.heap.size w w' := by
  unfold backseatref01_value.f at h
  split at h
  · rename_i hs
    have e := Option.some.inj h
    subst e
    exact value_any a0 w hs.1 hs.2
  · cases h
def contOK (l : List Int) : Bool := l.all fun c => decide (128 ≤ c) && decide (c ≤ 191)
def floorOf (n : Nat) : Int := if n = 2 then 128 else if n = 3 then 2048 else if n = 4 then 65536 else 0
def begZ (lo hi fl : Int) : Bool := !(decide (hi < fl) || decide (lo > 1114111)) && (decide (lo < 55296) || decide (hi > 57343))
def begB (l : List Int) (n : Nat) : Bool :=
  contOK (l.drop 1) && begZ (valueZ (l ++ List.replicate (n - l.length) 128)) (valueZ (l ++ List.replicate (n - l.length) 191)) (floorOf n)
def backseatref01_begins.f (a0 : ByteArray) (a1 : Int) : Option Bool :=
  if 1 ≤ a0.size ∧ (a0.size : Int) ≤ a1 ∧ a1 ≤ 4 then some (begB (bytesOf a0) a1.toNat) else none
theorem contOK_snoc (l : List Int) (k : Nat) (h : k < l.length) : contOK (l.take (k + 1)) = (contOK (l.take k) && (decide (128 ≤ l[k]) && decide (l[k] ≤ 191))) := by
  unfold contOK
  rw [List.take_succ_eq_append_getElem h, List.all_append]
  simp
theorem bytesOf_get (s : ByteArray) (k : Nat) (h : k < s.size) : (bytesOf s)[k]'(by rw [bytesOf_length]; exact h) = bt s k := by
  have := rd_bytesOf s k
  rw [← this]; unfold rd
  rw [List.getD_eq_getElem?_getD, Int.toNat_natCast, List.getElem?_eq_getElem (by rw [bytesOf_length]; exact h)]
  rfl
theorem bytesOf_str (xs : List Int) (h : ∀ x ∈ xs, 0 ≤ x ∧ x ≤ 255) : bytesOf (strOfNums xs) = xs := by
  unfold bytesOf
  rw [strOfNums_data, List.map_map]
  conv => rhs; rw [← List.map_id xs]
  apply List.map_congr_left
  intro x hx
  have := h x hx
  simp only [Function.comp, id]
  rw [UInt8.toNat_ofNat']
  omega
theorem bytesOf_range (s : ByteArray) : ∀ x ∈ bytesOf s, 0 ≤ x ∧ x ≤ 255 := by
  intro x hx
  unfold bytesOf at hx
  obtain ⟨b, _, rfl⟩ := List.mem_map.1 hx
  have := b.toNat_lt
  omega
theorem pad_range (s : ByteArray) (j : Nat) (c : Int) (h0 : 0 ≤ c) (h1 : c ≤ 255) : ∀ x ∈ bytesOf s ++ List.replicate j c, 0 ≤ x ∧ x ≤ 255 := by
  intro x hx
  rcases List.mem_append.1 hx with h | h
  · exact bytesOf_range s x h
  · obtain rfl := (List.mem_replicate.1 h).2
    exact ⟨h0, h1⟩
set_option maxHeartbeats 4000000 in
set_option maxRecDepth 100000 in
theorem begins_any (s : ByteArray) (n : Nat) (w : World) (h1 : 1 ≤ s.size) (hn : s.size ≤ n) (h4 : n ≤ 4) :
    Calls Tryd.prog 92 #[.string s, .int .i64 n] w fun e w' => e = .returned (.bool (begB (bytesOf s) n)) ∧ Below w.heap.size w w' := by
  have hm : s.size ≤ 9223372036854775807 := by omega
  have hgt : ¬ ((s.size : Int) > n) := by omega
  go_enter Tryd.func92, Tryd.ntmps92
  go_wp2
  clear hgt
  go_loop [5] (fun i => ∃ k : Nat, k + 1 ≤ s.size ∧ i = .int .i64 ((k : Int) + 1) ∧ Aside0 (contOK (((bytesOf s).drop 1).take k) = true)) (fun i => s.size - (intOf i).toNat)
  case atStart => exact ⟨0, by omega, rfl, ⟨rfl⟩⟩
  case round =>
    obtain ⟨k, hk, rfl, HC⟩ := hrel
    by_cases hlt : k + 1 < s.size
    · obtain ⟨c, hc⟩ : ∃ c : UInt8, s[k + 1] = c := ⟨_, rfl⟩
      have hcl := c.toNat_lt
      have HS : Aside0 (contOK (((bytesOf s).drop 1).take (k + 1)) = (decide (128 ≤ (c.toNat : Int)) && decide ((c.toNat : Int) ≤ 191))) := ⟨by
        rw [contOK_snoc _ _ (by rw [List.length_drop, bytesOf_length]; omega), HC.out, Bool.true_and, List.getElem_drop]
        have hb : (bytesOf s)[1 + k]'(by rw [bytesOf_length]; omega) = c.toNat := by
          rw [bytesOf_get s (1 + k) (by omega), ← hc]
          have := bt_at s ((1 + k : Nat) : Int) (by simp; omega)
          rw [← this]
          simp [Nat.add_comm]
        rw [hb]⟩
      have HT : Aside0 (contOK (((bytesOf s).drop 1).take (k + 1)) = false → begB (bytesOf s) n = false) := ⟨fun h => by
        unfold begB
        have : contOK ((bytesOf s).drop 1) = false := by
          unfold contOK at h ⊢
          rw [← List.take_append_drop (k + 1) ((bytesOf s).drop 1), List.all_append, h]; rfl
        rw [this]; rfl⟩
      go_wp2
      all_goals
        first
        | (have hy : 128 ≤ (c.toNat : Int) ∧ (c.toNat : Int) ≤ 191 := by assumption
           go_round
           case rel => exact ⟨k + 1, by omega, by go_num, ⟨by rw [HS.out, decide_eq_true hy.1, decide_eq_true hy.2]; rfl⟩⟩
           case measure => simp [intOf]; omega)
        | (have hy : (c.toNat : Int) < 128 ∨ (191 : Int) < (c.toNat : Int) := by first | assumption | (left; assumption)
           go_ret
           exact ⟨by rw [HT.out (by rw [HS.out]; rcases hy with hy | hy <;> simp <;> omega)]; rfl, Below.refl _ _⟩)
    · have HC2 : Aside0 (contOK ((bytesOf s).drop 1) = true) := ⟨by
        have := HC.out
        rwa [List.take_of_length_le (by rw [List.length_drop, bytesOf_length]; omega)] at this⟩
      clear HC
      have kb := fun W => print_bytes (P := Tryd.prog) 9 75 5 Tryd.underlying9 Tryd.underlying75 Tryd.underlying5 s W
      go_upto_region 10 with (fail)
      go_loopg [6, 7] (n - s.size) (fun kq v6 v7 wr => ∃ j : Nat, s.size + j ≤ n ∧ Aside0 (kq + (s.size + j) = n) ∧ Aside0 (RowB wr w.heap.size v6 (bytesOf s ++ List.replicate j 128)) ∧ Aside0 (RowB wr w.heap.size v7 (bytesOf s ++ List.replicate j 191)) ∧ Aside0 (v6.ownBlock ≠ v7.ownBlock) ∧ Aside0 (Below w.heap.size w wr))
      case atStart =>
        refine ⟨0, by omega, ⟨by omega⟩, ⟨?_⟩, ⟨?_⟩, ⟨?_⟩, ⟨?_⟩⟩
        · rw [List.replicate_zero, List.append_nil]
          exact (RowB.made w _ s _ (Nat.le_refl _) hm).below (bytes_below (Below.refl _ _) (Nat.le_refl _) _ _)
        · rw [List.replicate_zero, List.append_nil]
          exact RowB.made _ _ s _ (by rw [Lib.bytesWorld_size]; omega) hm
        · simp [Value.ownBlock, Lib.bytesWorld_size]
        · exact bytes_below (bytes_below (Below.refl _ _) (Nat.le_refl _) _ _) (by rw [Lib.bytesWorld_size]; omega) _ _
      case round =>
        obtain ⟨j, hj, HG, H6, H7, HN, HB⟩ := hrel
        obtain ⟨g6, c6, rfl⟩ := H6.out.form
        obtain ⟨g7, c7, rfl⟩ := H7.out.form
        have hl6 : (bytesOf s ++ List.replicate j (128 : Int)).length = s.size + j := by rw [List.length_append, bytesOf_length, List.length_replicate]
        have hl7 : (bytesOf s ++ List.replicate j (191 : Int)).length = s.size + j := by rw [List.length_append, bytesOf_length, List.length_replicate]
        rw [hl6] at H6
        rw [hl7] at H7
        rw [hl6, hl7]
        have HL6 := Aside0.mk hl6
        have HL7 := Aside0.mk hl7
        have HNV : g6 ≠ g7 := by have := HN.out; simpa [Value.ownBlock] using this
        have hg6l : g6 < wr.heap.size := (H6.out.lt g6 rfl).2
        have hg7l : g7 < wr.heap.size := (H7.out.lt g7 rfl).2
        clear kb hl6 hl7
        by_cases hlt : s.size + j < n
        · have Q1 : Aside0 ((Value.slice (some ⟨g6, 0, none⟩) (s.size + j) c6).ownBlock ≠ some wr.heap.size) := ⟨fun h => by injection h with h; exact absurd h (Nat.ne_of_lt hg6l)⟩
          have Q2 : Aside0 ((bytesOf s ++ List.replicate j (128 : Int)).length < 1000) := ⟨by rw [HL6.out]; omega⟩
          have Q3 : Aside0 ((bytesOf s ++ List.replicate j (191 : Int)).length < 1000) := ⟨by rw [HL7.out]; omega⟩
          have Q4 : Aside0 (∀ o, w.heap.size ≤ (wr.alloc o).heap.size) := ⟨fun o => by rw [World.size_alloc]; have := HB.out.size; omega⟩
          go_wp2_with (first | (at_builtin; refine RowB.append rfl (.tmp 39) (.tmp 40) 75 5 rfl Tryd.underlying75 (by kernel_rfl) w.heap.size _ (bytesOf s ++ List.replicate j 128) rfl (H6.out.below (below_alloc (Below.refl _ _) _)) 128 wr.heap.size Q1.out rfl (by rw [World.cell?_alloc_new]; rfl) Q2.out (Q4.out _) ?_; intro v6 w6 hr6 hg6 hat6; have HR6 := Aside0.mk hr6; have HG6 := Aside0.mk hg6; have HA6 := Aside0.mk hat6; clear hr6 hg6 hat6; have H7b : Aside0 (RowB w6 w.heap.size (.slice (some ⟨g7, 0, none⟩) (s.size + j) c7) (bytesOf s ++ List.replicate j 191)) := ⟨(H7.out.below (below_alloc (Below.refl _ _) _)).kept HG6.out (fun h => by injection h with h; exact HNV h.symm)⟩; have Q5 : Aside0 (wr.heap.size + 1 ≤ w6.heap.size) := ⟨by have := HG6.out.size; rwa [World.size_alloc] at this⟩; have Q6 : Aside0 (∀ o, w.heap.size ≤ (w6.alloc o).heap.size) := ⟨fun o => by rw [World.size_alloc]; have := Q5.out; have := HB.out.size; omega⟩; have Q7 : Aside0 ((Value.slice (some ⟨g7, 0, none⟩) (s.size + j) c7).ownBlock ≠ some w6.heap.size) := ⟨fun h => by injection h with h; have := Q5.out; exact absurd h (Nat.ne_of_lt (show g7 < w6.heap.size by omega))⟩) | (at_builtin; refine RowB.append rfl (.tmp 42) (.tmp 43) 75 5 rfl Tryd.underlying75 (by kernel_rfl) w.heap.size _ (bytesOf s ++ List.replicate j 191) rfl (H7b.out.below (below_alloc (Below.refl _ _) _)) 191 w6.heap.size Q7.out rfl (by rw [World.cell?_alloc_new]; rfl) Q3.out (Q6.out _) ?_; intro v7 w7 hr7 hg7 hat7; have HR7 := Aside0.mk hr7; have HG7 := Aside0.mk hg7; have HA7 := Aside0.mk hat7; clear hr7 hg7 hat7))
          go_roundg (gk - 1)
          case measure => have := HG.out; omega
          case rel =>
            have hN : v6.ownBlock ≠ some g7 := by
              rcases HA6.out with h | ⟨b, h, hb⟩
              · rw [h]; intro e; injection e with e; exact HNV e
              · rw [h]; intro e; injection e with e; rw [World.size_alloc] at hb; omega
            refine ⟨j + 1, by omega, ⟨by have := HG.out; omega⟩, ⟨?_⟩, ⟨?_⟩, ⟨?_⟩, ⟨?_⟩⟩
            · have := (HR6.out.below (below_alloc (Below.refl _ _) _)).kept HG7.out hN
              rwa [List.append_assoc, ← List.replicate_succ'] at this
            · have := HR7.out
              rwa [List.append_assoc, ← List.replicate_succ'] at this
            · rcases HA7.out with h | ⟨b, h, hb⟩
              · rw [h]; exact hN
              · intro e
                rw [h] at e
                have := (HR6.out.lt b e).2
                rw [World.size_alloc] at hb
                omega
            · have hb0 := HB.out.size
              have h5 := Q5.out
              refine pw_below_grown (Below.alloc (pw_below_grown (Below.alloc HB.out hb0 _) _ (by rw [World.size_alloc]; omega) HG6.out (fun k hk => ?_)) (by omega) _) _ (by rw [World.size_alloc]; omega) HG7.out (fun k hk => ?_)
              · exact (H6.out.lt k hk).1
              · exact (H7b.out.lt k hk).1
        · have hj2 : s.size + j = n := by omega
          have HW : Aside0 (begB (bytesOf s) n = begZ (valueZ (bytesOf s ++ List.replicate j 128)) (valueZ (bytesOf s ++ List.replicate j 191)) (floorOf n)) := ⟨by
            unfold begB
            rw [HC2.out, Bool.true_and, bytesOf_length, show n - s.size = j by omega]⟩
          have c6v : Calls Tryd.prog 93 #[.string (strOfNums (bytesOf s ++ List.replicate j 128))] wr fun e w' => e = .returned (.int .i32 (valueZ (bytesOf s ++ List.replicate j 128))) ∧ Below wr.heap.size wr w' := by
            have := value_any (strOfNums (bytesOf s ++ List.replicate j 128)) wr (by rw [strOfNums_size, HL6.out]; omega) (by rw [strOfNums_size, HL6.out]; omega)
            rwa [bytesOf_str _ (pad_range s j 128 (by omega) (by omega))] at this
          have c7v : ∀ W : World, Calls Tryd.prog 93 #[.string (strOfNums (bytesOf s ++ List.replicate j 191))] W fun e w' => e = .returned (.int .i32 (valueZ (bytesOf s ++ List.replicate j 191))) ∧ Below W.heap.size W w' := fun W => by
            have := value_any (strOfNums (bytesOf s ++ List.replicate j 191)) W (by rw [strOfNums_size, HL7.out]; omega) (by rw [strOfNums_size, HL7.out]; omega)
            rwa [bytesOf_str _ (pad_range s j 191 (by omega) (by omega))] at this
          have k6 := RowB.string (P := Tryd.prog) (src := 75) (dst := 9) Tryd.underlying75 Tryd.underlying5 Tryd.underlying9 H6.out
          have k7 := fun (W : World) (hb : Below wr.heap.size wr W) => RowB.string (P := Tryd.prog) (src := 75) (dst := 9) Tryd.underlying75 Tryd.underlying5 Tryd.underlying9 (H7.out.below hb)
          have K7 := Aside0.mk k7
          have C6 := Aside0.mk c6v
          have C7 := Aside0.mk c7v
          clear c6v c7v k7
          generalize valueZ (bytesOf s ++ List.replicate j 128) = lo at HW C6 C7
          generalize valueZ (bytesOf s ++ List.replicate j 191) = hi at HW C6 C7
          have HBE : Aside0 (∀ fl, begZ lo hi fl = (!(decide (hi < fl) || decide (lo > 1114111)) && (decide (lo < 55296) || decide (hi > 57343)))) := ⟨fun _ => rfl⟩
          have hnn : n = 1 ∨ n = 2 ∨ n = 3 ∨ n = 4 := by omega
          obtain ⟨fl, hfl⟩ : ∃ fl, fl = floorOf n := ⟨_, rfl⟩
          rw [← hfl] at HW
          have HFL := Aside0.mk hfl
          have hge : ¬ ((s.size : Int) + (j : Int) < (n : Int)) := by omega
          clear hlt hj2 HL6 HL7 hfl
          rcases hnn with rfl | rfl | rfl | rfl
          all_goals
            go_wp2_with (first | (go_at_call 93; ((with_reducible refine C6.out.mono ?_); rintro e w8 ⟨rfl, hb8⟩; have k7 := K7.out w8 hb8; have HB8 := Aside0.mk hb8; clear hb8)) | (go_at_call 93; ((with_reducible refine (C7.out _).mono ?_); rintro e w9 ⟨rfl, hb9⟩; have HB9 := Aside0.mk hb9; clear hb9)))
            all_goals
              have hfl := HFL.out
              simp [floorOf] at hfl
              first
              | (have e1 : (decide (hi < fl) || decide (lo > 1114111)) = true := by simp; omega
                 clear hfl
                 go_ret
                 exact ⟨by rw [HW.out, HBE.out, e1]; rfl, (below_step (below_step HB.out HB8.out) HB9.out).alloc (below_step (below_step HB.out HB8.out) HB9.out).size _⟩)
              | (have e1 : (decide (hi < fl) || decide (lo > 1114111)) = false := by simp; omega
                 clear hfl
                 first
                 | (have e2 : decide (lo < 55296) = true := decide_eq_true (by omega)
                    go_ret
                    exact ⟨by rw [HW.out, HBE.out, e1, e2]; rfl, (below_step (below_step HB.out HB8.out) HB9.out).alloc (below_step (below_step HB.out HB8.out) HB9.out).size _⟩)
                 | (go_ret
                    exact ⟨by rw [HW.out, HBE.out, e1]; rfl, (below_step (below_step HB.out HB8.out) HB9.out).alloc (below_step (below_step HB.out HB8.out) HB9.out).size _⟩))
theorem backseatref01_begins.calls (a0 : ByteArray) (a1 : Int) (r : Bool) (w : World) (h : backseatref01_begins.f a0 a1 = some r) :
    Calls Tryd.prog 92 #[.string a0, .int .i64 a1] w fun e w' => e = .returned (.bool r) ∧ Below w.heap.size w w' := by
  unfold backseatref01_begins.f at h
  split at h
  · rename_i hs
    have e := Option.some.inj h
    subst e
    have := begins_any a0 a1.toNat w hs.1 (by omega) (by omega)
    rwa [show ((a1.toNat : Nat) : Int) = a1 by omega] at this
  · cases h
end Go.Proofs.YtckkdaehmccjlaaDoor.P
namespace Go.Proofs.YtckkdaehmccjlaaDoor.P
open Go.RowKit Go.Proofs.YtckkdaehmccjlaaDoorW.PrintWords Go.Proofs.YtckkdaehmccjlaaDoorW.PrintLast Go.Proofs.YtckkdaehmccjlaaDoorW.PrintMore
attribute [local go_sem] max2_int min2_int max_two min_two max_three min_three max_four min_four   -- for this text's walks alone
set_option linter.unusedVariables false
set_option linter.unusedSimpArgs false
mutual
def backseatref01_First.j1 : Nat → ByteArray → Int → Int → Option (Int × Int × Int)
 | 0, _, _, _ => none
 | k + 1, x0, x3, x4 => if x4 = x3 then (if 0 ≤ x3 then (if x3 ≤ (x0.size : Int) then ((backseatref01_value.f (x0.extract 0 (x3 : Int).toNat)).bind fun t206 => (some (t206, x3, 0))) else (none)) else (none)) else (if x4 = (x0.size : Int) then (some (0, 0, 2)) else (some (0, x4, 4)))
def backseatref01_First.l0 : Nat → ByteArray → Int → Int → Option (Int × Int × Int)
 | 0, _, _, _ => none
 | k + 1, x0, x3, x4 => if x4 < x3 then (if x4 < (x0.size : Int) then (if 0 ≤ (wrap64 (x4 + 1)) then (if (wrap64 (x4 + 1)) ≤ (x0.size : Int) then ((backseatref01_begins.f (x0.extract 0 ((wrap64 (x4 + 1)) : Int).toNat) x3).bind fun t205 => (if t205 = true then (backseatref01_First.l0 k x0 x3 (wrap64 (x4 + 1))) else (backseatref01_First.j1 k x0 x3 x4))) else (none)) else (none)) else (backseatref01_First.j1 k x0 x3 x4)) else (backseatref01_First.j1 k x0 x3 x4)
end
def backseatref01_First.f (k : Nat) (a0 : ByteArray) : Option (Int × Int × Int) := if (a0.size : Int) = 0 then (some (0, 0, 2)) else (if 0 < (a0.size : Int) then ((backseatref01_need.f k (bt a0 0)).bind fun t204 => (if t204 = 0 then (some (0, 1, 4)) else (backseatref01_First.l0 k a0 t204 1))) else (none))
set_option maxHeartbeats 8000000 in
set_option maxRecDepth 100000 in
theorem backseatref01_First.calls (k : Nat) (a0 : ByteArray) (r1 : Int) (r2 : Int) (r3 : Int) (w : World) (h : backseatref01_First.f k a0 = some (r1, r2, r3)) :
  Calls Tryd.prog 74 #[.string a0] w fun e w' => e = .returned (.agg #[.int .i32 r1, .int .i64 r2, .int .i64 r3]) ∧ Below w.heap.size w w' := by
 have hu106 := Tryd.underlying106
 have HB := Aside0.mk (Below.refl w.heap.size w)
 have H : (if (a0.size : Int) = 0 then (some (0, 0, 2)) else (if 0 < (a0.size : Int) then ((backseatref01_need.f k (bt a0 0)).bind fun t204 => (if t204 = 0 then (some (0, 1, 4)) else (backseatref01_First.l0 k a0 t204 1))) else (none))) = some (r1, r2, r3) := h
 clear h
 by_cases c2 : (a0.size : Int) = 0
 ·rw [if_pos c2] at H
  have c2b0 : ((a0.size : Int) == 0) = true := beq_iff_eq.mpr c2
  have c2b1 : ((a0.size : Int) != 0) = false := bne_eq_false_iff_eq.mpr c2
  clear c2
  simp only [Option.some.injEq, Prod.mk.injEq] at H
  obtain ⟨rfl, rfl, rfl⟩ := H
  go_enter Tryd.func74, Tryd.ntmps74
  go_wp2_with (first | ((with_reducible refine gate_dst (N := 2) rfl ?_); (try (refine gate_guard (by rfl) ?_; dsimp only)); refine box_event ?hg (N := 2) ?hd (cs := #[.int .i32 0, .int .i64 0, .int .i64 0]) (t := 106) ?hr ?_; (case hd => rfl); (case hg => rfl); (case hr => exact zo); intro gb203 hg w3 hbox hb; have BK203 := Aside0.mk (hbox); have GW203 := Aside0.mk ((zg hg : w.heap.size ≤ gb203)); have GE203 := Aside0.mk ((zg hg : w.heap.size ≤ gb203)); replace HB := (zs HB hb); clear hb hbox hg; obtain ⟨hcz4_0, hcz4_1, hcz4_2, hfz4_0, hfz4_1, hfz4_2⟩ := zq3 (w := w3) BK203))
  refine bodyPost_ret (results_cell_row rfl _ _ gb203 106 #[.int .i32 0, .int .i64 0, .int .i64 2] (0, 0) _ rfl (by refine blk_put (cs := #[.int .i32 0, .int .i64 0, .int .i64 0]) ?_ 2 _ rfl; refine blk_put (cs := #[.int .i32 0, .int .i64 0, .int .i64 0]) ?_ 1 _ rfl; refine blk_put (cs := #[.int .i32 0, .int .i64 0, .int .i64 0]) ?_ 0 _ rfl; exact BK203.out) Tryd.underlying106 rfl (by kernel_rfl)) rfl ?_
  exact ⟨ze, zb⟩
 ·rw [if_neg c2] at H
  have c2b0 : ((a0.size : Int) == 0) = false := beq_eq_false_iff_ne.mpr c2
  have c2b1 : ((a0.size : Int) != 0) = true := bne_iff_ne.mpr c2
  by_cases c5 : 0 < (a0.size : Int)
  ·rw [if_pos c5] at H
   have c5b0 : decide (0 < (a0.size : Int)) = true := decide_eq_true c5
   have c5b1 : decide (0 < a0.size) = true := decide_eq_true (by omega)
   clear c5
   replace H := Option.bind_eq_some_iff.mp H
   obtain ⟨t204, A70, H⟩ := H
   replace H : (if t204 = 0 then (some (0, 1, 4)) else (backseatref01_First.l0 k a0 t204 1)) = some (r1, r2, r3) := H
   have A7 := Aside0.mk A70
   clear A70
   by_cases c8 : t204 = 0
   ·rw [if_pos c8] at H
    have c8b0 : (t204 == 0) = true := beq_iff_eq.mpr c8
    have c8b1 : (t204 != 0) = false := bne_eq_false_iff_eq.mpr c8
    clear c8
    simp only [Option.some.injEq, Prod.mk.injEq] at H
    obtain ⟨rfl, rfl, rfl⟩ := H
    go_enter Tryd.func74, Tryd.ntmps74
    go_wp2_with (first | ((with_reducible refine gate_dst (N := 2) rfl ?_); (try (refine gate_guard (by rfl) ?_; dsimp only)); refine box_event ?hg (N := 2) ?hd (cs := #[.int .i32 0, .int .i64 0, .int .i64 0]) (t := 106) ?hr ?_; (case hd => rfl); (case hg => rfl); (case hr => exact zo); intro gb203 hg w9 hbox hb; have BK203 := Aside0.mk (hbox); have GW203 := Aside0.mk ((zg hg : w.heap.size ≤ gb203)); have GE203 := Aside0.mk ((zg hg : w.heap.size ≤ gb203)); replace HB := (zs HB hb); clear hb hbox hg; have p6 : 0 ≤ (0 : Int) := (by omega); have q6 : 0 < a0.size := (by have : (0 : Int) < (a0.size : Int) := of_decide_eq_true za; omega); have hx6 : ∀ h : 0 < a0.size, ((a0[0]'h).toNat : Int) = bt a0 0 := bt_at a0 0; clear p6; have qi6 : (0 < (a0.size : Int)) = True := eq_true (of_decide_eq_true za); replace q6 := eq_true q6) | ((with_reducible refine gate_callee (f := 91) rfl ?_); refine goesL_ (some 11) rfl rfl Tryd.func91 (by kernel_rfl) rfl #[.int .u8 (bt a0 0)] rfl zl ?_; (with_reducible refine (backseatref01_need.calls k (bt a0 0) t204 _ A7.out).mono ?_); rintro e w' ⟨rfl, ⟨nd, rfl⟩⟩; refine ⟨_, rfl, ?_⟩; (try (rw [drewN_self w9]; generalize hq_ : World.drewN w9 _ = w9; have n0_ : Aside0 (w9.heap[gb203]? = some (.cells #[.int .i32 0, .int .i64 0, .int .i64 0] 106 (0, 0))) := ⟨by rw [← hq_]; exact (by exact BK203.out)⟩; have n1_ : Aside0 (Below w.heap.size w w9) := ⟨by rw [← hq_]; exact zb⟩; clear BK203 HB hq_; have BK203 := n0_; have HB := n1_; clear n0_ n1_)); obtain ⟨hcz10_0, hcz10_1, hcz10_2, hfz10_0, hfz10_1, hfz10_2⟩ := zq3 (w := w9) BK203))
    refine bodyPost_ret (results_cell_row rfl _ _ gb203 106 #[.int .i32 0, .int .i64 1, .int .i64 4] (0, 0) _ rfl (by refine blk_put (cs := #[.int .i32 0, .int .i64 1, .int .i64 0]) ?_ 2 _ rfl; refine blk_put (cs := #[.int .i32 0, .int .i64 0, .int .i64 0]) ?_ 1 _ rfl; refine blk_put (cs := #[.int .i32 0, .int .i64 0, .int .i64 0]) ?_ 0 _ rfl; exact BK203.out) Tryd.underlying106 rfl (by kernel_rfl)) rfl ?_
    exact ⟨ze, zb⟩
   ·rw [if_neg c8] at H
    have c8b0 : (t204 == 0) = false := beq_eq_false_iff_ne.mpr c8
    have c8b1 : (t204 != 0) = true := bne_iff_ne.mpr c8
    have HC11 := Aside0.mk H
    clear H
    go_enter Tryd.func74, Tryd.ntmps74
    go_upto_block 0 with (first | ((with_reducible refine gate_dst (N := 2) rfl ?_); (try (refine gate_guard (by rfl) ?_; dsimp only)); refine box_event ?hg (N := 2) ?hd (cs := #[.int .i32 0, .int .i64 0, .int .i64 0]) (t := 106) ?hr ?_; (case hd => rfl); (case hg => rfl); (case hr => exact zo); intro gb203 hg w12 hbox hb; have BK203 := Aside0.mk (hbox); have GW203 := Aside0.mk ((zg hg : w.heap.size ≤ gb203)); have GE203 := Aside0.mk ((zg hg : w.heap.size ≤ gb203)); replace HB := (zs HB hb); clear hb hbox hg; have p6 : 0 ≤ (0 : Int) := (by omega); have q6 : 0 < a0.size := (by have : (0 : Int) < (a0.size : Int) := of_decide_eq_true za; omega); have hx6 : ∀ h : 0 < a0.size, ((a0[0]'h).toNat : Int) = bt a0 0 := bt_at a0 0; clear p6; have qi6 : (0 < (a0.size : Int)) = True := eq_true (of_decide_eq_true za); replace q6 := eq_true q6) | ((with_reducible refine gate_callee (f := 91) rfl ?_); refine goesL_ (some 11) rfl rfl Tryd.func91 (by kernel_rfl) rfl #[.int .u8 (bt a0 0)] rfl zl ?_; (with_reducible refine (backseatref01_need.calls k (bt a0 0) t204 _ A7.out).mono ?_); rintro e w' ⟨rfl, ⟨nd, rfl⟩⟩; refine ⟨_, rfl, ?_⟩))
    (try simp only [Act.put, List.setIfInBounds_toArray, List.set_cons_zero, List.set_cons_succ])
    go_cut [4] (fun v4 wc => ∃ (kq : Nat) (x4_10 : Int), v4 = .int .i64 x4_10 ∧ Aside0 (backseatref01_First.j1 kq a0 t204 x4_10 = some (r1, r2, r3)) ∧ Aside0 (kq ≤ k) ∧ Aside0 (wc.heap[gb203]? = some (.cells #[.int .i32 0, .int .i64 0, .int .i64 0] 106 (0, 0))) ∧ Aside0 (Below w.heap.size w wc))
    case first =>
     have H := HC11.out
     clear HC11
     have H' := Aside0.mk H
     clear H
     go_wp2
     go_loopg [4] k (fun kq v4 w' => ∃ (x4_1 : Int), v4 = .int .i64 x4_1 ∧ Aside0 (backseatref01_First.l0 kq a0 t204 x4_1 = some (r1, r2, r3)) ∧ Aside0 (kq ≤ k) ∧ Aside0 (w'.heap[gb203]? = some (.cells #[.int .i32 0, .int .i64 0, .int .i64 0] 106 (0, 0))) ∧ Aside0 (Below w.heap.size w w'))
     case atStart => exact ⟨(1), zf, H', ⟨Nat.le_refl _⟩, ⟨by exact BK203.out⟩, ⟨zb⟩⟩
     case round =>
      clear H'
      try clear c2
      try clear c2b0
      try clear c2b1
      try clear c5
      try clear c5b0
      try clear c5b1
      try clear p6
      try clear q6
      try clear hx6
      try clear qi6
      try clear c8
      try clear c8b0
      try clear c8b1
      try clear p6
      try clear q6
      obtain ⟨x4_1, rfl, HA, HK1, BK203, HB⟩ := hrel
      cases gk with
      | zero => exact absurd HA.out (by simp [backseatref01_First.l0])
      | succ k1 =>
       have H := HA.out
       clear HA
       simp only [backseatref01_First.l0] at H
       by_cases c13 : x4_1 < t204
       ·rw [if_pos c13] at H
        have c13b0 : decide (x4_1 < t204) = true := decide_eq_true c13
        clear c13
        (first | rw [c13b0] | (simp only [i64_w, i32_w]; rw [c13b0]) | skip)
        by_cases c14 : x4_1 < (a0.size : Int)
        ·rw [if_pos c14] at H
         have c14b0 : decide (x4_1 < (a0.size : Int)) = true := decide_eq_true c14
         clear c14
         obtain ⟨ji15, hji15⟩ : ∃ j_ : Int, (wrap64 (x4_1 + 1)) = j_ := ⟨_, rfl⟩
         replace H : (if 0 ≤ (ji15) then (if (ji15) ≤ (a0.size : Int) then ((backseatref01_begins.f (a0.extract 0 ((ji15) : Int).toNat) t204).bind fun t205 => (if t205 = true then (backseatref01_First.l0 k1 a0 t204 ji15) else (backseatref01_First.j1 k1 a0 t204 x4_1))) else (none)) else (none)) = some (r1, r2, r3) := by first | (rw [hji15] at H; exact H) | (simp only [hji15] at H ⊢; exact H)
         have hji15w : (IntKind.i64.wrap (x4_1 + 1)) = ji15 := (i64_w _).trans hji15
         by_cases c16 : 0 ≤ (ji15)
         ·rw [if_pos c16] at H
          have c16b0 := eq_true c16
          have c16b1 : decide (0 ≤ (ji15)) = true := decide_eq_true c16
          clear c16
          by_cases c17 : (ji15) ≤ (a0.size : Int)
          ·rw [if_pos c17] at H
           have c17b0 := eq_true c17
           have c17b1 : decide ((ji15) ≤ (a0.size : Int)) = true := decide_eq_true c17
           clear c17
           replace H := Option.bind_eq_some_iff.mp H
           obtain ⟨t205, A180, H⟩ := H
           replace H : (if t205 = true then (backseatref01_First.l0 k1 a0 t204 ji15) else (backseatref01_First.j1 k1 a0 t204 x4_1)) = some (r1, r2, r3) := H
           have A18 := Aside0.mk A180
           clear A180
           by_cases c19 : t205 = true
           ·subst c19
            have H1 : (backseatref01_First.l0 k1 a0 t204 ji15) = some (r1, r2, r3) := by rw [if_pos rfl] at H; exact H
            clear H
            have H := H1
            clear H1
            have H' := Aside0.mk H
            clear H
            go_wp2_with (first | (go_at_call 92; (with_reducible refine (backseatref01_begins.calls (a0.extract 0 ((ji15) : Int).toNat) t204 true _ A18.out).mono ?_); rintro e w20 ⟨rfl, hb⟩; replace BK203 := (zk BK203 hb); replace HB := (zs HB hb); (try clear hb)))
            go_roundg k1
            case measure => have := HK1.out; omega
            case rel => exact ⟨(ji15), (by first | rfl | (simp; done) | (simp only [← hji15] <;> (first | rfl | (simp; done))) | (simp [*]; done) | (simp; simp only [decide_eq_true_eq, eq_iff_iff, iff_true] at *; omega)), H', ⟨by have := HK1.out; omega⟩, ⟨by exact BK203.out⟩, ⟨zb⟩⟩
           ·replace c19 := Bool.eq_false_iff.mpr c19
            subst c19
            have H1 : (backseatref01_First.j1 k1 a0 t204 x4_1) = some (r1, r2, r3) := by rw [if_neg (show ¬ (false = true) by decide)] at H; exact H
            clear H
            have H := H1
            clear H1
            have H' := Aside0.mk H
            clear H
            go_wp2_with (first | (go_at_call 92; (with_reducible refine (backseatref01_begins.calls (a0.extract 0 ((ji15) : Int).toNat) t204 false _ A18.out).mono ?_); rintro e w21 ⟨rfl, hb⟩; replace BK203 := (zk BK203 hb); replace HB := (zs HB hb); (try clear hb)))
            go_meet
            case rel => exact ⟨_, (x4_1), zf, H', ⟨by have := HK1.out; first | omega | exact Nat.le_refl _⟩, ⟨by exact BK203.out⟩, ⟨zb⟩⟩
          ·rw [if_neg c17] at H
           exact absurd H (by simp)
         ·rw [if_neg c16] at H
          exact absurd H (by simp)
        ·rw [if_neg c14] at H
         have c14b0 : decide (x4_1 < (a0.size : Int)) = false := decide_eq_false c14
         clear c14
         have H' := Aside0.mk H
         clear H
         go_wp2
         go_meet
         case rel => exact ⟨_, (x4_1), zf, H', ⟨by have := HK1.out; first | omega | exact Nat.le_refl _⟩, ⟨by exact BK203.out⟩, ⟨zb⟩⟩
       ·rw [if_neg c13] at H
        have c13b0 : decide (x4_1 < t204) = false := decide_eq_false c13
        clear c13
        (first | rw [c13b0] | (simp only [i64_w, i32_w]; rw [c13b0]) | skip)
        have H' := Aside0.mk H
        clear H
        go_wp2
        go_meet
        case rel => exact ⟨_, (x4_1), zf, H', ⟨by have := HK1.out; first | omega | exact Nat.le_refl _⟩, ⟨by exact BK203.out⟩, ⟨zb⟩⟩
    case rest =>
     clear HC11
     try clear c2
     try clear c2b0
     try clear c2b1
     try clear c5
     try clear c5b0
     try clear c5b1
     try clear p6
     try clear q6
     try clear hx6
     try clear qi6
     try clear c8
     try clear c8b0
     try clear c8b1
     try clear p6
     try clear q6
     obtain ⟨kq, x4_10, rfl, HA, HJ10, BK203, HB⟩ := hcut
     cases kq with
     | zero => exact absurd HA.out (by simp [backseatref01_First.j1])
     | succ kj10 =>
      have H := HA.out
      clear HA
      simp only [backseatref01_First.j1] at H
      by_cases c22 : x4_10 = t204
      ·rw [if_pos c22] at H
       have c22b0 : (x4_10 == t204) = true := beq_iff_eq.mpr c22
       have c22b1 : (x4_10 != t204) = false := bne_eq_false_iff_eq.mpr c22
       clear c22
       by_cases c23 : 0 ≤ t204
       ·rw [if_pos c23] at H
        have c23b0 := eq_true c23
        have c23b1 : decide (0 ≤ t204) = true := decide_eq_true c23
        clear c23
        by_cases c24 : t204 ≤ (a0.size : Int)
        ·rw [if_pos c24] at H
         have c24b0 := eq_true c24
         have c24b1 : decide (t204 ≤ (a0.size : Int)) = true := decide_eq_true c24
         clear c24
         replace H := Option.bind_eq_some_iff.mp H
         obtain ⟨t206, A250, H⟩ := H
         replace H : (some (t206, t204, 0)) = some (r1, r2, r3) := H
         have A25 := Aside0.mk A250
         clear A250
         simp only [Option.some.injEq, Prod.mk.injEq] at H
         obtain ⟨rfl, rfl, rfl⟩ := H
         go_wp2_with (first | ((with_reducible refine gate_callee (f := 93) rfl ?_); refine goesL_ (some 40) rfl rfl Tryd.func93 (by kernel_rfl) rfl #[.string (a0.extract 0 (t204 : Int).toNat)] rfl zl ?_; (with_reducible refine (backseatref01_value.calls (a0.extract 0 (t204 : Int).toNat) t206 _ A25.out).mono ?_); rintro e w26 ⟨rfl, hb⟩; refine ⟨_, rfl, ?_⟩; replace BK203 := (zk BK203 hb); replace HB := (zs HB hb); (try clear hb); obtain ⟨hcz27_0, hcz27_1, hcz27_2, hfz27_0, hfz27_1, hfz27_2⟩ := zq3 (w := w26) BK203))
         refine bodyPost_ret (results_cell_row rfl _ _ gb203 106 #[.int .i32 t206, .int .i64 t204, .int .i64 0] (0, 0) _ rfl (by refine blk_put (cs := #[.int .i32 t206, .int .i64 t204, .int .i64 0]) ?_ 2 _ rfl; refine blk_put (cs := #[.int .i32 t206, .int .i64 0, .int .i64 0]) ?_ 1 _ rfl; refine blk_put (cs := #[.int .i32 0, .int .i64 0, .int .i64 0]) ?_ 0 _ rfl; exact BK203.out) Tryd.underlying106 rfl (by kernel_rfl)) rfl ?_
         exact ⟨ze, zb⟩
        ·rw [if_neg c24] at H
         exact absurd H (by simp)
       ·rw [if_neg c23] at H
        exact absurd H (by simp)
      ·rw [if_neg c22] at H
       have c22b0 : (x4_10 == t204) = false := beq_eq_false_iff_ne.mpr c22
       have c22b1 : (x4_10 != t204) = true := bne_iff_ne.mpr c22
       by_cases c28 : x4_10 = (a0.size : Int)
       ·rw [if_pos c28] at H
        have c28b0 : (x4_10 == (a0.size : Int)) = true := beq_iff_eq.mpr c28
        have c28b1 : (x4_10 != (a0.size : Int)) = false := bne_eq_false_iff_eq.mpr c28
        clear c28
        simp only [Option.some.injEq, Prod.mk.injEq] at H
        obtain ⟨rfl, rfl, rfl⟩ := H
        obtain ⟨hcz29_0, hcz29_1, hcz29_2, hfz29_0, hfz29_1, hfz29_2⟩ := zq3 (w := wc) BK203
        go_wp2
        refine bodyPost_ret (results_cell_row rfl _ _ gb203 106 #[.int .i32 0, .int .i64 0, .int .i64 2] (0, 0) _ rfl (by refine blk_put (cs := #[.int .i32 0, .int .i64 0, .int .i64 0]) ?_ 2 _ rfl; refine blk_put (cs := #[.int .i32 0, .int .i64 0, .int .i64 0]) ?_ 1 _ rfl; refine blk_put (cs := #[.int .i32 0, .int .i64 0, .int .i64 0]) ?_ 0 _ rfl; exact BK203.out) Tryd.underlying106 rfl (by kernel_rfl)) rfl ?_
        exact ⟨ze, zb⟩
       ·rw [if_neg c28] at H
        have c28b0 : (x4_10 == (a0.size : Int)) = false := beq_eq_false_iff_ne.mpr c28
        have c28b1 : (x4_10 != (a0.size : Int)) = true := bne_iff_ne.mpr c28
        simp only [Option.some.injEq, Prod.mk.injEq] at H
        obtain ⟨rfl, rfl, rfl⟩ := H
        obtain ⟨hcz30_0, hcz30_1, hcz30_2, hfz30_0, hfz30_1, hfz30_2⟩ := zq3 (w := wc) BK203
        go_wp2
        refine bodyPost_ret (results_cell_row rfl _ _ gb203 106 #[.int .i32 0, .int .i64 x4_10, .int .i64 4] (0, 0) _ rfl (by refine blk_put (cs := #[.int .i32 0, .int .i64 x4_10, .int .i64 0]) ?_ 2 _ rfl; refine blk_put (cs := #[.int .i32 0, .int .i64 0, .int .i64 0]) ?_ 1 _ rfl; refine blk_put (cs := #[.int .i32 0, .int .i64 0, .int .i64 0]) ?_ 0 _ rfl; exact BK203.out) Tryd.underlying106 rfl (by kernel_rfl)) rfl ?_
        exact ⟨ze, zb⟩
  ·rw [if_neg c5] at H
   exact absurd H (by simp)
end Go.Proofs.YtckkdaehmccjlaaDoor.P
