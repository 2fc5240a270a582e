/- Texts of this session put together by a program, part 0: Aids, Shelf, Px0, Tabs, Reads, Px37, Px38, Px1, Px7, Px8, Px9, Px6, Px3, Px4, Utf, Px50, Width, Px51, Px52, Px53, Px54, Back, May. -/
import Derived.Test.YtckkdaehmccjlaaDoorWMore
import Derived.Shelf.Strings.Builder1
import Derived.Shelf.Strings.Builder2
import Derived.Shelf.Strings.OnBuilder
import Derived.Shelf.Strings.Trim
import Derived.Shelf.Small.Utf8
import Derived.Shelf.Small.Strs
import Derived.Shelf.Small.Wraps
import Derived.Shelf.Strings.BuilderF
import Derived.Shelf.Strings.BuilderK
import Derived.Shelf.Strings.Search1
import Derived.Shelf.Strings.Prefix
import Derived.Shelf.Strings.Runes
import Derived.Shelf.Strings.AsciiSet
import Derived.Shelf.Bits.Mul64
import Derived.Shelf.Unicode.DecodeSlow
import Derived.Shelf.Unicode.DecodeAny
import Derived.Test.YtckkdaehmccjlaaDoorProg
import Derived.Below
import Derived.Deep.Draws
import Derived.Deep.AppendLies
import Derived.Maps.AppendAt
import Derived.OwnWalk
import Derived.Laws.BytesArg
import Derived.Laws.MakeOwn
import Derived.Laws.OwnMore
import Derived.Deep.OwnRows
import Derived.Tactics
import Derived.Lib.ConvBytes
import Derived.Laws.Slices
import Derived.WalkKit
import Derived.KernelRfl
import Derived.RowKit3
import Derived.Deep.LoopGhost
import Derived.Deep.QuietTactic
import Derived.BigQuiet
import Derived.WideLaws
import Derived.Deep.DeepCutAuto
import Derived.Deep.CutBlock
import Derived.Deep.RegionHeld3
import Derived.Laws.Rows
import Derived.Lib.AppendStr
import Derived.ArgAppend
import Derived.Laws.IdiomCopy
import Derived.OrdersHeld
import Derived.Laws.BitsLemmas
import Derived.RowKit
import Derived.Test.YtckkdaehmccjlaaDoorWWords
import Derived.Test.YtckkdaehmccjlaaDoorWLast
import Derived.Test.YtckkdaehmccjlaaDoorWTab
import Derived.Test.YtckkdaehmccjlaaDoorWQPut
import Derived.Test.YtckkdaehmccjlaaDoorWApart
import Derived.Test.YtckkdaehmccjlaaDoorWArr
import Derived.Test.YtckkdaehmccjlaaDoorWZeros
import Derived.Test.YtckkdaehmccjlaaDoorWFoot
import Derived.Test.YtckkdaehmccjlaaDoorWKept
import Derived.Test.YtckkdaehmccjlaaDoorWShare
import Derived.Test.YtckkdaehmccjlaaDoorWN
import Derived.Test.YtckkdaehmccjlaaDoorWEqStruct
import Derived.Test.YtckkdaehmccjlaaDoorWRepsOne
import Derived.Test.YtckkdaehmccjlaaDoorWGuard
import Derived.Test.YtckkdaehmccjlaaDoorWNEv
import Derived.ProofKit
import Derived.OpenShut
import Derived.ShutString
import Derived.ChangeArms
import Derived.ChangeSame
import Derived.Deep.Slices
import Derived.Deep.Strs
import Derived.Lib.SliceRun
import Derived.RangeFuncNested
import Derived.RangeFuncBound
import Derived.RangeFuncCalls
import Derived.RangeFuncLeaves
import Derived.Shelf.Abstract
import Derived.Shelf.RegionOpen
import Derived.OwnWalkIn
import Derived.TacticsInMore
import Derived.LoopNIn
import Derived.LoopIn
namespace Go.Proofs.YtckkdaehmccjlaaDoor.P
open Go.RowKit Go.Proofs.YtckkdaehmccjlaaDoorW.PrintWords Go.Proofs.YtckkdaehmccjlaaDoorW.PrintLast Go.Proofs.YtckkdaehmccjlaaDoorW.PrintMore
set_option linter.unusedVariables false
theorem zb {b : Nat} {w W : World} (h : Below b w W := by repeat first | (with_reducible first | exact HB.out | apply below_alloc | apply pw_below_drewN | apply below_drew1 | refine below_set ?_ (Aside0.out (by with_reducible assumption))) | exact HB.out) : Below b w W := h
theorem zg {b g : Nat} {w W : World} (hg : g = W.heap.size) (h : Below b w W := by repeat first | (with_reducible first | exact HB.out | apply below_alloc | apply pw_below_drewN | apply below_drew1 | refine below_set ?_ (Aside0.out (by with_reducible assumption))) | exact HB.out) : w.heap.size ≤ g := hg ▸ h.size
theorem zs {w w0 W W1 : World} (H : Aside0 (Below w.heap.size w w0)) (hb : Below W.heap.size W W1) (h : Below w.heap.size w W := by repeat first | (with_reducible first | exact HB.out | apply below_alloc | apply pw_below_drewN | apply below_drew1 | refine below_set ?_ (Aside0.out (by with_reducible assumption))) | exact HB.out) : Aside0 (Below w.heap.size w W1) := ⟨below_step h hb⟩
theorem zk {w W W1 : World} {g : Nat} {o : Obj} (H : Aside0 (w.heap[g]? = some o)) (hb : Below W.heap.size W W1) (h : w.heap[g]? = some o → W.heap[g]? = some o := by (intro h; exact h)) : Aside0 (W1.heap[g]? = some o) := ⟨blk_below (h H.out) hb⟩
theorem zR {α : Type} {d : Kd α} {e base : Nat} {w W W1 : World} {ok : Nat → Prop} {v : Value} {xs : List α} (H : Aside0 (d.R e w base ok v xs)) (hb : Below W.heap.size W W1) (h : d.R e w base ok v xs → d.R e W base ok v xs := by (intro h; (with_reducible repeat (first | apply Kd.R_alloc | apply Kd.R_drewN | apply Kd.R_drew)); exact h)) : Aside0 (d.R e W1 base ok v xs) := ⟨Kd.R_below (h H.out) hb⟩
theorem zN {α : Type} {d : Kd α} {e base : Nat} {w W W1 : World} {ok : Nat → Prop} {v : Value} {xs : List α} (H : Aside0 (Kd.N d e w base ok v xs)) (hb : Below W.heap.size W W1) (h : Kd.N d e w base ok v xs → Kd.N d e W base ok v xs := by (intro h; (with_reducible repeat (first | apply Kd.N_alloc | apply Kd.N_drewN | apply Kd.N_drew)); exact h)) : Aside0 (Kd.N d e W1 base ok v xs) := ⟨Kd.N_below (h H.out) hb⟩
theorem zRa {α : Type} {d : Kd α} {e base : Nat} {w W : World} {ok : Nat → Prop} {v : Value} {xs : List α} (H : Aside0 (d.R e w base ok v xs)) (h : d.R e w base ok v xs → d.R e W base ok v xs := by (intro h; (with_reducible repeat (first | apply Kd.R_alloc | apply Kd.R_drewN | apply Kd.R_drew)); exact h)) : d.R e W base ok v xs := h H.out
theorem zSa {α : Type} {d : Kd α} {e base : Nat} {w W : World} {ok : Nat → Prop} {v : Value} {xs : List α} (H : Aside0 (Kd.S d e w base ok v xs)) (h : Kd.S d e w base ok v xs → Kd.S d e W base ok v xs := by (intro h; (with_reducible repeat (first | apply Kd.S_alloc | apply Kd.S_drewN | apply Kd.S_drew)); exact h)) : Kd.S d e W base ok v xs := h H.out
theorem zNa {α : Type} {d : Kd α} {e base : Nat} {w W : World} {ok : Nat → Prop} {v : Value} {xs : List α} (H : Aside0 (Kd.N d e w base ok v xs)) (h : Kd.N d e w base ok v xs → Kd.N d e W base ok v xs := by (intro h; (with_reducible repeat (first | apply Kd.N_alloc | apply Kd.N_drewN | apply Kd.N_drew)); exact h)) : Kd.N d e W base ok v xs := h H.out
theorem zl {p : Prop} (h : p := by (try simp only [List.map_toArray, List.map_cons, List.map_nil]); first | done | rfl | (simp only [List.length_drop, List.length_take]; rfl)) : p := h
theorem za {p : Prop} (h : p := by first | (with_reducible assumption) | assumption) : p := h
theorem zf {p : Prop} (h : p := by first | rfl | (simp; done) | (simp [*]; done)) : p := h
theorem ze {p : Prop} (h : p := by first | rfl | (simp [errW_none, errW_some] <;> rfl) | (simp [*, errW_none, errW_some] <;> rfl)) : p := h
theorem zm {p : Prop} (h : p := by simp only [List.map_toArray, List.map_cons, List.map_nil]; rfl) : p := h
theorem zr {p : Prop} (h : p := by (simp only [Act.put, List.setIfInBounds_toArray, List.set_cons_zero, List.set_cons_succ, i64_w, i32_w]; rfl)) : p := h
theorem zo {p : Prop} (h : p := by first | (go_simp; done) | (go_simp; rfl)) : p := h
theorem zc {w W : World} {a : Addr} {v : Value} (H : Aside0 (Below w.heap.size w W)) (h : w.cell? a = some v) : W.cell? a = some v := (H.out.cell (World.block_lt_of_cell? w _ h)).trans h
section
variable {w w0 : World} {g : Nat} {t : TypeId} {a b c d e f k : Value}
theorem zq2 (H : Aside0 (w0.heap[g]? = some (.cells #[a, b] t (0, 0)))) (h : w0.heap[g]? = some (.cells #[a, b] t (0, 0)) → w.heap[g]? = some (.cells #[a, b] t (0, 0)) := by exact id) : w.cell? ⟨g, 0, none⟩ = some a ∧ w.cell? ⟨g, 1, none⟩ = some b ∧ w.frozen? ⟨g, 0, none⟩ = false ∧ w.frozen? ⟨g, 1, none⟩ = false := ⟨blk_cell (h H.out) 0, blk_cell (h H.out) 1, blk_frozen (h H.out) 0, blk_frozen (h H.out) 1⟩
theorem zq3 (H : Aside0 (w0.heap[g]? = some (.cells #[a, b, c] t (0, 0)))) (h : w0.heap[g]? = some (.cells #[a, b, c] t (0, 0)) → w.heap[g]? = some (.cells #[a, b, c] t (0, 0)) := by exact id) : w.cell? ⟨g, 0, none⟩ = some a ∧ w.cell? ⟨g, 1, none⟩ = some b ∧ w.cell? ⟨g, 2, none⟩ = some c ∧ w.frozen? ⟨g, 0, none⟩ = false ∧ w.frozen? ⟨g, 1, none⟩ = false ∧ w.frozen? ⟨g, 2, none⟩ = false := ⟨blk_cell (h H.out) 0, blk_cell (h H.out) 1, blk_cell (h H.out) 2, blk_frozen (h H.out) 0, blk_frozen (h H.out) 1, blk_frozen (h H.out) 2⟩
theorem zq5 (H : Aside0 (w0.heap[g]? = some (.cells #[a, b, c, d, e] t (0, 0)))) (h : w0.heap[g]? = some (.cells #[a, b, c, d, e] t (0, 0)) → w.heap[g]? = some (.cells #[a, b, c, d, e] t (0, 0)) := by exact id) : w.cell? ⟨g, 0, none⟩ = some a ∧ w.cell? ⟨g, 1, none⟩ = some b ∧ w.cell? ⟨g, 2, none⟩ = some c ∧ w.cell? ⟨g, 3, none⟩ = some d ∧ w.cell? ⟨g, 4, none⟩ = some e ∧ w.frozen? ⟨g, 0, none⟩ = false ∧ w.frozen? ⟨g, 1, none⟩ = false ∧ w.frozen? ⟨g, 2, none⟩ = false ∧ w.frozen? ⟨g, 3, none⟩ = false ∧ w.frozen? ⟨g, 4, none⟩ = false := ⟨blk_cell (h H.out) 0, blk_cell (h H.out) 1, blk_cell (h H.out) 2, blk_cell (h H.out) 3, blk_cell (h H.out) 4, blk_frozen (h H.out) 0, blk_frozen (h H.out) 1, blk_frozen (h H.out) 2, blk_frozen (h H.out) 3, blk_frozen (h H.out) 4⟩
end
end Go.Proofs.YtckkdaehmccjlaaDoor.P
namespace Go.Proofs
open Go.Shelf
def Tryd.lays169_ren : Go.Shelf.Ren := ⟨fun | 169 => 48 | n => n, fun | 70 => 74 | 9 => 9 | 0 => 0 | 72 => 77 | 37 => 75 | 127 => 103 | 3 => 3 | 5 => 5 | n => n, fun | n => n⟩
theorem Tryd.lays169 : Go.Proofs.Lays.n169 Tryd.prog Tryd.lays169_ren := {
 mixed := by kernel_rfl
 f169 := Tryd.func48.trans (congrArg some (by kernel_rfl))
 t0 := Tryd.underlying0
 a0 := Tryd.isAgg0
 z0 := Tryd.sizeOf0
 v0 := Tryd.zeroValue0
 t3 := Tryd.underlying3
 a3 := Tryd.isAgg3
 z3 := Tryd.sizeOf3
 v3 := Tryd.zeroValue3
 t9 := Tryd.underlying9
 a9 := Tryd.isAgg9
 z9 := Tryd.sizeOf9
 v9 := Tryd.zeroValue9
 t37 := Tryd.underlying75
 a37 := Tryd.isAgg75
 z37 := Tryd.sizeOf75
 v37 := Tryd.zeroValue75
 t70 := Tryd.underlying74
 a70 := Tryd.isAgg74
 z70 := Tryd.sizeOf74
 v70 := Tryd.zeroValue74
 t72 := Tryd.underlying77
 a72 := Tryd.isAgg77
 z72 := Tryd.sizeOf77
 v72 := Tryd.zeroValue77
 t127 := Tryd.underlying103
 a127 := Tryd.isAgg103
 z127 := Tryd.sizeOf103
 v127 := Tryd.zeroValue103 }
theorem Tryd.Builder_Extra_169 : Builder.Extra Tryd.prog Tryd.lays169_ren := {
 sizeBuilder := by kernel_rfl
 liesBuilder := by kernel_rfl
 t5 := Tryd.underlying5
 a5 := Tryd.isAgg5
 z5 := Tryd.sizeOf5
 v5 := Tryd.zeroValue5
 infoByte := by kernel_rfl
 cellsByte := by kernel_rfl
 sizeByte := by kernel_rfl
 neB5 := by decide }
def Tryd.lays119_ren : Go.Shelf.Ren := ⟨fun | 119 => 104 | n => n, fun | 21 => 21 | 4 => 4 | n => n, fun | n => n⟩
theorem Tryd.lays119 : Go.Proofs.Lays.n119 Tryd.prog Tryd.lays119_ren := {
 mixed := by kernel_rfl
 f119 := Tryd.func104.trans (congrArg some (by kernel_rfl))
 t4 := Tryd.underlying4
 a4 := Tryd.isAgg4
 z4 := Tryd.sizeOf4
 v4 := Tryd.zeroValue4
 t21 := Tryd.underlying21
 a21 := Tryd.isAgg21
 z21 := Tryd.sizeOf21
 v21 := Tryd.zeroValue21 }
theorem Tryd.utf8_ValidRune (r : Int) (w : World) :
  Calls Tryd.prog 104 #[.int .i32 r] w fun e w' => e = .returned (.bool (Lib.validRune r)) ∧ w' = w := Any.utf8_ValidRune Tryd.lays119 r w
open Go.RowKit in
theorem Tryd.Builder_String_any_k (B b : Nat) (l : List UInt8) (w : World) (h : Lib.IsBuilderF 77 5 B b (Lib.byteCells l) w) (hBw : B ≤ w.heap.size) :
  Calls Tryd.prog 48 #[.pointer (some ⟨b, 0, none⟩)] w fun e w' => e = .returned (.string ⟨l.toArray⟩) ∧ (Lib.IsBuilderF 77 5 B b (Lib.byteCells l) w' ∧ Below B w w' ∧ Lib.OthersKept 5 (some b) w w') := Any.Builder_String_any_k Tryd.lays169 Tryd.Builder_Extra_169 B b l w h hBw
def Tryd.lays212_ren : Go.Shelf.Ren := ⟨fun | 212 => 108 | 263 => 116 | 264 => 117 | n => n, fun | 46 => 139 | 51 => 153 | 146 => 154 | 53 => 156 | 148 => 157 | n => n, fun | n => n⟩
theorem Tryd.lays212 : Go.Proofs.Lays.n212 Tryd.prog Tryd.lays212_ren := {
 mixed := by kernel_rfl
 f212 := Tryd.func108.trans (congrArg some (by kernel_rfl))
 f263 := Tryd.func116.trans (congrArg some (by kernel_rfl))
 f264 := Tryd.func117.trans (congrArg some (by kernel_rfl))
 t46 := Tryd.underlying139
 a46 := Tryd.isAgg139
 z46 := Tryd.sizeOf139
 v46 := Tryd.zeroValue139
 t51 := Tryd.underlying153
 a51 := Tryd.isAgg153
 z51 := Tryd.sizeOf153
 v51 := Tryd.zeroValue153
 t53 := Tryd.underlying156
 a53 := Tryd.isAgg156
 z53 := Tryd.sizeOf156
 v53 := Tryd.zeroValue156
 t146 := Tryd.underlying154
 a146 := Tryd.isAgg154
 z146 := Tryd.sizeOf154
 v146 := Tryd.zeroValue154
 t148 := Tryd.underlying157
 a148 := Tryd.isAgg157
 z148 := Tryd.sizeOf157
 v148 := Tryd.zeroValue157 }
open Go.RowKit Go.Lib in
theorem Tryd.bits_Mul (x y : Nat) (hx : x < 18446744073709551616) (hy : y < 18446744073709551616) (w : World) :
  Calls Tryd.prog 108 #[.int .u64 x, .int .u64 y] w fun e w' => e = .returned (.tuple #[.int .u64 ((x * y / 18446744073709551616 : Nat) : Int), .int .u64 ((x * y % 18446744073709551616 : Nat) : Int)]) ∧ w' = w := Any.bits_Mul Tryd.lays212 x y hx hy w
def Tryd.lays197_ren : Go.Shelf.Ren := ⟨fun | 197 => 103 | 260 => 113 | n => n, fun | 9 => 9 | 21 => 21 | 3 => 3 | 4 => 4 | 5 => 5 | 105 => 134 | 119 => 146 | 0 => 0 | 46 => 139 | 139 => 149 | 138 => 148 | n => n, fun | 3 => 0 | 4 => 1 | n => n⟩
theorem Tryd.lays197 : Go.Proofs.Lays.n197 Tryd.prog Tryd.lays197_ren := {
 mixed := by kernel_rfl
 f197 := Tryd.func103.trans (congrArg some (by kernel_rfl))
 f260 := Tryd.func113.trans (congrArg some (by kernel_rfl))
 t0 := Tryd.underlying0
 a0 := Tryd.isAgg0
 z0 := Tryd.sizeOf0
 v0 := Tryd.zeroValue0
 t3 := Tryd.underlying3
 a3 := Tryd.isAgg3
 z3 := Tryd.sizeOf3
 v3 := Tryd.zeroValue3
 t4 := Tryd.underlying4
 a4 := Tryd.isAgg4
 z4 := Tryd.sizeOf4
 v4 := Tryd.zeroValue4
 t5 := Tryd.underlying5
 a5 := Tryd.isAgg5
 z5 := Tryd.sizeOf5
 v5 := Tryd.zeroValue5
 t9 := Tryd.underlying9
 a9 := Tryd.isAgg9
 z9 := Tryd.sizeOf9
 v9 := Tryd.zeroValue9
 t21 := Tryd.underlying21
 a21 := Tryd.isAgg21
 z21 := Tryd.sizeOf21
 v21 := Tryd.zeroValue21
 t46 := Tryd.underlying139
 a46 := Tryd.isAgg139
 z46 := Tryd.sizeOf139
 v46 := Tryd.zeroValue139
 t105 := Tryd.underlying134
 a105 := Tryd.isAgg134
 z105 := Tryd.sizeOf134
 v105 := Tryd.zeroValue134
 t119 := Tryd.underlying146
 a119 := Tryd.isAgg146
 z119 := Tryd.sizeOf146
 t138 := Tryd.underlying148
 a138 := Tryd.isAgg148
 z138 := Tryd.sizeOf148
 v138 := Tryd.zeroValue148
 t139 := Tryd.underlying149
 a139 := Tryd.isAgg149
 z139 := Tryd.sizeOf149
 v139 := Tryd.zeroValue149
 g3 := by kernel_rfl
 g4 := by kernel_rfl }
open Go.RowKit Go.Lib in
theorem Tryd.utf8_DecodeRuneInString (s : ByteArray) (w : World) (hT : Lib.Utf8Tabs 0 1 w) :
  Calls Tryd.prog 103 #[.string s] w fun e w' => e = .returned (.tuple #[.int .i32 (Lib.decodeGo s).1, .int .i64 (Lib.decodeGo s).2]) ∧ Below w.heap.size w w' := Any.utf8_DecodeRuneInString Tryd.lays197 s w hT
end Go.Proofs
namespace Go.Proofs.YtckkdaehmccjlaaDoor.P
open Go.RowKit Go.Proofs.YtckkdaehmccjlaaDoorW.PrintWords Go.Proofs.YtckkdaehmccjlaaDoorW.PrintLast Go.Proofs.YtckkdaehmccjlaaDoorW.PrintMore
attribute [local go_sem] max2_int min2_int max_two min_two max_three min_three max_four min_four   -- for this text's walks alone
set_option linter.unusedVariables false
set_option linter.unusedSimpArgs false
def errW : Option Int → Value
 | none => .nilIface
 | some c => .iface 0 (.int .i64 c)
theorem errW_none : errW none = .nilIface := rfl
theorem errW_some (c : Int) : errW (some c) = .iface 0 (.int .i64 c) := rfl
theorem info36 : (Tryd.prog.info? 36).map (fun i => (i.zero, i.size, i.bytes)) = some (some (.slice none 0 0), 1, 24) := by kernel_rfl
theorem info38 : (Tryd.prog.info? 38).map (fun i => (i.zero, i.size, i.bytes)) = some (some (.agg #[(.slice none 0 0), (.bool false)]), 2, 32) := by kernel_rfl
theorem info60 : (Tryd.prog.info? 60).map (fun i => (i.zero, i.size, i.bytes)) = some (some (.agg #[(.string ⟨#[]⟩), (.int .i64 0), (.int .i64 0), (.int .i64 0), (.int .i64 0)]), 5, 48) := by kernel_rfl
structure S58 where
 f0 : Int
 f1 : Int
 f2 : Int
def z58 : S58 := ⟨(0 : Int), (0 : Int), (0 : Int)⟩
def k58 : Kd S58 := Kd.iso (Kd.pair (Kd.int .i64) (Kd.pair (Kd.int .i64) (Kd.int .i64))) (fun x : S58 => (x.f0, x.f1, x.f2))
theorem k58_open {w : World} {x : S58} {cs : List Value} (h : k58.K w x cs) : cs = [.int .i64 x.f0, .int .i64 x.f1, .int .i64 x.f2] := by
 obtain ⟨_, _, rfl, rfl, ⟨_, _, rfl, rfl, rfl⟩⟩ := h
 exact rfl
theorem k58_openM {w : World} {base : Nat} {ok : Nat → Prop} {x : S58} {cs : List Value} (h : k58.M w base ok x cs) : cs = [.int .i64 x.f0, .int .i64 x.f1, .int .i64 x.f2] := by
 obtain ⟨_, _, rfl, rfl, ⟨_, _, rfl, rfl, rfl⟩⟩ := h
 exact rfl
theorem k58_mk (w : World) (x : S58)  : k58.K w x [.int .i64 x.f0, .int .i64 x.f1, .int .i64 x.f2] := ⟨[.int .i64 x.f0], [.int .i64 x.f1, .int .i64 x.f2], rfl, rfl, ⟨[.int .i64 x.f1], [.int .i64 x.f2], rfl, rfl, rfl⟩⟩
theorem k58_mkM (w : World) (base : Nat) (ok : Nat → Prop) (x : S58)  : k58.M w base ok x [.int .i64 x.f0, .int .i64 x.f1, .int .i64 x.f2] := ⟨[.int .i64 x.f0], [.int .i64 x.f1, .int .i64 x.f2], rfl, rfl, ⟨[.int .i64 x.f1], [.int .i64 x.f2], rfl, rfl, rfl⟩⟩
def rd_T58 (xs : List S58) (i : Int) : S58 := xs.getD i.toNat z58
structure S60 where
 f0 : ByteArray
 f1 : Int
 f2 : S58
def z60 : S60 := ⟨(⟨#[]⟩ : ByteArray), (0 : Int), z58⟩
def k60 : Kd S60 := Kd.iso (Kd.pair Kd.string (Kd.pair (Kd.int .i64) k58)) (fun x : S60 => (x.f0, x.f1, x.f2))
theorem k60_open {w : World} {x : S60} {cs : List Value} (h : k60.K w x cs) : cs = [.string x.f0, .int .i64 x.f1, .int .i64 x.f2.f0, .int .i64 x.f2.f1, .int .i64 x.f2.f2] := by
 obtain ⟨_, _, rfl, rfl, ⟨_, _, rfl, rfl, s2⟩⟩ := h
 obtain rfl := k58_open s2
 exact rfl
theorem k60_openM {w : World} {base : Nat} {ok : Nat → Prop} {x : S60} {cs : List Value} (h : k60.M w base ok x cs) : cs = [.string x.f0, .int .i64 x.f1, .int .i64 x.f2.f0, .int .i64 x.f2.f1, .int .i64 x.f2.f2] := by
 obtain ⟨_, _, rfl, rfl, ⟨_, _, rfl, rfl, s2⟩⟩ := h
 obtain rfl := k58_openM s2
 exact rfl
theorem k60_mk (w : World) (x : S60)  : k60.K w x [.string x.f0, .int .i64 x.f1, .int .i64 x.f2.f0, .int .i64 x.f2.f1, .int .i64 x.f2.f2] := ⟨[.string x.f0], [.int .i64 x.f1, .int .i64 x.f2.f0, .int .i64 x.f2.f1, .int .i64 x.f2.f2], rfl, rfl, ⟨[.int .i64 x.f1], [.int .i64 x.f2.f0, .int .i64 x.f2.f1, .int .i64 x.f2.f2], rfl, rfl, (k58_mk w x.f2 )⟩⟩
theorem k60_mkM (w : World) (base : Nat) (ok : Nat → Prop) (x : S60)  : k60.M w base ok x [.string x.f0, .int .i64 x.f1, .int .i64 x.f2.f0, .int .i64 x.f2.f1, .int .i64 x.f2.f2] := ⟨[.string x.f0], [.int .i64 x.f1, .int .i64 x.f2.f0, .int .i64 x.f2.f1, .int .i64 x.f2.f2], rfl, rfl, ⟨[.int .i64 x.f1], [.int .i64 x.f2.f0, .int .i64 x.f2.f1, .int .i64 x.f2.f2], rfl, rfl, (k58_mkM w base ok x.f2 )⟩⟩
def rd_T60 (xs : List S60) (i : Int) : S60 := xs.getD i.toNat z60
theorem at_T60 {w : World} {A : Option Addr} {n : Nat} {xs : List S60} (h : Kd.C k60 w A n xs) (i : Int) (h0 : 0 ≤ i) (h1 : i < n) : ∃ ad , A = some ad ∧ w.cell? (ad.add (i.toNat * 5)) = some (.string (rd_T60 xs i).f0) ∧ w.cell? ⟨(ad.add (i.toNat * 5)).block, (ad.add (i.toNat * 5)).off + 1, none⟩ = some (.int .i64 (rd_T60 xs i).f1) ∧ w.cell? ⟨(ad.add (i.toNat * 5)).block, (ad.add (i.toNat * 5)).off + 2, none⟩ = some (.int .i64 (rd_T60 xs i).f2.f0) ∧ w.cell? ⟨(ad.add (i.toNat * 5)).block, (ad.add (i.toNat * 5)).off + 3, none⟩ = some (.int .i64 (rd_T60 xs i).f2.f1) ∧ w.cell? ⟨(ad.add (i.toNat * 5)).block, (ad.add (i.toNat * 5)).off + 4, none⟩ = some (.int .i64 (rd_T60 xs i).f2.f2) := by
 obtain ⟨ad, c, e, _, hK, hc0⟩ := Kd.C_get h z60 i h0 h1
 have hc : ∀ j u, c[j]? = some u → w.cell? (ad.add (i.toNat * 5 + j)) = some u := hc0
 obtain rfl := k60_open hK
 exact ⟨ad, e, hc 0 _ rfl, by rw [← add_field _ _ 1 (by omega)]; exact hc 1 _ rfl, by rw [← add_field _ _ 2 (by omega)]; exact hc 2 _ rfl, by rw [← add_field _ _ 3 (by omega)]; exact hc 3 _ rfl, by rw [← add_field _ _ 4 (by omega)]; exact hc 4 _ rfl⟩
def rd_L4 (xs : List (List S60)) (i : Int) : (List S60) := xs.getD i.toNat ([] : List S60)
theorem at_L4 {w : World} {A : Option Addr} {n : Nat} {xs : List (List S60)} (h : Kd.C (Kd.slice 60 k60) w A n xs) (i : Int) (h0 : 0 ≤ i) (h1 : i < n) : ∃ ad A0 c0, A = some ad ∧ w.cell? (ad.add i.toNat) = some (.slice A0 (rd_L4 xs i).length c0) ∧ (rd_L4 xs i).length ≤ c0 ∧ k60.C w A0 (rd_L4 xs i).length (rd_L4 xs i) := by
 obtain ⟨ad, c, e, _, hK, hc0⟩ := Kd.C_get h ([] : List S60) i h0 h1
 have hc : ∀ j u, c[j]? = some u → w.cell? (ad.add (i.toNat * 1 + j)) = some u := hc0
 obtain ⟨A0, c0, rfl, l0, g0⟩ := hK
 exact ⟨ad, A0, c0, e, by have hq := hc 0 _ rfl; rwa [Nat.mul_one, Nat.add_zero] at hq, l0, g0⟩
structure S38 where
 f0 : (List S60)
 f1 : Bool
def z38 : S38 := ⟨([] : List S60), false⟩
def k38 : Kd S38 := Kd.iso (Kd.pair (Kd.slice 60 k60) Kd.bool) (fun x : S38 => (x.f0, x.f1))
theorem k38_open {w : World} {x : S38} {cs : List Value} (h : k38.K w x cs) : ∃ A0 c0, cs = [.slice A0 x.f0.length c0, .bool x.f1] ∧ x.f0.length ≤ c0 ∧ k60.C w A0 x.f0.length x.f0 := by
 obtain ⟨_, _, rfl, ⟨A0, c0, rfl, l0, g0⟩, rfl⟩ := h
 exact ⟨A0, c0, rfl, l0, g0⟩
theorem k38_mk (w : World) (x : S38) {A0 : Option Addr} {c0 : Nat} (l0 : x.f0.length ≤ c0) (g0 : k60.C w A0 x.f0.length x.f0) : k38.K w x [.slice A0 x.f0.length c0, .bool x.f1] := ⟨[.slice A0 x.f0.length c0], [.bool x.f1], rfl, ⟨A0, c0, rfl, l0, g0⟩, rfl⟩
theorem k38_mkM (w : World) (base : Nat) (ok : Nat → Prop) (x : S38) {v0 : Value} (g0 : k60.R 60 w base ok v0 x.f0) : k38.M w base ok x [v0, .bool x.f1] := ⟨[v0], [.bool x.f1], rfl, ⟨v0, rfl, g0⟩, rfl⟩
theorem k38_openF {W : World} {ok : Nat → Prop} {x : S38} {cs : List Value} (h : Kd.FK k38 W ok x cs) : ∃ A0 c0, cs = [.slice A0 x.f0.length c0, .bool x.f1] ∧ x.f0.length ≤ c0 ∧ Kd.F k60 W ok A0 x.f0.length x.f0 := by
 obtain ⟨A0, c0, rfl, l0, _⟩ := k38_open (Kd.FK_now h)
 exact ⟨A0, c0, rfl, l0, (fun W' hW => by obtain ⟨A0_, c0_, he, l0_, g0_⟩ := k38_open (h W' hW); injection (Option.some.inj (show some (Value.slice A0 x.f0.length c0) = some (Value.slice A0_ x.f0.length c0_) from congrArg (fun l => l[0]?) he)) with ha_ _ _; rw [ha_]; exact g0_)⟩
theorem k38_mkF (W : World) (ok : Nat → Prop) (x : S38) {A0 : Option Addr} {c0 : Nat} (l0 : x.f0.length ≤ c0) (g0 : Kd.F k60 W ok A0 x.f0.length x.f0) : Kd.FK k38 W ok x [.slice A0 x.f0.length c0, .bool x.f1] := fun W2 hW => k38_mk W2 x l0 (g0 W2 hW)
def rd_T38 (xs : List S38) (i : Int) : S38 := xs.getD i.toNat z38
theorem at_T38 {w : World} {A : Option Addr} {n : Nat} {xs : List S38} (h : Kd.C k38 w A n xs) (i : Int) (h0 : 0 ≤ i) (h1 : i < n) : ∃ ad A0 c0, A = some ad ∧ w.cell? (ad.add (i.toNat * 2)) = some (.slice A0 (rd_T38 xs i).f0.length c0) ∧ w.cell? ⟨(ad.add (i.toNat * 2)).block, (ad.add (i.toNat * 2)).off + 1, none⟩ = some (.bool (rd_T38 xs i).f1) ∧ (rd_T38 xs i).f0.length ≤ c0 ∧ k60.C w A0 (rd_T38 xs i).f0.length (rd_T38 xs i).f0 := by
 obtain ⟨ad, c, e, _, hK, hc0⟩ := Kd.C_get h z38 i h0 h1
 have hc : ∀ j u, c[j]? = some u → w.cell? (ad.add (i.toNat * 2 + j)) = some u := hc0
 obtain ⟨A0, c0, rfl, l0, g0⟩ := k38_open hK
 exact ⟨ad, A0, c0, e, hc 0 _ rfl, by rw [← add_field _ _ 1 (by omega)]; exact hc 1 _ rfl, l0, g0⟩
def rd_L7 (xs : List (List S38)) (i : Int) : (List S38) := xs.getD i.toNat ([] : List S38)
structure S100 where
 f0 : Int
 f1 : (List S38)
def z100 : S100 := ⟨(0 : Int), ([] : List S38)⟩
def k100 : Kd S100 := Kd.iso (Kd.pair (Kd.int .i64) (Kd.slice 38 k38)) (fun x : S100 => (x.f0, x.f1))
def rd_T100 (xs : List S100) (i : Int) : S100 := xs.getD i.toNat z100
def rd_L9 (xs : List (List ByteArray)) (i : Int) : (List ByteArray) := xs.getD i.toNat ([] : List ByteArray)
end Go.Proofs.YtckkdaehmccjlaaDoor.P
namespace Go.Proofs.YtckkdaehmccjlaaDoor.P
open Go.RowKit Go.Proofs.YtckkdaehmccjlaaDoorW.PrintWords Go.Proofs.YtckkdaehmccjlaaDoorW.PrintLast Go.Proofs.YtckkdaehmccjlaaDoorW.PrintMore
structure Tabs (w : World) : Prop where
 utf8 : Lib.Utf8Tabs 0 1 w
theorem Tabs.below {w W : World} (h : Tabs w) (hb : Below w.heap.size w W) : Tabs W :=
 ⟨⟨fun c hc => pw_cell_below hb (h.utf8.1 c hc), fun i hi => ⟨pw_cell_below hb (h.utf8.2 i hi).1, pw_cell_below hb (h.utf8.2 i hi).2⟩⟩⟩
theorem Tabs.keepA {w W : World} (h : Aside0 (Tabs w)) (hb : Below w.heap.size w W) : Tabs W := h.out.below hb
end Go.Proofs.YtckkdaehmccjlaaDoor.P
namespace Go.Proofs.YtckkdaehmccjlaaDoor.P
open Go.RowKit Go.Proofs.YtckkdaehmccjlaaDoorW.PrintWords Go.Proofs.YtckkdaehmccjlaaDoorW.PrintLast Go.Proofs.YtckkdaehmccjlaaDoorW.PrintMore
set_option linter.unusedVariables false
section
variable {H : Type} {enc : TypeId × Value → H} {P : Program} {w : World} {base : Nat} {spare : Nat → Bool} {held : Bool}
theorem list_of {α : Type} {p : Nat → α → Prop} : ∀ (n : Nat), (∀ i, i < n → ∃ x, p i x) → ∃ xs : List α, xs.length = n ∧ ∀ j x, xs[j]? = some x → p j x
 | 0, _ => ⟨[], rfl, fun j x h => by simp at h⟩
 | n + 1, h => by
  obtain ⟨xs, hl, hx⟩ := list_of n (fun i hi => h i (by omega))
  obtain ⟨z, hz⟩ := h n (by omega)
  refine ⟨xs ++ [z], by simp [hl], fun j x hj => ?_⟩
  rcases Nat.lt_or_ge j xs.length with h' | h'
  ·rw [List.getElem?_append_left h'] at hj; exact hx j x hj
  ·have hj' : j = n := by have := (List.getElem?_eq_some_iff.1 hj).1; simp at this; omega
   subst hj'
   rw [← hl] at hj
   simp at hj
   subst hj; exact hz
theorem C_of_trod {α : Type} {d : Kd α} {t e : TypeId} {fuel : Nat} {A : Option Addr} {n c : Nat} {y : DataW H × List MemPlace} (ht : P.underlying t = some (.slice e)) (hs : P.cellsOf e = d.sz)
  (hK : ∀ fuel cs y, DataW.trod enc P w base spare held fuel e cs = some y → ∃ x, d.K w x cs) (h : DataW.trod enc P w base spare held fuel t [.slice A n c] = some y) :
  ∃ xs : List α, xs.length = n ∧ n ≤ c ∧ d.C w A n xs := by
 rcases Go.Deep.open_slice ht h with ⟨h0, _⟩ | ⟨a, len, cap, m, f, D, Pl, h0, _, hl, hm, hmm, _, hx⟩
 ·cases h0
  exact ⟨[], rfl, Nat.le_refl _, rfl, by omega, fun h => absurd h (by omega)⟩
 ·cases h0
  have hle : n ≤ m := by rw [hmm]; split <;> omega
  obtain ⟨xs, hlen, hxs⟩ := list_of (p := fun i (x : α) => ∃ cs, w.cells? base (a.add (i * P.cellsOf e)) (P.cellsOf e) = some cs ∧ d.K w x cs) n (fun i hi => by
   obtain ⟨cs, h1, h2⟩ := hx i (by omega)
   obtain ⟨x, hk⟩ := hK _ _ _ h2
   exact ⟨x, cs, h1, hk⟩)
  refine ⟨xs, hlen, hl, hlen, by have : maxLen = 9223372036854775807 := rfl; omega, fun _ => ⟨a, rfl, fun j x hj => ?_⟩⟩
  obtain ⟨cs, h1, hk⟩ := hxs j x hj
  obtain ⟨_, h2, h3⟩ := World.cells?_some h1
  refine ⟨cs, by rw [← hs]; exact h2, hk, fun i u hu => ?_⟩
  have hi : i < P.cellsOf e := by rw [← h2]; exact (List.getElem?_eq_some_iff.1 hu).1
  have := h3 i hi
  rw [Go.Deep.add_add, hs] at this
  rw [this, hu]
end
section
variable {H : Type} {enc : TypeId × Value → H} {w : World} {base : Nat} {spare : Nat → Bool} {held : Bool}
theorem cells1_of {cs : List Value} {o n : Nat} {v : Value} (h : (cs.drop o).take n = [v]) : cs[o]? = some v := by
 have := congrArg (fun l => l[0]?) h
 simp only [List.getElem?_cons_zero, List.getElem?_take] at this
 split at this
 ·rw [List.getElem?_drop] at this; simpa using this
 ·cases this
theorem cells3_of {cs : List Value} {o n : Nat} {a b c : Value} (h : (cs.drop o).take n = [a, b, c]) : cs[o]? = some a ∧ cs[o + 1]? = some b ∧ cs[o + 2]? = some c := by
 have h3 : 3 ≤ n := by have := congrArg List.length h; simp at this; omega
 refine ⟨?_, ?_, ?_⟩
 ·have := congrArg (fun l => l[0]?) h
  simp only [List.getElem?_take, List.getElem?_drop] at this
  rw [if_pos (by omega)] at this; simpa using this
 ·have := congrArg (fun l => l[1]?) h
  simp only [List.getElem?_take, List.getElem?_drop] at this
  rw [if_pos (by omega)] at this; simpa using this
 ·have := congrArg (fun l => l[2]?) h
  simp only [List.getElem?_take, List.getElem?_drop] at this
  rw [if_pos (by omega)] at this; simpa using this
theorem len_two {cs : List Value} (h : cs.length = 2) : ∃ a b, cs = [a, b] := by
 match cs, h with
 | [a, b], _ => exact ⟨a, b, rfl⟩
theorem cs_five {cs : List Value} {a b c d e : Value} (hl : cs.length = 5) (h0 : cs[0]? = some a) (h1 : cs[1]? = some b) (h2 : cs[2]? = some c) (h3 : cs[2 + 1]? = some d) (h4 : cs[2 + 2]? = some e) : cs = [a, b, c, d, e] := by
 match cs, hl with
 | [x, y, z, u, v], _ => cases h0; cases h1; cases h2; cases h3; cases h4; rfl
theorem cs_three {cs : List Value} {a b c : Value} (hl : cs.length = 3) (h0 : cs[0]? = some a) (h1 : cs[1]? = some b) (h2 : cs[2]? = some c) : cs = [a, b, c] := by
 match cs, hl with
 | [x, y, z], _ => cases h0; cases h1; cases h2; rfl
theorem attr_of_trod (fuel : Nat) (cs : List Value) (y : DataW H × List MemPlace) (h : DataW.trod enc Tryd.prog w base spare held fuel 58 cs = some y) : ∃ x, k58.K w x cs := by
 obtain ⟨y0, y1, y2, n, _, hl, h0, h1, h2⟩ := Go.Deep.trod_struct3 Tryd.underlying58 h
 obtain ⟨a, e0, _⟩ := DataW.trod_int Tryd.underlying3 h0
 obtain ⟨b, e1, _⟩ := DataW.trod_int Tryd.underlying3 h1
 obtain ⟨c, e2, _⟩ := DataW.trod_int Tryd.underlying3 h2
 have hl : cs.length = 3 := hl.trans (by kernel_rfl)
 rw [cs_three hl (cells1_of e0) (cells1_of e1) (cells1_of e2)]
 exact ⟨⟨a, b, c⟩, k58_mk w ⟨a, b, c⟩⟩
theorem cell_of_trod (fuel : Nat) (cs : List Value) (y : DataW H × List MemPlace) (h : DataW.trod enc Tryd.prog w base spare held fuel 60 cs = some y) : ∃ x, k60.K w x cs := by
 obtain ⟨y0, y1, y2, n, _, hl, h0, h1, h2⟩ := Go.Deep.trod_struct3 Tryd.underlying60 h
 obtain ⟨s, e0, _⟩ := DataW.trod_string Tryd.underlying9 h0
 obtain ⟨b, e1, _⟩ := DataW.trod_int Tryd.underlying3 h1
 obtain ⟨x, hk⟩ := attr_of_trod _ _ _ h2
 have hl : cs.length = 5 := hl.trans (by kernel_rfl)
 have c0 := cells1_of e0
 have c1 := cells1_of e1
 obtain ⟨d0, d1, d2⟩ := cells3_of (k58_open hk)
 rw [cs_five hl c0 c1 d0 d1 d2]
 exact ⟨⟨s, b, x⟩, k60_mk w ⟨s, b, x⟩⟩
set_option maxRecDepth 100000 in
theorem line_of_trod (fuel : Nat) (cs : List Value) (y : DataW H × List MemPlace) (h : DataW.trod enc Tryd.prog w base spare held fuel 38 cs = some y) : ∃ x, k38.K w x cs := by
 obtain ⟨y0, y1, n, _, hl, h0, h1⟩ := Go.ChangeShapes.trod_struct2 Tryd.underlying38 h
 obtain ⟨b, e1, _⟩ := DataW.trod_bool Tryd.underlying4 h1
 have hl : cs.length = 2 := hl.trans (by kernel_rfl)
 obtain ⟨v0, v1, rfl⟩ := len_two hl
 ·have e2 : v1 = .bool b := by have := cells1_of e1; exact Option.some.inj this
  subst e2
  have hv : ∃ A n c, v0 = .slice A n c := by
   rcases Go.Deep.open_slice Tryd.underlying36 h0 with ⟨e, _⟩ | ⟨a, len, cap, m, f, D, Pl, e, _⟩
   ·exact ⟨_, _, _, by have := cells1_of e; simpa using this⟩
   ·exact ⟨_, _, _, by have := cells1_of e; simpa using this⟩
  obtain ⟨A, n, c, rfl⟩ := hv
  obtain ⟨xs, hx, hc, hC⟩ := C_of_trod (d := k60) Tryd.underlying36 (by kernel_rfl) (fun f cs y h => cell_of_trod f cs y h) (show DataW.trod enc Tryd.prog w base spare held _ 36 [.slice A n c] = _ from h0)
  subst hx
  exact ⟨⟨xs, b⟩, [.slice A xs.length c], [.bool b], rfl, ⟨A, c, rfl, hc, hC⟩, rfl⟩
set_option maxRecDepth 100000 in
theorem lines_of_trod {fuel : Nat} {A : Option Addr} {n c : Nat} {y : DataW H × List MemPlace} (h : DataW.trod enc Tryd.prog w base spare held fuel 22 [.slice A n c] = some y) : ∃ xs : List S38, xs.length = n ∧ n ≤ c ∧ Kd.C k38 w A n xs :=
 C_of_trod (d := k38) Tryd.underlying22 (by kernel_rfl) (fun f cs y h => line_of_trod f cs y h) h
end
end Go.Proofs.YtckkdaehmccjlaaDoor.P
namespace Go.Proofs.YtckkdaehmccjlaaDoor.P
open Go.RowKit Go.Proofs.YtckkdaehmccjlaaDoorW.PrintWords Go.Proofs.YtckkdaehmccjlaaDoorW.PrintLast Go.Proofs.YtckkdaehmccjlaaDoorW.PrintMore
attribute [local go_sem] max2_int min2_int max_two min_two max_three min_three max_four min_four   -- for this text's walks alone
set_option linter.unusedVariables false
set_option linter.unusedSimpArgs false
def backseatlaw08_cells.l0 : Nat → List (S60) → List (S60) → Int → Int → Option ((List (S60)))
 | 0, _, _, _, _ => none
 | k + 1, x5, x13, x14, x15 => if x15 < x14 then (if 0 ≤ x15 then (if x15 < (x13.length : Int) then (if 0 ≤ (mn (((rd_T60 x13 x15).f0).size : Int) 20) then (if (mn (((rd_T60 x13 x15).f0).size : Int) 20) ≤ (((rd_T60 x13 x15).f0).size : Int) then (if x5.length < 2932031007402 then (backseatlaw08_cells.l0 k (x5 ++ [(⟨((rd_T60 x13 x15).f0).extract 0 ((mn (((rd_T60 x13 x15).f0).size : Int) 20) : Int).toNat, (rd_T60 x13 x15).f1, (⟨(rd_T60 x13 x15).f2.f0, (rd_T60 x13 x15).f2.f1, (rd_T60 x13 x15).f2.f2⟩ : S58)⟩ : S60)]) x13 x14 (wrap64 (x15 + 1))) else (none)) else (none)) else (none)) else (none)) else (none)) else (some x5)
def backseatlaw08_cells.f (k : Nat) (l0 : List (S60)) (a1 : Int) : Option ((List (S60))) := if 0 ≤ (mn (l0.length : Int) a1) then (if (mn (l0.length : Int) a1) ≤ (l0.length : Int) then ((some (l0.take ((mn (l0.length : Int) a1) : Int).toNat : List (S60))).bind fun y421 => (backseatlaw08_cells.l0 k ([] : List (S60)) y421 (y421.length : Int) 0)) else (none)) else (none)
set_option maxHeartbeats 8000000 in
set_option maxRecDepth 100000 in
theorem backseatlaw08_cells.calls (k : Nat) (A0 : Option Addr) (c0 : Nat) (l0 : List (S60)) (a1 : Int) (r : List (S60)) (w : World) (hr0 : Kd.C k60 w A0 l0.length l0) (hc0 : l0.length ≤ c0) (h : backseatlaw08_cells.f k l0 a1 = some r) :
  Calls Tryd.prog 24 #[.slice A0 l0.length c0, .int .i64 a1] w fun e w' => ∃ v0_ : Value, e = .returned (v0_) ∧ Kd.R k60 60 w' w.heap.size (fun _ => True) v0_ r ∧ Below w.heap.size w w' := by
 have hu60 := Tryd.underlying60
 have HR0 := Aside0.mk hr0
 have HC0 := Aside0.mk hc0
 clear hr0 hc0
 have HB := Aside0.mk (Below.refl w.heap.size w)
 have H : (if 0 ≤ (mn (l0.length : Int) a1) then (if (mn (l0.length : Int) a1) ≤ (l0.length : Int) then ((some (l0.take ((mn (l0.length : Int) a1) : Int).toNat : List (S60))).bind fun y421 => (backseatlaw08_cells.l0 k ([] : List (S60)) y421 (y421.length : Int) 0)) else (none)) else (none)) = some r := h
 clear h
 obtain ⟨ji3, hji3⟩ : ∃ j_ : Int, (mn (l0.length : Int) a1) = j_ := ⟨_, rfl⟩
 replace H : (if 0 ≤ (ji3) then (if (ji3) ≤ (l0.length : Int) then ((some (l0.take ((ji3) : Int).toNat : List (S60))).bind fun y421 => (backseatlaw08_cells.l0 k ([] : List (S60)) y421 (y421.length : Int) 0)) else (none)) else (none)) = some r := by first | (rw [hji3] at H; exact H) | (simp only [hji3] at H ⊢; exact H)
 have hji3_ : (if a1 < (l0.length : Int) then a1 else (l0.length : Int)) = ji3 := hji3
 by_cases c4 : 0 ≤ (ji3)
 ·rw [if_pos c4] at H
  have c4b0 := eq_true c4
  have c4b1 : decide (0 ≤ (ji3)) = true := decide_eq_true c4
  clear c4
  by_cases c5 : (ji3) ≤ (l0.length : Int)
  ·rw [if_pos c5] at H
   have c5b0 := eq_true c5
   have c5b1 : decide ((ji3) ≤ (l0.length : Int)) = true := decide_eq_true c5
   clear c5
   obtain ⟨y421, hy421⟩ : ∃ y_ : List (S60), y_ = (l0.take ((ji3) : Int).toNat) := ⟨_, rfl⟩
   replace H : (backseatlaw08_cells.l0 k ([] : List (S60)) y421 (y421.length : Int) 0) = some r := by first | (rw [hy421]; with_reducible exact H) | (have H2_ := (Option.bind_some _ _).symm.trans H; rw [hy421]; with_reducible exact H2_) | (have H2_ := (Option.bind_some _ _).symm.trans H; with_reducible exact H2_) | with_reducible exact H | (rw [hy421]; exact H) | exact H
   have Ny421 := Aside0.mk hy421
   clear hy421
   have H' := Aside0.mk H
   clear H
   have q6 : ((ji3) : Int) ≤ ((l0.length : Int) : Int) := of_decide_eq_true za
   obtain ⟨i06, hi06, _, hsz6, _⟩ := info_parts info60
   have hroom6 : l0.length ≤ c0 := HC0.out
   have hC6 : Kd.C k60 _ A0 l0.length l0 := HR0.out
   have hcut6 := cut_to (P := Tryd.prog) 36 60 .i64 Tryd.underlying36 hi06 A0 l0.length c0 (ji3) (of_decide_eq_true za) q6 hroom6
   have hr6 := Kd.C_take (m := ((ji3) : Int).toNat) hC6 (by omega)
   have hy6 : y421.length = ((ji3) : Int).toNat := (by rw [Ny421.out, List.length_take]; omega)
   rw [← Ny421.out] at hr6
   rw [← hy6] at hcut6
   have HR424 := Aside0.mk hr6
   have HC424 := Aside0.mk (show y421.length ≤ c0 from by omega)
   clear hr6 hC6 hroom6 hi06 hsz6
   have KY6 := Aside0.mk hy6
   clear hy6
   replace q6 := eq_true q6
   go_enter Tryd.func24, Tryd.ntmps24
   go_wp2
   go_loopg [5, 15] k (fun kq v5 v15 w' => ∃ (x5_1 : List (S60)) (x15_1 : Int), v15 = .int .i64 x15_1 ∧ Aside0 (backseatlaw08_cells.l0 kq x5_1 y421 (y421.length : Int) x15_1 = some r) ∧ Aside0 (kq ≤ k) ∧ Aside0 (Kd.R k60 60 w' w.heap.size (fun _ => True) v5 x5_1) ∧ Aside0 (Below w.heap.size w w'))
   case atStart => exact ⟨(([] : List (S60))), (0), zf, H', ⟨Nat.le_refl _⟩, ⟨by first | exact Kd.R_nil _ _ _ _ _ | exact Kd.N_nil _ _ _ _ _ | exact Kd.V_nil _ _ _ _ _ | exact Kd.Q_nil _ _ _ _ _ | exact Kd.S_nil _ _ _ _ _⟩, ⟨zb⟩⟩
   case round =>
    clear H'
    try clear c4
    try clear c4b0
    try clear c4b1
    try clear c5
    try clear c5b0
    try clear c5b1
    try clear q6
    try clear q6
    obtain ⟨x5_1, x15_1, rfl, HA, HK1, HO_5, HB⟩ := hrel
    cases gk with
    | zero => exact absurd HA.out (by simp [backseatlaw08_cells.l0])
    | succ k1 =>
     have H := HA.out
     clear HA
     simp only [backseatlaw08_cells.l0] at H
     by_cases c7 : x15_1 < (y421.length : Int)
     ·rw [if_pos c7] at H
      have c7b0 : decide (x15_1 < (y421.length : Int)) = true := decide_eq_true c7
      clear c7
      by_cases c8 : 0 ≤ x15_1
      ·rw [if_pos c8] at H
       have c8b0 : decide (0 ≤ x15_1) = true := decide_eq_true c8
       clear c8
       by_cases c9 : x15_1 < (y421.length : Int)
       ·rw [if_pos c9] at H
        have c9b0 : decide (x15_1 < (y421.length : Int)) = true := decide_eq_true c9
        clear c9
        obtain ⟨ji10, hji10⟩ : ∃ j_ : Int, (mn (((rd_T60 y421 x15_1).f0).size : Int) 20) = j_ := ⟨_, rfl⟩
        replace H : (if 0 ≤ (ji10) then (if (ji10) ≤ (((rd_T60 y421 x15_1).f0).size : Int) then (if x5_1.length < 2932031007402 then (backseatlaw08_cells.l0 k1 (x5_1 ++ [(⟨((rd_T60 y421 x15_1).f0).extract 0 ((ji10) : Int).toNat, (rd_T60 y421 x15_1).f1, (⟨(rd_T60 y421 x15_1).f2.f0, (rd_T60 y421 x15_1).f2.f1, (rd_T60 y421 x15_1).f2.f2⟩ : S58)⟩ : S60)]) y421 (y421.length : Int) (wrap64 (x15_1 + 1))) else (none)) else (none)) else (none)) = some r := by first | (rw [hji10] at H; exact H) | (simp only [hji10] at H ⊢; exact H)
        have hji10_ : (if 20 < (((rd_T60 y421 x15_1).f0).size : Int) then 20 else (((rd_T60 y421 x15_1).f0).size : Int)) = ji10 := hji10
        by_cases c11 : 0 ≤ (ji10)
        ·rw [if_pos c11] at H
         have c11b0 := eq_true c11
         have c11b1 : decide (0 ≤ (ji10)) = true := decide_eq_true c11
         clear c11
         by_cases c12 : (ji10) ≤ (((rd_T60 y421 x15_1).f0).size : Int)
         ·rw [if_pos c12] at H
          have c12b0 := eq_true c12
          have c12b1 : decide ((ji10) ≤ (((rd_T60 y421 x15_1).f0).size : Int)) = true := decide_eq_true c12
          clear c12
          by_cases c13 : x5_1.length < 2932031007402
          ·rw [if_pos c13] at H
           have LMc13 := Aside0.mk c13
           clear c13
           obtain ⟨y427, hy427⟩ : ∃ y_ : List (S60), y_ = (x5_1 ++ [(⟨((rd_T60 y421 x15_1).f0).extract 0 ((ji10) : Int).toNat, (rd_T60 y421 x15_1).f1, (⟨(rd_T60 y421 x15_1).f2.f0, (rd_T60 y421 x15_1).f2.f1, (rd_T60 y421 x15_1).f2.f2⟩ : S58)⟩ : S60)]) := ⟨_, rfl⟩
           replace H : (backseatlaw08_cells.l0 k1 y427 y421 (y421.length : Int) (wrap64 (x15_1 + 1))) = some r := by first | (rw [hy427]; with_reducible exact H) | (have H2_ := (Option.bind_some _ _).symm.trans H; rw [hy427]; with_reducible exact H2_) | (have H2_ := (Option.bind_some _ _).symm.trans H; with_reducible exact H2_) | with_reducible exact H | (rw [hy427]; exact H) | exact H
           have Ny427 := Aside0.mk hy427
           clear hy427
           have H' := Aside0.mk H
           clear H
           have p425 : 0 ≤ (x15_1 : Int) := of_decide_eq_true za
           have q425 : x15_1 < (y421.length : Int) := of_decide_eq_true za
           obtain ⟨ad425, e425, hx425_0, hx425_1, hx425_2, hx425_3, hx425_4⟩ := at_T60 HR424.out x15_1 p425 q425
           cases e425
           replace hx425_0 := zc HB hx425_0
           replace hx425_1 := zc HB hx425_1
           replace hx425_2 := zc HB hx425_2
           replace hx425_3 := zc HB hx425_3
           replace hx425_4 := zc HB hx425_4
           replace p425 := eq_true p425
           replace q425 := eq_true q425
           go_wp2_with (first | ((with_reducible refine gate_dst (N := 7) rfl ?_); refine box_event ?hg (N := 7) ?hd (cs := #[.string (⟨#[]⟩ : ByteArray), .int .i64 0, .int .i64 0, .int .i64 0, .int .i64 0]) (t := 60) ?hr ?_; (case hd => rfl); (case hg => rfl); (case hr => exact zo); intro gb426 hg w14 hbox hb; replace HO_5 := Aside0.mk (Kd.R_below (Kd.R_elderB (zRa HO_5) gb426 (Nat.le_of_eq hg.symm)) hb); have BK426 := Aside0.mk (hbox); have GW426 := Aside0.mk ((zg hg : w.heap.size ≤ gb426)); have GE426 := Aside0.mk ((zg hg : w.heap.size ≤ gb426)); replace HB := (zs HB hb); clear hb hbox hg; obtain ⟨hcz15_0, hcz15_1, hcz15_2, hcz15_3, hcz15_4, hfz15_0, hfz15_1, hfz15_2, hfz15_3, hfz15_4⟩ := zq5 (w := w14) BK426) | ((with_reducible refine gate_builtin (b := .append) (xs := #[.tmp 27, .tmp 29]) rfl ?_); at_builtin; refine Kd.R_append k60 (w0 := w) w.heap.size rfl (.tmp 27) (.tmp 29) 36 60 (.agg #[(.string ⟨#[]⟩), (.int .i64 0), (.int .i64 0), (.int .i64 0), (.int .i64 0)]) 48 rfl Tryd.underlying36 info60 rfl (by decide) (by omega) u5 x5_1 (⟨((rd_T60 y421 x15_1).f0).extract 0 ((ji10) : Int).toNat, (rd_T60 y421 x15_1).f1, (⟨(rd_T60 y421 x15_1).f2.f0, (rd_T60 y421 x15_1).f2.f1, (rd_T60 y421 x15_1).f2.f2⟩ : S58)⟩ : S60) [.string (((rd_T60 y421 x15_1).f0).extract 0 ((ji10) : Int).toNat), .int .i64 ((rd_T60 y421 x15_1).f1), .int .i64 ((rd_T60 y421 x15_1).f2.f0), .int .i64 ((rd_T60 y421 x15_1).f2.f1), .int .i64 ((rd_T60 y421 x15_1).f2.f2)] (fun k_ => k_ ≠ gb426) (fun _ => False) rfl (by first | (go_simp; done) | (go_simp; rfl)) ?aP (fun _ hk => hk.elim) ?aF ?aO ?aB ?aS ?aL ?_; (case aP => exact k60_mkM _ _ _ (⟨((rd_T60 y421 x15_1).f0).extract 0 ((ji10) : Int).toNat, (rd_T60 y421 x15_1).f1, (⟨(rd_T60 y421 x15_1).f2.f0, (rd_T60 y421 x15_1).f2.f1, (rd_T60 y421 x15_1).f2.f2⟩ : S58)⟩ : S60)); (case aB => exact zb); (case aF => exact (fun k_ hk => Kd.freshB (g := gb426) (o := .cells #[.string (((rd_T60 y421 x15_1).f0).extract 0 ((ji10) : Int).toNat), .int .i64 ((rd_T60 y421 x15_1).f1), .int .i64 ((rd_T60 y421 x15_1).f2.f0), .int .i64 ((rd_T60 y421 x15_1).f2.f1), .int .i64 ((rd_T60 y421 x15_1).f2.f2)] 60 (0, 0)) (by refine blk_put (cs := #[.string ((rd_T60 y421 x15_1).f0), .int .i64 ((rd_T60 y421 x15_1).f1), .int .i64 ((rd_T60 y421 x15_1).f2.f0), .int .i64 ((rd_T60 y421 x15_1).f2.f1), .int .i64 ((rd_T60 y421 x15_1).f2.f2)]) ?_ 0 _ rfl; refine blk_put (cs := #[.string ((rd_T60 y421 x15_1).f0), .int .i64 ((rd_T60 y421 x15_1).f1), .int .i64 ((rd_T60 y421 x15_1).f2.f0), .int .i64 ((rd_T60 y421 x15_1).f2.f1), .int .i64 0]) ?_ 4 _ rfl; refine blk_put (cs := #[.string ((rd_T60 y421 x15_1).f0), .int .i64 ((rd_T60 y421 x15_1).f1), .int .i64 ((rd_T60 y421 x15_1).f2.f0), .int .i64 0, .int .i64 0]) ?_ 3 _ rfl; refine blk_put (cs := #[.string ((rd_T60 y421 x15_1).f0), .int .i64 ((rd_T60 y421 x15_1).f1), .int .i64 0, .int .i64 0, .int .i64 0]) ?_ 2 _ rfl; refine blk_put (cs := #[.string ((rd_T60 y421 x15_1).f0), .int .i64 0, .int .i64 0, .int .i64 0, .int .i64 0]) ?_ 1 _ rfl; refine blk_put (cs := #[.string (⟨#[]⟩ : ByteArray), .int .i64 0, .int .i64 0, .int .i64 0, .int .i64 0]) ?_ 0 _ rfl; exact BK426.out) k_ hk)); (case aO => exact (by (with_reducible repeat (first | apply Kd.R_alloc | apply Kd.R_drewN | apply Kd.R_drew)); exact Kd.R_mono (Kd.R_far (p := ⟨gb426, 0, none⟩) (Kd.R_far (p := ⟨gb426, 4, none⟩) (Kd.R_far (p := ⟨gb426, 3, none⟩) (Kd.R_far (p := ⟨gb426, 2, none⟩) (Kd.R_far (p := ⟨gb426, 1, none⟩) (Kd.R_far (p := ⟨gb426, 0, none⟩) (Kd.R_mono HO_5.out (fun k_ hk => (⟨hk, hk.2⟩ : _ ∧ k_ ≠ gb426))) (fun _ hk => hk.2) (.string ((rd_T60 y421 x15_1).f0))) (fun _ hk => hk.2) (.int .i64 ((rd_T60 y421 x15_1).f1))) (fun _ hk => hk.2) (.int .i64 ((rd_T60 y421 x15_1).f2.f0))) (fun _ hk => hk.2) (.int .i64 ((rd_T60 y421 x15_1).f2.f1))) (fun _ hk => hk.2) (.int .i64 ((rd_T60 y421 x15_1).f2.f2))) (fun _ hk => hk.2) (.string (((rd_T60 y421 x15_1).f0).extract 0 ((ji10) : Int).toNat))) (fun _ hk => hk.1.2))); (case aS => exact (below_size zb)); (case aL => have := LMc13.out; omega); intro v428 w16 ho hb hg hat; rw [← Ny427.out] at ho; have n0_ := Aside0.mk (blk_grown (g := gb426) (o := .cells #[.string (((rd_T60 y421 x15_1).f0).extract 0 ((ji10) : Int).toNat), .int .i64 ((rd_T60 y421 x15_1).f1), .int .i64 ((rd_T60 y421 x15_1).f2.f0), .int .i64 ((rd_T60 y421 x15_1).f2.f1), .int .i64 ((rd_T60 y421 x15_1).f2.f2)] 60 (0, 0)) (by refine blk_put (cs := #[.string ((rd_T60 y421 x15_1).f0), .int .i64 ((rd_T60 y421 x15_1).f1), .int .i64 ((rd_T60 y421 x15_1).f2.f0), .int .i64 ((rd_T60 y421 x15_1).f2.f1), .int .i64 ((rd_T60 y421 x15_1).f2.f2)]) ?_ 0 _ rfl; refine blk_put (cs := #[.string ((rd_T60 y421 x15_1).f0), .int .i64 ((rd_T60 y421 x15_1).f1), .int .i64 ((rd_T60 y421 x15_1).f2.f0), .int .i64 ((rd_T60 y421 x15_1).f2.f1), .int .i64 0]) ?_ 4 _ rfl; refine blk_put (cs := #[.string ((rd_T60 y421 x15_1).f0), .int .i64 ((rd_T60 y421 x15_1).f1), .int .i64 ((rd_T60 y421 x15_1).f2.f0), .int .i64 0, .int .i64 0]) ?_ 3 _ rfl; refine blk_put (cs := #[.string ((rd_T60 y421 x15_1).f0), .int .i64 ((rd_T60 y421 x15_1).f1), .int .i64 0, .int .i64 0, .int .i64 0]) ?_ 2 _ rfl; refine blk_put (cs := #[.string ((rd_T60 y421 x15_1).f0), .int .i64 0, .int .i64 0, .int .i64 0, .int .i64 0]) ?_ 1 _ rfl; refine blk_put (cs := #[.string (⟨#[]⟩ : ByteArray), .int .i64 0, .int .i64 0, .int .i64 0, .int .i64 0]) ?_ 0 _ rfl; exact BK426.out) hg (Kd.R_away HO_5.out (fun _ hk => hk.2))); have n1_ := Aside0.mk (hb); have n2_ := Aside0.mk (ho); clear BK426; clear HB; clear HO_5; have BK426 := n0_; have HB := n1_; have HO429 := n2_; clear n0_ n1_ n2_; clear ho hb hg hat))
           go_roundg k1
           case measure => have := HK1.out; omega
           case rel => exact ⟨(y427), (wrap64 (x15_1 + 1)), zf, H', ⟨by have := HK1.out; omega⟩, ⟨by (with_reducible repeat (first | apply Kd.R_alloc | apply Kd.R_drewN | apply Kd.R_drew)); exact Kd.R_mono HO429.out (fun _ hk => trivial)⟩, ⟨zb⟩⟩
          ·rw [if_neg c13] at H
           exact absurd H (by simp)
         ·rw [if_neg c12] at H
          exact absurd H (by simp)
        ·rw [if_neg c11] at H
         exact absurd H (by simp)
       ·rw [if_neg c9] at H
        exact absurd H (by simp)
      ·rw [if_neg c8] at H
       exact absurd H (by simp)
     ·rw [if_neg c7] at H
      have c7b0 : decide (x15_1 < (y421.length : Int)) = false := decide_eq_false c7
      clear c7
      obtain rfl := Option.some.inj H
      go_wp2
      go_ret
      exact ⟨_, by first | rfl | (simp [errW_none, errW_some] <;> rfl) | (simp only [← hji3]; first | rfl | (simp [errW_none, errW_some] <;> rfl)) | (simp [*, errW_none, errW_some] <;> rfl), by (with_reducible repeat (first | apply Kd.R_alloc | apply Kd.R_drewN | apply Kd.R_drew)); exact HO_5.out, zb⟩
  ·rw [if_neg c5] at H
   exact absurd H (by simp)
 ·rw [if_neg c4] at H
  exact absurd H (by simp)
def backseatlaw08_few.l0 : Nat → List (S38) → List (S38) → Int → Int → Option ((List (S38)))
 | 0, _, _, _, _ => none
 | k + 1, x3, x10, x11, x12 => if x12 < x11 then (if 0 ≤ x12 then (if x12 < (x10.length : Int) then ((backseatlaw08_cells.f k ((rd_T38 x10 x12).f0) 82).bind fun t436 => (if x3.length < 4398046511104 then (backseatlaw08_few.l0 k (x3 ++ [(⟨t436, (rd_T38 x10 x12).f1⟩ : S38)]) x10 x11 (wrap64 (x12 + 1))) else (none))) else (none)) else (none)) else (some x3)
def backseatlaw08_few.f (k : Nat) (l0 : List (S38)) : Option ((List (S38))) := if 0 ≤ (mn (l0.length : Int) 30) then (if (mn (l0.length : Int) 30) ≤ (l0.length : Int) then ((some (l0.take ((mn (l0.length : Int) 30) : Int).toNat : List (S38))).bind fun y430 => (backseatlaw08_few.l0 k ([] : List (S38)) y430 (y430.length : Int) 0)) else (none)) else (none)
def backseatlaw08_few.T5 : Bool × List (List Nat × List Nat) := (true, [([], []), ([], []), ([1], [1]), ([2], [2]), ([], []), ([4], [4]), ([3, 5], [3, 5]), ([6], [6]), ([0, 7, 3], [0, 7]), ([8, 8, 0, 1, 2, 3, 4, 5, 6, 7, 8], [0, 8])])
def backseatlaw08_few.B5 : List Nat := [0, 0, 2, 6, 0, 16, 62, 126, 255, 511]
theorem backseatlaw08_few.tab5 : rtab .any (opsOf Tryd.f17 5) = backseatlaw08_few.T5 := by kernel_rfl
theorem backseatlaw08_few.bits5 : waitsOk backseatlaw08_few.T5.2 backseatlaw08_few.B5 = true := by kernel_rfl
set_option maxHeartbeats 8000000 in
set_option maxRecDepth 100000 in
theorem backseatlaw08_few.calls (k : Nat) (A0 : Option Addr) (c0 : Nat) (l0 : List (S38)) (r : List (S38)) (w : World) (hr0 : Kd.C k38 w A0 l0.length l0) (hc0 : l0.length ≤ c0) (h : backseatlaw08_few.f k l0 = some r) :
  Calls Tryd.prog 17 #[.slice A0 l0.length c0] w fun e w' => ∃ v0_ : Value, e = .returned (v0_) ∧ Kd.S k38 38 w' w.heap.size (fun _ => True) v0_ r ∧ Below w.heap.size w w' := by
 have hu38 := Tryd.underlying38
 have HR0 := Aside0.mk hr0
 have HC0 := Aside0.mk hc0
 clear hr0 hc0
 have HB := Aside0.mk (Below.refl w.heap.size w)
 have H : (if 0 ≤ (mn (l0.length : Int) 30) then (if (mn (l0.length : Int) 30) ≤ (l0.length : Int) then ((some (l0.take ((mn (l0.length : Int) 30) : Int).toNat : List (S38))).bind fun y430 => (backseatlaw08_few.l0 k ([] : List (S38)) y430 (y430.length : Int) 0)) else (none)) else (none)) = some r := h
 clear h
 obtain ⟨ji2, hji2⟩ : ∃ j_ : Int, (mn (l0.length : Int) 30) = j_ := ⟨_, rfl⟩
 replace H : (if 0 ≤ (ji2) then (if (ji2) ≤ (l0.length : Int) then ((some (l0.take ((ji2) : Int).toNat : List (S38))).bind fun y430 => (backseatlaw08_few.l0 k ([] : List (S38)) y430 (y430.length : Int) 0)) else (none)) else (none)) = some r := by first | (rw [hji2] at H; exact H) | (simp only [hji2] at H ⊢; exact H)
 (try (have hji2h : ji2 ≤ 30 := by (rw [← hji2]; unfold mn; (repeat' split) <;> omega)))
 (try (have hji2g : ji2 ≤ 64 := by omega))
 (try (have hji2l : 0 ≤ ji2 := by (rw [← hji2]; unfold mn; (repeat' split) <;> omega)))
 (try (have hji2m : 0 ≤ ji2 := by omega))
 have hji2_ : (if 30 < (l0.length : Int) then 30 else (l0.length : Int)) = ji2 := hji2
 by_cases c3 : 0 ≤ (ji2)
 ·rw [if_pos c3] at H
  have c3b0 := eq_true c3
  have c3b1 : decide (0 ≤ (ji2)) = true := decide_eq_true c3
  clear c3
  by_cases c4 : (ji2) ≤ (l0.length : Int)
  ·rw [if_pos c4] at H
   have c4b0 := eq_true c4
   have c4b1 : decide ((ji2) ≤ (l0.length : Int)) = true := decide_eq_true c4
   clear c4
   obtain ⟨y430, hy430⟩ : ∃ y_ : List (S38), y_ = (l0.take ((ji2) : Int).toNat) := ⟨_, rfl⟩
   replace H : (backseatlaw08_few.l0 k ([] : List (S38)) y430 (y430.length : Int) 0) = some r := by first | (rw [hy430]; with_reducible exact H) | (have H2_ := (Option.bind_some _ _).symm.trans H; rw [hy430]; with_reducible exact H2_) | (have H2_ := (Option.bind_some _ _).symm.trans H; with_reducible exact H2_) | with_reducible exact H | (rw [hy430]; exact H) | exact H
   have Ny430 := Aside0.mk hy430
   clear hy430
   have H' := Aside0.mk H
   clear H
   have q5 : ((ji2) : Int) ≤ ((l0.length : Int) : Int) := of_decide_eq_true za
   obtain ⟨i05, hi05, _, hsz5, _⟩ := info_parts info38
   have hroom5 : l0.length ≤ c0 := HC0.out
   have hC5 : Kd.C k38 _ A0 l0.length l0 := HR0.out
   have hcut5 := cut_to (P := Tryd.prog) 22 38 .i64 Tryd.underlying22 hi05 A0 l0.length c0 (ji2) (of_decide_eq_true za) q5 hroom5
   have hr5 := Kd.C_take (m := ((ji2) : Int).toNat) hC5 (by omega)
   have hy5 : y430.length = ((ji2) : Int).toNat := (by rw [Ny430.out, List.length_take]; omega)
   rw [← Ny430.out] at hr5
   rw [← hy5] at hcut5
   have HR433 := Aside0.mk hr5
   have HC433 := Aside0.mk (show y430.length ≤ c0 from by omega)
   clear hr5 hC5 hroom5 hi05 hsz5
   have KY5 := Aside0.mk hy5
   clear hy5
   replace q5 := eq_true q5
   go_enter Tryd.func17, Tryd.ntmps17
   go_wp2
   go_loopg [3, 12] k (fun kq v3 v12 w' => ∃ (x3_1 : List (S38)) (x12_1 : Int), v12 = .int .i64 x12_1 ∧ Aside0 (backseatlaw08_few.l0 kq x3_1 y430 (y430.length : Int) x12_1 = some r) ∧ Aside0 (kq ≤ k) ∧ Aside0 (Kd.S k38 38 w' w.heap.size (fun _ => True) v3 x3_1) ∧ Aside0 (Below w.heap.size w w'))
   case atStart => exact ⟨(([] : List (S38))), (0), zf, H', ⟨Nat.le_refl _⟩, ⟨by first | exact Kd.S_nil _ _ _ _ _ | exact Kd.N_nil _ _ _ _ _ | exact Kd.V_nil _ _ _ _ _ | exact Kd.Q_nil _ _ _ _ _ | exact Kd.R_nil _ _ _ _ _⟩, ⟨zb⟩⟩
   case round =>
    clear H'
    try clear c3
    try clear c3b0
    try clear c3b1
    try clear c4
    try clear c4b0
    try clear c4b1
    try clear q5
    try clear q5
    obtain ⟨x3_1, x12_1, rfl, HA, HK1, HO_3, HB⟩ := hrel
    cases gk with
    | zero => exact absurd HA.out (by simp [backseatlaw08_few.l0])
    | succ k1 =>
     have H := HA.out
     clear HA
     simp only [backseatlaw08_few.l0] at H
     by_cases c6 : x12_1 < (y430.length : Int)
     ·rw [if_pos c6] at H
      have c6b0 : decide (x12_1 < (y430.length : Int)) = true := decide_eq_true c6
      clear c6
      by_cases c7 : 0 ≤ x12_1
      ·rw [if_pos c7] at H
       have c7b0 : decide (0 ≤ x12_1) = true := decide_eq_true c7
       clear c7
       by_cases c8 : x12_1 < (y430.length : Int)
       ·rw [if_pos c8] at H
        have c8b0 : decide (x12_1 < (y430.length : Int)) = true := decide_eq_true c8
        clear c8
        replace H := Option.bind_eq_some_iff.mp H
        obtain ⟨t436, A90, H⟩ := H
        replace H : (if x3_1.length < 4398046511104 then (backseatlaw08_few.l0 k1 (x3_1 ++ [(⟨t436, (rd_T38 y430 x12_1).f1⟩ : S38)]) y430 (y430.length : Int) (wrap64 (x12_1 + 1))) else (none)) = some r := H
        have A9 := Aside0.mk A90
        clear A90
        by_cases c10 : x3_1.length < 4398046511104
        ·rw [if_pos c10] at H
         have LMc10 := Aside0.mk c10
         clear c10
         obtain ⟨y439, hy439⟩ : ∃ y_ : List (S38), y_ = (x3_1 ++ [(⟨t436, (rd_T38 y430 x12_1).f1⟩ : S38)]) := ⟨_, rfl⟩
         replace H : (backseatlaw08_few.l0 k1 y439 y430 (y430.length : Int) (wrap64 (x12_1 + 1))) = some r := by first | (rw [hy439]; with_reducible exact H) | (have H2_ := (Option.bind_some _ _).symm.trans H; rw [hy439]; with_reducible exact H2_) | (have H2_ := (Option.bind_some _ _).symm.trans H; with_reducible exact H2_) | with_reducible exact H | (rw [hy439]; exact H) | exact H
         have Ny439 := Aside0.mk hy439
         clear hy439
         have H' := Aside0.mk H
         clear H
         have p434 : 0 ≤ (x12_1 : Int) := of_decide_eq_true za
         have q434 : x12_1 < (y430.length : Int) := of_decide_eq_true za
         obtain ⟨ad434, A434_0, c434_0, e434, hx434_0, hx434_1, hl434_0, hi434_0⟩ := at_T38 HR433.out x12_1 p434 q434
         cases e434
         replace hx434_0 := zc HB hx434_0
         replace hx434_1 := zc HB hx434_1
         have HR434_0 := Aside0.mk hi434_0
         have HC434_0 := Aside0.mk hl434_0
         clear hi434_0 hl434_0
         replace p434 := eq_true p434
         replace q434 := eq_true q434
         try go_wp2_with (first | ((with_reducible refine gate_dst (N := 5) rfl ?_); refine box_event ?hg (N := 5) ?hd (cs := #[.slice none 0 0, .bool false]) (t := 38) ?hr ?_; (case hd => rfl); (case hg => rfl); (case hr => exact zo); intro gb435 hg w11 hbox hb; replace HO_3 := Aside0.mk (Kd.S_below (Kd.S_elderB (zSa HO_3) gb435 (Nat.le_of_eq hg.symm)) hb); have BK435 := Aside0.mk (hbox); have GW435 := Aside0.mk ((zg hg : w.heap.size ≤ gb435)); have GE435 := Aside0.mk ((zg hg : w.heap.size ≤ gb435)); replace HB := (zs HB hb); clear hb hbox hg; obtain ⟨hcz12_0, hcz12_1, hfz12_0, hfz12_1⟩ := zq2 (w := w11) BK435))
         have n0_ : Aside0 (Kd.S k38 38 ((w11.setCell ⟨gb435, 0, none⟩ (.slice A434_0 ((rd_T38 y430 x12_1).f0).length c434_0)).setCell ⟨gb435, 1, none⟩ (.bool ((rd_T38 y430 x12_1).f1))) w.heap.size (fun k_ => k_ ≠ gb435) u3 x3_1) := ⟨by (with_reducible repeat (first | apply Kd.S_alloc | apply Kd.S_drewN | apply Kd.S_drew)); exact Kd.S_mono (Kd.S_far (p := ⟨gb435, 1, none⟩) (Kd.S_far (p := ⟨gb435, 0, none⟩) (Kd.S_mono HO_3.out (fun k_ hk => (⟨hk, hk.2⟩ : _ ∧ k_ ≠ gb435))) (fun _ hk => hk.2) (.slice A434_0 ((rd_T38 y430 x12_1).f0).length c434_0)) (fun _ hk => hk.2) (.bool ((rd_T38 y430 x12_1).f1))) (fun _ hk => hk.1.2)⟩
         have n1_ : Aside0 (((w11.setCell ⟨gb435, 0, none⟩ (.slice A434_0 ((rd_T38 y430 x12_1).f0).length c434_0)).setCell ⟨gb435, 1, none⟩ (.bool ((rd_T38 y430 x12_1).f1))).heap[gb435]? = some (.cells #[.slice A434_0 ((rd_T38 y430 x12_1).f0).length c434_0, .bool ((rd_T38 y430 x12_1).f1)] 38 (0, 0))) := ⟨by refine blk_put (cs := #[.slice A434_0 ((rd_T38 y430 x12_1).f0).length c434_0, .bool false]) ?_ 1 _ rfl; refine blk_put (cs := #[.slice none 0 0, .bool false]) ?_ 0 _ rfl; exact BK435.out⟩
         have n2_ : Aside0 (Below w.heap.size w ((w11.setCell ⟨gb435, 0, none⟩ (.slice A434_0 ((rd_T38 y430 x12_1).f0).length c434_0)).setCell ⟨gb435, 1, none⟩ (.bool ((rd_T38 y430 x12_1).f1)))) := ⟨zb⟩
         (try clear HO_3)
         (try clear BK435)
         (try clear HB)
         generalize ((w11.setCell ⟨gb435, 0, none⟩ (.slice A434_0 ((rd_T38 y430 x12_1).f0).length c434_0)).setCell ⟨gb435, 1, none⟩ (.bool ((rd_T38 y430 x12_1).f1))) = w13 at n0_ n1_ n2_ ⊢
         have HO_3 := n0_
         have BK435 := n1_
         have HB := n2_
         clear n0_ n1_ n2_
         have n0_ := Aside0.mk (Kd.S_drew HO_3.out)
         have n1_ := Aside0.mk (blk_drew BK435.out)
         have n2_ := Aside0.mk (below_drew1 HB.out)
         clear HO_3
         clear BK435
         clear HB
         have HO_3 := n0_
         have BK435 := n1_
         have HB := n2_
         clear n0_ n1_ n2_
         refine start_ (n := 10) (S := fun w' => w'.cell? ⟨gb435, 0, none⟩ = some (.slice A434_0 ((rd_T38 y430 x12_1).f0).length c434_0) ∧ w'.cell? ⟨gb435, 1, none⟩ = some (.bool ((rd_T38 y430 x12_1).f1))) (ds := []) #[false, false, false, false, false, false, false, false, false, false] (by kernel_rfl) rfl rfl ⟨(blk_cell BK435.out 0).trans rfl, (blk_cell BK435.out 1).trans rfl⟩ (fun hHeld => ?_); refine with_tabW backseatlaw08_few.tab5 backseatlaw08_few.bits5 (fun HT_ HW_ => ?_)
         generalize w13.drew = w14 at HO_3 BK435 HB hHeld ⊢
         refine pure_ (i := 0) (N := some 16) (v := ?_) (a' := ?_) #[true, false, false, false, false, false, false, false, false, false] rfl rfl (any_of HT_.out (by kernel_rfl)) (fun _ _ _ h => h) (Or.inl ⟨by rfl, ?_⟩) ?_ ?_
         rotate_left
         ·intro w'
          go_simp
          with_reducible rfl
         rotate_left
         ·exact zr
         refine pure_ (i := 1) (N := some 17) (v := ?_) (a' := ?_) #[true, true, false, false, false, false, false, false, false, false] rfl rfl (any_of HT_.out (by kernel_rfl)) (fun _ _ _ h => h) (Or.inl ⟨by rfl, ?_⟩) ?_ ?_
         rotate_left
         ·intro w'
          go_simp
          with_reducible rfl
         rotate_left
         ·exact zr
         refine pure_ (i := 4) (N := some 20) (v := ?_) (a' := ?_) #[true, true, false, false, true, false, false, false, false, false] rfl rfl (any_of HT_.out (by kernel_rfl)) (fun _ _ _ h => h) (Or.inl ⟨by rfl, ?_⟩) ?_ ?_
         rotate_left
         ·intro w'
          go_simp
          with_reducible rfl
         rotate_left
         ·exact zr
         refine take_ (i := 2) (N := some 18) (v := ?_) (a' := ?_) #[true, true, true, false, true, false, false, false, false, false] rfl rfl (take_ofW HT_.out HW_.out (by kernel_rfl)) (fun _ _ _ h => h) (Or.inl ⟨by rfl, ?_⟩) hHeld ?_ ?_
         rotate_left
         ·rintro w' ⟨s0, s1⟩
          go_simp
          with_reducible rfl
         rotate_left
         ·exact zr
         refine take_ (i := 5) (N := some 21) (v := ?_) (a' := ?_) #[true, true, true, false, true, true, false, false, false, false] rfl rfl (take_ofW HT_.out HW_.out (by kernel_rfl)) (fun _ _ _ h => h) (Or.inl ⟨by rfl, ?_⟩) hHeld ?_ ?_
         rotate_left
         ·rintro w' ⟨s0, s1⟩
          go_simp
          with_reducible rfl
         rotate_left
         ·exact zr
         refine one_ (i := 3) (N := some 19) #[true, true, true, true, true, true, false, false, false, false] rfl rfl (one_of HT_.out (by kernel_rfl)) (by decide) (fun K hK => ?_)
         refine goes_ Tryd.func24 (by kernel_rfl) rfl #[.slice A434_0 ((rd_T38 y430 x12_1).f0).length c434_0, .int .i64 82] (by rfl) rfl rfl zl ?_
         with_reducible refine (backseatlaw08_cells.calls k1 _ _ ((rd_T38 y430 x12_1).f0) 82 t436 _ ?side1 ?side2 A9.out).mono ?_
         (case side1 => repeat (first | exact (Kd.C_below HR434_0.out HB.out) | (with_reducible refine Kd.C_alloc ?_ _) | (with_reducible refine Kd.C_drewN ?_ _) | (with_reducible refine Kd.C_drew ?_)))
         (case side2 => exact HC434_0.out)
         rintro e w15 ⟨v437, rfl, ho0, hb⟩
         refine ⟨_, rfl, ?_⟩
         have n0_ := Aside0.mk (Kd.S_elder' (zSa HO_3) (Kd.R_base ho0) hb)
         have n1_ := Aside0.mk (Kd.R_lower ho0 (below_size zb))
         have n2_ := (zk BK435 hb)
         have n3_ := (zs HB hb)
         clear HO_3
         clear BK435
         clear HB
         have HO_3 := n0_
         have HO438 := n1_
         have BK435 := n2_
         have HB := n3_
         clear n0_ n1_ n2_ n3_
         (try clear hb)
         (try clear hb2)
         (try clear hk)
         (try clear hi)
         (try clear ho0)
         obtain ⟨Ao16, co16, eo16⟩ := Kd.R_slice HO438.out
         (first | subst eo16 | (injection eo16 with f1_ f2_ f3_; have f4_ := f1_.symm; have f5_ := f3_.symm; clear f1_ f2_ f3_; subst f4_; subst f5_))
         refine hK.out _ _ ⟨(blk_cell BK435.out 0).trans rfl, (blk_cell BK435.out 1).trans rfl⟩ (fun hHeld => ?_)
         clear hK K
         refine norm_ (a' := ?_) ?_ ?_
         rotate_left
         ·show Act.put _ (some 19) _ = _
          simp only [Act.put, List.setIfInBounds_toArray, List.set_cons_zero, List.set_cons_succ, i64_w, i32_w]
          rfl
         refine pure_ (i := 6) (N := some 22) (v := ?_) (a' := ?_) #[true, true, true, true, true, true, true, false, false, false] rfl rfl (any_of HT_.out (by kernel_rfl)) (fun _ _ _ h => h) (Or.inl ⟨by rfl, ?_⟩) ?_ ?_
         rotate_left
         ·intro w'
          go_simp
          with_reducible rfl
         rotate_left
         ·exact zr
         refine one_ (i := 7) (N := some 23) #[true, true, true, true, true, true, true, true, false, false] rfl rfl (one_of HT_.out (by kernel_rfl)) (by decide) (fun K hK => ?_)
         refine value_ (w1 := ?_) (v := ?_) (by rfl) rfl ?_ ?_
         rotate_left 2
         ·go_simp
          constructor
          ·rfl
          ·rfl
         refine hK.out _ _ ⟨(blk_cell (blk_alloc BK435.out _) 0).trans rfl, (blk_cell (blk_alloc BK435.out _) 1).trans rfl⟩ (fun hHeld => ?_)
         clear hK K
         refine norm_ (a' := ?_) ?_ ?_
         rotate_left
         ·show Act.put _ (some 23) _ = _
          simp only [Act.put, List.setIfInBounds_toArray, List.set_cons_zero, List.set_cons_succ, i64_w, i32_w]
          rfl
         refine one_ (i := 8) (N := some 24) #[true, true, true, true, true, true, true, true, true, false] rfl rfl (one_of HT_.out (by kernel_rfl)) (by decide) (fun K hK => ?_)
         refine Kd.S_append_step k38 (w0 := w) w.heap.size (by rfl) (.tmp 16) (.tmp 23) 22 38 (.agg #[(.slice none 0 0), (.bool false)]) 32 rfl Tryd.underlying22 info38 rfl (by decide) (by omega) u3 x3_1 (⟨t436, (rd_T38 y430 x12_1).f1⟩ : S38) [.slice Ao16 t436.length co16, .bool ((rd_T38 y430 x12_1).f1)] (fun k_ => k_ ≠ gb435) (fun k_ => some k_ = (.slice Ao16 t436.length co16 : Value).ownBlock) rfl rfl ?aP (fun k_ hk_ => ((Kd.R_mono (ok' := fun k_ => ((fun k_ => k_ ≠ gb435)) k_ ∧ some k_ ≠ (u3 : Value).ownBlock) (Kd.R_types (Kd.R_apart' (HO438.out) (Kd.S_typed HO_3.out) (by decide)) BK435.out (by decide)) (fun k_ hk => ⟨hk.2, hk.1.2⟩))).1 k_ hk_.symm) ?aF ?aO ?aB ?aS ?aL ?_
         (case aP => exact k38_mkM _ _ _ (⟨t436, (rd_T38 y430 x12_1).f1⟩ : S38) (Kd.R_mono (Kd.R_tight rfl (Kd.R_mono (ok' := fun k_ => ((fun k_ => k_ ≠ gb435)) k_ ∧ some k_ ≠ (u3 : Value).ownBlock) (Kd.R_types (Kd.R_apart' (HO438.out) (Kd.S_typed HO_3.out) (by decide)) BK435.out (by decide)) (fun k_ hk => ⟨hk.2, hk.1.2⟩))) (fun _ h_ => h_)))
         (case aB => exact zb)
         (case aF => exact (fun k_ hk => Kd.freshB (g := gb435) (o := .cells #[.slice A434_0 ((rd_T38 y430 x12_1).f0).length c434_0, .bool ((rd_T38 y430 x12_1).f1)] 38 (0, 0)) (by exact BK435.out) k_ hk))
         (case aO => exact (by (with_reducible repeat (first | apply Kd.S_alloc | apply Kd.S_drewN | apply Kd.S_drew)); exact Kd.S_mono HO_3.out (fun k_ hk => ⟨hk.1, fun e_ => hk.2 e_⟩)))
         (case aS => exact (below_size zb))
         (case aL => have := LMc10.out; omega)
         intro v440 w17 ho hb hg hat
         rw [← Ny439.out] at ho
         have n0_ := Aside0.mk (blk_grown (g := gb435) (o := .cells #[.slice A434_0 ((rd_T38 y430 x12_1).f0).length c434_0, .bool ((rd_T38 y430 x12_1).f1)] 38 (0, 0)) (by exact BK435.out) hg (Kd.S_away HO_3.out (fun _ hk => hk.1)))
         have n1_ := Aside0.mk (hb)
         have n2_ := Aside0.mk (ho)
         clear BK435
         clear HB
         clear HO_3
         clear HO438
         have BK435 := n0_
         have HB := n1_
         have HO441 := n2_
         clear n0_ n1_ n2_
         clear ho hb hg hat
         refine hK.out _ _ ⟨(blk_cell BK435.out 0).trans rfl, (blk_cell BK435.out 1).trans rfl⟩ (fun hHeld => ?_)
         clear hK K
         refine norm_ (a' := ?_) ?_ ?_
         rotate_left
         ·show Act.put _ (some 24) _ = _
          simp only [Act.put, List.setIfInBounds_toArray, List.set_cons_zero, List.set_cons_succ, i64_w, i32_w]
          rfl
         refine pure_ (i := 9) (N := some 3) (v := ?_) (a' := ?_) #[true, true, true, true, true, true, true, true, true, true] rfl rfl (any_of HT_.out (by kernel_rfl)) (fun _ _ _ h => h) (Or.inl ⟨by rfl, ?_⟩) ?_ ?_
         rotate_left
         ·intro w'
          go_simp
          with_reducible rfl
         rotate_left
         ·exact zr
         refine done_ (done_of HT_.out (by kernel_rfl)) ?_
         try go_wp2
         go_roundg k1
         case measure => have := HK1.out; omega
         case rel => exact ⟨(y439), (wrap64 (x12_1 + 1)), zf, H', ⟨by have := HK1.out; omega⟩, ⟨by (with_reducible repeat (first | apply Kd.S_alloc | apply Kd.S_drewN | apply Kd.S_drew)); exact Kd.S_mono HO441.out (fun _ hk => trivial)⟩, ⟨zb⟩⟩
        ·rw [if_neg c10] at H
         exact absurd H (by simp)
       ·rw [if_neg c8] at H
        exact absurd H (by simp)
      ·rw [if_neg c7] at H
       exact absurd H (by simp)
     ·rw [if_neg c6] at H
      have c6b0 : decide (x12_1 < (y430.length : Int)) = false := decide_eq_false c6
      clear c6
      obtain rfl := Option.some.inj H
      go_wp2
      go_ret
      exact ⟨_, by first | rfl | (simp [errW_none, errW_some] <;> rfl) | (simp only [← hji2]; first | rfl | (simp [errW_none, errW_some] <;> rfl)) | (simp [*, errW_none, errW_some] <;> rfl), by (with_reducible repeat (first | apply Kd.S_alloc | apply Kd.S_drewN | apply Kd.S_drew)); exact HO_3.out, zb⟩
  ·rw [if_neg c4] at H
   exact absurd H (by simp)
 ·rw [if_neg c3] at H
  exact absurd H (by simp)
theorem eqA58 (d : Nat) (w : World) (x0 y0 : Int) (x1 y1 : Int) (x2 y2 : Int) :
  (Op.equalIn (d + 2) 58 (.agg #[.int .i64 x0, .int .i64 x1, .int .i64 x2]) (.agg #[.int .i64 y0, .int .i64 y1, .int .i64 y2])).run Tryd.prog w = .ok (x0 == y0 && (x1 == y1 && (x2 == y2))) w := by
 refine eqA_of Tryd.underlying58 (by kernel_rfl) ?_
 refine eqf_cons (by rfl) (by go_simp; rfl) (by go_simp; rfl) (by go_simp) ?_
 refine eqf_cons (by rfl) (by go_simp; rfl) (by go_simp; rfl) (by go_simp) ?_
 exact eqf_last (by rfl) (by go_simp; rfl) (by go_simp; rfl) (by go_simp)
theorem eqA60 (d : Nat) (w : World) (x0 y0 : ByteArray) (x1 y1 : Int) (x2 y2 : Int) (x3 y3 : Int) (x4 y4 : Int) :
  (Op.equalIn (d + 3) 60 (.agg #[.string x0, .int .i64 x1, .int .i64 x2, .int .i64 x3, .int .i64 x4]) (.agg #[.string y0, .int .i64 y1, .int .i64 y2, .int .i64 y3, .int .i64 y4])).run Tryd.prog w = .ok (x0.toList == y0.toList && (x1 == y1 && ((x2 == y2 && (x3 == y3 && (x4 == y4)))))) w := by
 refine eqA_of Tryd.underlying60 (by kernel_rfl) ?_
 refine eqf_cons (by rfl) (by go_simp; rfl) (by go_simp; rfl) (by go_simp) ?_
 refine eqf_cons (by rfl) (by go_simp; rfl) (by go_simp; rfl) (by go_simp) ?_
 exact eqf_last (by rfl) (by go_simp) (by go_simp) (eqA58 (d + 0) w _ _ _ _ _ _)
def cell_Blank.f (a0_0 : Int) (a0_1 : Int) (a0_2 : Int) : Option (ByteArray × Int × Int × Int × Int) := some ((⟨#[]⟩ : ByteArray), 1, 0, a0_1, 0)
set_option maxHeartbeats 8000000 in
set_option maxRecDepth 100000 in
theorem cell_Blank.calls (a0_0 : Int) (a0_1 : Int) (a0_2 : Int) (r1 : ByteArray) (r2 : Int) (r3 : Int) (r4 : Int) (r5 : Int) (w : World) (h : cell_Blank.f a0_0 a0_1 a0_2 = some (r1, r2, r3, r4, r5)) :
  Calls Tryd.prog 81 #[.agg #[.int .i64 a0_0, .int .i64 a0_1, .int .i64 a0_2]] w fun e w' => e = .returned (.agg #[.string r1, .int .i64 r2, .int .i64 r3, .int .i64 r4, .int .i64 r5]) ∧ Below w.heap.size w w' := by
 have hu58 := Tryd.underlying58
 have hu60 := Tryd.underlying60
 have HB := Aside0.mk (Below.refl w.heap.size w)
 have H : (some ((⟨#[]⟩ : ByteArray), 1, 0, a0_1, 0)) = some (r1, r2, r3, r4, r5) := h
 clear h
 simp only [Option.some.injEq, Prod.mk.injEq] at H
 obtain ⟨rfl, rfl, rfl, rfl, rfl⟩ := H
 go_enter Tryd.func81, Tryd.ntmps81
 go_wp2_with (first | ((with_reducible refine gate_dst (N := 1) rfl ?_); refine box_event ?hg (N := 1) ?hd (cs := #[.int .i64 a0_0, .int .i64 a0_1, .int .i64 a0_2]) (t := 58) ?hr ?_; (case hd => rfl); (case hg => rfl); (case hr => exact zo); intro gb153 hg w2 hbox hb; have BK153 := Aside0.mk (hbox); have GW153 := Aside0.mk ((zg hg : w.heap.size ≤ gb153)); have GE153 := Aside0.mk ((zg hg : w.heap.size ≤ gb153)); replace HB := (zs HB hb); clear hb hbox hg) | ((with_reducible refine gate_dst (N := 2) rfl ?_); refine box_event ?hg (N := 2) ?hd (cs := #[.string (⟨#[]⟩ : ByteArray), .int .i64 0, .int .i64 0, .int .i64 0, .int .i64 0]) (t := 60) ?hr ?_; (case hd => rfl); (case hg => rfl); (case hr => exact zo); intro gb154 hg w3 hbox hb; have n0_ := (zk BK153 hb); have n1_ := (zs HB hb); have n2_ := Aside0.mk (hbox); have n3_ := Aside0.mk ((zg hg : w.heap.size ≤ gb154)); have n4_ := Aside0.mk ((zg hg : w.heap.size ≤ gb154)); have n5_ := Aside0.mk ((by rw [hg]; exact Nat.ne_of_lt (blk_lt (g := gb153) (o := .cells #[.int .i64 a0_0, .int .i64 a0_1, .int .i64 a0_2] 58 (0, 0)) (by exact BK153.out)) : gb153 ≠ gb154)); have n6_ := Aside0.mk ((by rw [hg]; exact Nat.ne_of_gt (blk_lt (g := gb153) (o := .cells #[.int .i64 a0_0, .int .i64 a0_1, .int .i64 a0_2] 58 (0, 0)) (by exact BK153.out)) : gb154 ≠ gb153)); clear BK153; clear HB; have BK153 := n0_; have HB := n1_; have BK154 := n2_; have GW154 := n3_; have GE154 := n4_; have NB153_154 := n5_; have NB154_153 := n6_; clear n0_ n1_ n2_ n3_ n4_ n5_ n6_; clear hb hbox hg; have hnb4 := NB153_154.out; have hnc4 := NB154_153.out; obtain ⟨hcz5_0, hcz5_1, hcz5_2, hfz5_0, hfz5_1, hfz5_2⟩ := zq3 (w := w3) BK153; obtain ⟨hcz6_0, hcz6_1, hcz6_2, hcz6_3, hcz6_4, hfz6_0, hfz6_1, hfz6_2, hfz6_3, hfz6_4⟩ := zq5 (w := w3) BK154))
 refine bodyPost_ret (results_cell_row rfl _ _ gb154 60 #[.string (⟨#[]⟩ : ByteArray), .int .i64 1, .int .i64 0, .int .i64 a0_1, .int .i64 0] (0, 0) _ rfl (by refine blk_put (cs := #[.string (⟨#[]⟩ : ByteArray), .int .i64 1, .int .i64 0, .int .i64 a0_1, .int .i64 0]) ?_ 4 _ rfl; refine blk_put (cs := #[.string (⟨#[]⟩ : ByteArray), .int .i64 1, .int .i64 0, .int .i64 0, .int .i64 0]) ?_ 3 _ rfl; refine blk_put (cs := #[.string (⟨#[]⟩ : ByteArray), .int .i64 1, .int .i64 0, .int .i64 0, .int .i64 0]) ?_ 2 _ rfl; refine blk_put (cs := #[.string (⟨#[]⟩ : ByteArray), .int .i64 0, .int .i64 0, .int .i64 0, .int .i64 0]) ?_ 1 _ rfl; refine blk_put (cs := #[.string (⟨#[]⟩ : ByteArray), .int .i64 0, .int .i64 0, .int .i64 0, .int .i64 0]) ?_ 0 _ rfl; exact BK154.out) Tryd.underlying60 rfl (by kernel_rfl)) rfl ?_
 exact ⟨ze, zb⟩
def flow_none.f  : Option (ByteArray × Int × Int × Int × Int) := (cell_Blank.f 0 0 0).bind fun bt156 => (some (bt156.1, bt156.2.1, bt156.2.2.1, bt156.2.2.2.1, bt156.2.2.2.2))
set_option maxHeartbeats 8000000 in
set_option maxRecDepth 100000 in
theorem flow_none.calls  (r1 : ByteArray) (r2 : Int) (r3 : Int) (r4 : Int) (r5 : Int) (w : World) (h : flow_none.f  = some (r1, r2, r3, r4, r5)) :
  Calls Tryd.prog 67 #[] w fun e w' => e = .returned (.agg #[.string r1, .int .i64 r2, .int .i64 r3, .int .i64 r4, .int .i64 r5]) ∧ Below w.heap.size w w' := by
 have hu60 := Tryd.underlying60
 have hu58 := Tryd.underlying58
 have HB := Aside0.mk (Below.refl w.heap.size w)
 have H : ((cell_Blank.f 0 0 0).bind fun bt156 => (some (bt156.1, bt156.2.1, bt156.2.2.1, bt156.2.2.2.1, bt156.2.2.2.2))) = some (r1, r2, r3, r4, r5) := h
 clear h
 replace H := Option.bind_eq_some_iff.mp H
 obtain ⟨⟨t156, t157, t158, t159, t160⟩, A10, H⟩ := H
 replace H : (some (t156, t157, t158, t159, t160)) = some (r1, r2, r3, r4, r5) := H
 have A1 := Aside0.mk A10
 clear A10
 simp only [Option.some.injEq, Prod.mk.injEq] at H
 obtain ⟨rfl, rfl, rfl, rfl, rfl⟩ := H
 go_enter Tryd.func67, Tryd.ntmps67
 go_wp2_with (first | ((with_reducible refine gate_dst (N := 0) rfl ?_); refine box_event ?hg (N := 0) ?hd (cs := #[.string (⟨#[]⟩ : ByteArray), .int .i64 0, .int .i64 0, .int .i64 0, .int .i64 0]) (t := 60) ?hr ?_; (case hd => rfl); (case hg => rfl); (case hr => exact zo); intro gb155 hg w2 hbox hb; have BK155 := Aside0.mk (hbox); have GW155 := Aside0.mk ((zg hg : w.heap.size ≤ gb155)); have GE155 := Aside0.mk ((zg hg : w.heap.size ≤ gb155)); replace HB := (zs HB hb); clear hb hbox hg) | ((with_reducible refine gate_callee (f := 81) rfl ?_); refine goesL_ (some 2) rfl rfl Tryd.func81 (by kernel_rfl) rfl #[.agg #[.int .i64 0, .int .i64 0, .int .i64 0]] rfl zl ?_; (with_reducible refine (cell_Blank.calls 0 0 0 t156 t157 t158 t159 t160 _ A1.out).mono ?_); rintro e w3 ⟨rfl, hb⟩; refine ⟨_, rfl, ?_⟩; replace BK155 := (zk BK155 hb); replace HB := (zs HB hb); (try clear hb); obtain ⟨hcz4_0, hcz4_1, hcz4_2, hcz4_3, hcz4_4, hfz4_0, hfz4_1, hfz4_2, hfz4_3, hfz4_4⟩ := zq5 (w := w3) BK155))
 refine bodyPost_ret (results_cell_row rfl _ _ gb155 60 #[.string t156, .int .i64 t157, .int .i64 t158, .int .i64 t159, .int .i64 t160] (0, 0) _ rfl (by refine blk_put (cs := #[.string t156, .int .i64 t157, .int .i64 t158, .int .i64 t159, .int .i64 0]) ?_ 4 _ rfl; refine blk_put (cs := #[.string t156, .int .i64 t157, .int .i64 t158, .int .i64 0, .int .i64 0]) ?_ 3 _ rfl; refine blk_put (cs := #[.string t156, .int .i64 t157, .int .i64 0, .int .i64 0, .int .i64 0]) ?_ 2 _ rfl; refine blk_put (cs := #[.string t156, .int .i64 0, .int .i64 0, .int .i64 0, .int .i64 0]) ?_ 1 _ rfl; refine blk_put (cs := #[.string (⟨#[]⟩ : ByteArray), .int .i64 0, .int .i64 0, .int .i64 0, .int .i64 0]) ?_ 0 _ rfl; exact BK155.out) Tryd.underlying60 rfl (by kernel_rfl)) rfl ?_
 exact ⟨ze, zb⟩
end Go.Proofs.YtckkdaehmccjlaaDoor.P
namespace Go.Proofs.YtckkdaehmccjlaaDoor.P
open Go.RowKit Go.Proofs.YtckkdaehmccjlaaDoorW.PrintWords Go.Proofs.YtckkdaehmccjlaaDoorW.PrintLast Go.Proofs.YtckkdaehmccjlaaDoorW.PrintMore
attribute [local go_sem] max2_int min2_int max_two min_two max_three min_three max_four min_four   -- for this text's walks alone
set_option linter.unusedVariables false
set_option linter.unusedSimpArgs false
attribute [local go_sem high] eqA60
def flow_trimmed.l0 : Nat → List (S60) → Option ((List (S60)))
 | 0, _ => none
 | k + 1, x0 => if (x0.length : Int) > 0 then (if 0 ≤ (wrap64 ((x0.length : Int) - 1)) then (if (wrap64 ((x0.length : Int) - 1)) < (x0.length : Int) then ((flow_none.f).bind fun bt162 => (if ((((rd_T60 x0 (wrap64 ((x0.length : Int) - 1))).f0).toList) == bt162.1.toList && (((rd_T60 x0 (wrap64 ((x0.length : Int) - 1))).f1) == bt162.2.1 && ((((rd_T60 x0 (wrap64 ((x0.length : Int) - 1))).f2.f0) == bt162.2.2.1 && (((rd_T60 x0 (wrap64 ((x0.length : Int) - 1))).f2.f1) == bt162.2.2.2.1 && (((rd_T60 x0 (wrap64 ((x0.length : Int) - 1))).f2.f2) == bt162.2.2.2.2)))))) = true then (if (wrap64 ((x0.length : Int) - 1)) ≤ (x0.length : Int) then (flow_trimmed.l0 k (x0.take ((wrap64 ((x0.length : Int) - 1)) : Int).toNat)) else (none)) else (some x0))) else (none)) else (none)) else (some x0)
def flow_trimmed.f (k : Nat) (l0 : List (S60)) : Option ((List (S60))) := flow_trimmed.l0 k l0
def flow_trimmed.T1 : Bool × List (List Nat × List Nat) := (true, [([], []), ([0], [0]), ([1], [1]), ([2], [2]), ([3], [3]), ([3], [3]), ([5, 3], [3, 5]), ([6, 3], [3, 6]), ([4, 7, 3], [3, 4, 7]), ([8, 3], [3, 8]), ([3, 3], [3]), ([9, 10, 3], [3, 9, 10]), ([3, 11], [3, 11])])
def flow_trimmed.B1 : List Nat := [0, 1, 3, 7, 15, 15, 47, 111, 255, 511, 15, 2047, 4095]
theorem flow_trimmed.tab1 : rtab .any (opsOf Tryd.f44 1) = flow_trimmed.T1 := by kernel_rfl
theorem flow_trimmed.bits1 : waitsOk flow_trimmed.T1.2 flow_trimmed.B1 = true := by kernel_rfl
set_option maxHeartbeats 8000000 in
set_option maxRecDepth 100000 in
theorem flow_trimmed.calls (k : Nat) (P0_ : Nat → Prop) (A0 : Option Addr) (c0 : Nat) (l0 : List (S60)) (r : List (S60)) (w : World) (hs0 : Kd.V k60 60 w w.heap.size (fun k_ => P0_ k_) (.slice A0 l0.length c0) l0) (h : flow_trimmed.f k l0 = some r) :
  Calls Tryd.prog 44 #[.slice A0 l0.length c0] w fun e w' => ∃ v0_ : Value, e = .returned (v0_) ∧ Kd.V k60 60 w' w.heap.size (fun k_ => (P0_ k_ ∨ w.heap.size ≤ k_)) v0_ r ∧ Below w.heap.size w w' := by
 have hu60 := Tryd.underlying60
 have HO0 := Aside0.mk (show Kd.V k60 60 w w.heap.size (fun k_ => (P0_ k_ ∨ w.heap.size ≤ k_)) (.slice A0 l0.length c0) l0 from Kd.V_mono hs0 (fun k_ hk => .inl hk))
 have HB := Aside0.mk (Below.refl w.heap.size w)
 have H : (flow_trimmed.l0 k l0) = some r := h
 clear h
 have H' := Aside0.mk H
 clear H
 go_enter Tryd.func44, Tryd.ntmps44
 go_wp2
 go_loopg [0] k (fun kq v0 w' => ∃ (x0_1 : List (S60)), Aside0 (flow_trimmed.l0 kq x0_1 = some r) ∧ Aside0 (kq ≤ k) ∧ Aside0 (Kd.V k60 60 w' w.heap.size (fun k_ => (P0_ k_ ∨ w.heap.size ≤ k_)) v0 x0_1) ∧ Aside0 (Below w.heap.size w w'))
 case atStart => exact ⟨(l0), H', ⟨Nat.le_refl _⟩, ⟨by (with_reducible repeat (first | apply Kd.V_alloc | apply Kd.V_drewN | apply Kd.V_drew)); exact HO0.out⟩, ⟨zb⟩⟩
 case round =>
  clear H'
  obtain ⟨x0_1, HA, HK1, HO_0, HB⟩ := hrel
  cases gk with
  | zero => exact absurd HA.out (by simp [flow_trimmed.l0])
  | succ k1 =>
   have H := HA.out
   clear HA
   simp only [flow_trimmed.l0] at H
   by_cases c2 : (x0_1.length : Int) > 0
   ·rw [if_pos c2] at H
    have c2b0 : decide (0 < (x0_1.length : Int)) = true := decide_eq_true c2
    have c2b1 : decide (0 < x0_1.length) = true := decide_eq_true (by omega)
    clear c2
    obtain ⟨ji3, hji3⟩ : ∃ j_ : Int, (wrap64 ((x0_1.length : Int) - 1)) = j_ := ⟨_, rfl⟩
    replace H : (if 0 ≤ (ji3) then (if (ji3) < (x0_1.length : Int) then ((flow_none.f).bind fun bt162 => (if ((((rd_T60 x0_1 (ji3)).f0).toList) == bt162.1.toList && (((rd_T60 x0_1 (ji3)).f1) == bt162.2.1 && ((((rd_T60 x0_1 (ji3)).f2.f0) == bt162.2.2.1 && (((rd_T60 x0_1 (ji3)).f2.f1) == bt162.2.2.2.1 && (((rd_T60 x0_1 (ji3)).f2.f2) == bt162.2.2.2.2)))))) = true then (if (ji3) ≤ (x0_1.length : Int) then (flow_trimmed.l0 k1 (x0_1.take ((ji3) : Int).toNat)) else (none)) else (some x0_1))) else (none)) else (none)) = some r := by first | (rw [hji3] at H; exact H) | (simp only [hji3] at H ⊢; exact H)
    have hji3w : (IntKind.i64.wrap ((x0_1.length : Int) - 1)) = ji3 := (i64_w _).trans hji3
    by_cases c4 : 0 ≤ (ji3)
    ·rw [if_pos c4] at H
     have c4b0 : decide (0 ≤ (ji3)) = true := decide_eq_true c4
     clear c4
     by_cases c5 : (ji3) < (x0_1.length : Int)
     ·rw [if_pos c5] at H
      have c5b0 : decide ((ji3) < (x0_1.length : Int)) = true := decide_eq_true c5
      clear c5
      replace H := Option.bind_eq_some_iff.mp H
      obtain ⟨⟨t162, t163, t164, t165, t166⟩, A60, H⟩ := H
      replace H : (if ((((rd_T60 x0_1 (ji3)).f0).toList) == t162.toList && (((rd_T60 x0_1 (ji3)).f1) == t163 && ((((rd_T60 x0_1 (ji3)).f2.f0) == t164 && (((rd_T60 x0_1 (ji3)).f2.f1) == t165 && (((rd_T60 x0_1 (ji3)).f2.f2) == t166)))))) = true then (if (ji3) ≤ (x0_1.length : Int) then (flow_trimmed.l0 k1 (x0_1.take ((ji3) : Int).toNat)) else (none)) else (some x0_1)) = some r := H
      have A6 := Aside0.mk A60
      clear A60
      by_cases c7 : ((((rd_T60 x0_1 (ji3)).f0).toList) == t162.toList && (((rd_T60 x0_1 (ji3)).f1) == t163 && ((((rd_T60 x0_1 (ji3)).f2.f0) == t164 && (((rd_T60 x0_1 (ji3)).f2.f1) == t165 && (((rd_T60 x0_1 (ji3)).f2.f2) == t166)))))) = true
      ·rw [if_pos c7] at H
       have c7b0 : ((((rd_T60 x0_1 (ji3)).f0).toList) == t162.toList && (((rd_T60 x0_1 (ji3)).f1) == t163 && ((((rd_T60 x0_1 (ji3)).f2.f0) == t164 && (((rd_T60 x0_1 (ji3)).f2.f1) == t165 && (((rd_T60 x0_1 (ji3)).f2.f2) == t166)))))) = true := c7
       (try (have c7b1 : decide ((((rd_T60 x0_1 (ji3)).f0).toList) = t162.toList && (((rd_T60 x0_1 (ji3)).f1) == t163 && ((((rd_T60 x0_1 (ji3)).f2.f0) == t164 && (((rd_T60 x0_1 (ji3)).f2.f1) == t165 && (((rd_T60 x0_1 (ji3)).f2.f2) == t166)))))) = true := by simpa using c7))
       (try (have c7b2 : ((((rd_T60 x0_1 (ji3)).f0).toList) == t162.toList && (((rd_T60 x0_1 (ji3)).f1) == t163 && ((((rd_T60 x0_1 (ji3)).f2.f0) == t164 && (((rd_T60 x0_1 (ji3)).f2.f1) == t165 && (((rd_T60 x0_1 (ji3)).f2.f2) == t166)))))) = true := by simpa using c7))
       clear c7
       have c8b0 := eq_true (of_decide_eq_true za : 0 ≤ (ji3))
       by_cases c9 : (ji3) ≤ (x0_1.length : Int)
       ·rw [if_pos c9] at H
        have c9b0 := eq_true c9
        have c9b1 : decide ((ji3) ≤ (x0_1.length : Int)) = true := decide_eq_true c9
        clear c9
        obtain ⟨y167, hy167⟩ : ∃ y_ : List (S60), y_ = (x0_1.take ((ji3) : Int).toNat) := ⟨_, rfl⟩
        replace H : (flow_trimmed.l0 k1 y167) = some r := by first | (rw [hy167]; with_reducible exact H) | (have H2_ := (Option.bind_some _ _).symm.trans H; rw [hy167]; with_reducible exact H2_) | (have H2_ := (Option.bind_some _ _).symm.trans H; with_reducible exact H2_) | with_reducible exact H | (rw [hy167]; exact H) | exact H
        have Ny167 := Aside0.mk hy167
        clear hy167
        have H' := Aside0.mk H
        clear H
        try go_wp2
        have n0_ := Aside0.mk (Kd.V_drew HO_0.out)
        have n1_ := Aside0.mk (below_drew1 HB.out)
        clear HO_0
        clear HB
        have HO_0 := n0_
        have HB := n1_
        clear n0_ n1_
        obtain ⟨Ao11, co11, eo11⟩ := Kd.V_slice HO_0.out
        (first | subst eo11 | (injection eo11 with f1_ f2_ f3_; have f4_ := f1_.symm; have f5_ := f3_.symm; clear f1_ f2_ f3_; subst f4_; subst f5_))
        have p161 : 0 ≤ ((ji3) : Int) := of_decide_eq_true za
        have q161 : (ji3) < (x0_1.length : Int) := of_decide_eq_true za
        obtain ⟨ad161, e161, hx161_0, hx161_1, hx161_2, hx161_3, hx161_4⟩ := at_T60 (Kd.V_reads' HO_0.out).2.2 (ji3) p161 q161
        cases e161
        replace p161 := eq_true p161
        replace q161 := eq_true q161
        refine start_ (n := 13) (S := fun w' => w'.cell? (ad161.add (((ji3)).toNat * 5)) = some (.string ((rd_T60 x0_1 (ji3)).f0)) ∧ w'.cell? ⟨(ad161.add (((ji3)).toNat * 5)).block, (ad161.add (((ji3)).toNat * 5)).off + 1, none⟩ = some (.int .i64 ((rd_T60 x0_1 (ji3)).f1)) ∧ w'.cell? ⟨(ad161.add (((ji3)).toNat * 5)).block, (ad161.add (((ji3)).toNat * 5)).off + 2, none⟩ = some (.int .i64 ((rd_T60 x0_1 (ji3)).f2.f0)) ∧ w'.cell? ⟨(ad161.add (((ji3)).toNat * 5)).block, (ad161.add (((ji3)).toNat * 5)).off + 3, none⟩ = some (.int .i64 ((rd_T60 x0_1 (ji3)).f2.f1)) ∧ w'.cell? ⟨(ad161.add (((ji3)).toNat * 5)).block, (ad161.add (((ji3)).toNat * 5)).off + 4, none⟩ = some (.int .i64 ((rd_T60 x0_1 (ji3)).f2.f2))) (ds := []) #[false, false, false, false, false, false, false, false, false, false, false, false, false] (by kernel_rfl) rfl rfl ⟨hx161_0, hx161_1, hx161_2, hx161_3, hx161_4⟩ (fun hHeld => ?_); refine with_tabW flow_trimmed.tab1 flow_trimmed.bits1 (fun HT_ HW_ => ?_)
        generalize wr.drew = w10 at HO_0 HB hx161_0 hx161_1 hx161_2 hx161_3 hx161_4 hHeld ⊢
        refine pure_ (i := 0) (N := some 3) (v := ?_) (a' := ?_) #[true, false, false, false, false, false, false, false, false, false, false, false, false] rfl rfl (any_of HT_.out (by kernel_rfl)) (fun _ _ _ h => h) (Or.inl ⟨by rfl, ?_⟩) ?_ ?_
        rotate_left
        ·intro w'
         go_simp
         with_reducible rfl
        rotate_left
        ·exact zr
        refine pure_ (i := 1) (N := some 4) (v := ?_) (a' := ?_) #[true, true, false, false, false, false, false, false, false, false, false, false, false] rfl rfl (any_of HT_.out (by kernel_rfl)) (fun _ _ _ h => h) (Or.inl ⟨by rfl, ?_⟩) ?_ ?_
        rotate_left
        ·intro w'
         go_simp
         with_reducible rfl
        rotate_left
        ·exact zr
        refine pure_ (i := 2) (N := some 5) (v := ?_) (a' := ?_) #[true, true, true, false, false, false, false, false, false, false, false, false, false] rfl rfl (any_of HT_.out (by kernel_rfl)) (fun _ _ _ h => h) (Or.inl ⟨by rfl, ?_⟩) ?_ ?_
        rotate_left
        ·intro w'
         go_simp
         with_reducible rfl
        rotate_left
        ·exact zr
        refine pure_ (i := 3) (N := some 6) (v := ?_) (a' := ?_) #[true, true, true, true, false, false, false, false, false, false, false, false, false] rfl rfl (any_of HT_.out (by kernel_rfl)) (fun _ _ _ h => h) (Or.inl ⟨by rfl, ?_⟩) ?_ ?_
        rotate_left
        ·intro w'
         go_simp
         with_reducible rfl
        rotate_left
        ·exact zr
        refine pure_ (i := 4) (N := some 7) (v := ?_) (a' := ?_) #[true, true, true, true, true, false, false, false, false, false, false, false, false] rfl rfl (any_of HT_.out (by kernel_rfl)) (fun _ _ _ h => h) (Or.inl ⟨by rfl, ?_⟩) ?_ ?_
        rotate_left
        ·intro w'
         go_simp
         with_reducible rfl
        rotate_left
        ·exact zr
        refine pure_ (i := 5) (N := some 8) (v := ?_) (a' := ?_) #[true, true, true, true, true, true, false, false, false, false, false, false, false] rfl rfl (any_of HT_.out (by kernel_rfl)) (fun _ _ _ h => h) (Or.inl ⟨by rfl, ?_⟩) ?_ ?_
        rotate_left
        ·intro w'
         go_simp
         with_reducible rfl
        rotate_left
        ·exact zr
        refine pure_ (i := 6) (N := some 9) (v := ?_) (a' := ?_) #[true, true, true, true, true, true, true, false, false, false, false, false, false] rfl rfl (any_of HT_.out (by kernel_rfl)) (fun _ _ _ h => h) (Or.inl ⟨by rfl, ?_⟩) ?_ ?_
        rotate_left
        ·intro w'
         go_simp
         with_reducible rfl
        rotate_left
        ·exact zr
        refine pure_ (i := 7) (N := some 10) (v := ?_) (a' := ?_) #[true, true, true, true, true, true, true, true, false, false, false, false, false] rfl rfl (any_of HT_.out (by kernel_rfl)) (fun _ _ _ h => h) (Or.inl ⟨by rfl, ?_⟩) ?_ ?_
        rotate_left
        ·intro w'
         go_simp
         with_reducible rfl
        rotate_left
        ·exact zr
        refine pure_ (i := 8) (N := some 11) (v := ?_) (a' := ?_) #[true, true, true, true, true, true, true, true, true, false, false, false, false] rfl rfl (any_of HT_.out (by kernel_rfl)) (fun _ _ _ h => h) (Or.inl ⟨by rfl, ?_⟩) ?_ ?_
        rotate_left
        ·intro w'
         go_simp
         with_reducible rfl
        rotate_left
        ·exact zr
        refine take_ (i := 9) (N := some 12) (v := ?_) (a' := ?_) #[true, true, true, true, true, true, true, true, true, true, false, false, false] rfl rfl (take_ofW HT_.out HW_.out (by kernel_rfl)) (fun _ _ _ h => h) (Or.inl ⟨by rfl, ?_⟩) hHeld ?_ ?_
        rotate_left
        ·rintro w' ⟨s0, s1, s2, s3, s4⟩
         go_simp
         with_reducible rfl
        rotate_left
        ·exact zr
        refine one_ (i := 10) (N := some 13) #[true, true, true, true, true, true, true, true, true, true, true, false, false] rfl rfl (one_of HT_.out (by kernel_rfl)) (by decide) (fun K hK => ?_)
        refine goes_ Tryd.func67 (by kernel_rfl) rfl #[] (by rfl) rfl rfl zl ?_
        with_reducible refine (flow_none.calls  t162 t163 t164 t165 t166 _ A6.out).mono ?_
        rintro e w12 ⟨rfl, hb⟩
        have HS0_ := (hb.cell (World.block_lt_of_cell? _ _ (hHeld.1))).trans (hHeld.1)
        have HS1_ := (hb.cell (World.block_lt_of_cell? _ _ (hHeld.2.1))).trans (hHeld.2.1)
        have HS2_ := (hb.cell (World.block_lt_of_cell? _ _ (hHeld.2.2.1))).trans (hHeld.2.2.1)
        have HS3_ := (hb.cell (World.block_lt_of_cell? _ _ (hHeld.2.2.2.1))).trans (hHeld.2.2.2.1)
        have HS4_ := (hb.cell (World.block_lt_of_cell? _ _ (hHeld.2.2.2.2))).trans (hHeld.2.2.2.2)
        refine ⟨_, rfl, ?_⟩
        have n0_ := Aside0.mk (Kd.V_below (by (with_reducible repeat (first | apply Kd.V_alloc | apply Kd.V_drewN | apply Kd.V_drew)); exact HO_0.out) hb)
        have n1_ := (zs HB hb)
        clear HO_0
        clear HB
        have HO_0 := n0_
        have HB := n1_
        clear n0_ n1_
        (try clear hb)
        (try clear hb2)
        (try clear hk)
        (try clear hi)
        refine hK.out _ _ ⟨HS0_, HS1_, HS2_, HS3_, HS4_⟩ (fun hHeld => ?_)
        clear hK K
        refine norm_ (a' := ?_) ?_ ?_
        rotate_left
        ·show Act.put _ (some 13) _ = _
         simp only [Act.put, List.setIfInBounds_toArray, List.set_cons_zero, List.set_cons_succ, i64_w, i32_w]
         rfl
        refine pure_ (i := 11) (N := some 14) (v := ?_) (a' := ?_) #[true, true, true, true, true, true, true, true, true, true, true, true, false] rfl rfl (any_of HT_.out (by kernel_rfl)) (fun _ _ _ h => h) (Or.inl ⟨by rfl, ?_⟩) ?_ ?_
        rotate_left
        ·intro w'
         go_simp
         with_reducible rfl
        rotate_left
        ·exact zr
        refine pure_ (i := 12) (N := some 15) (v := ?_) (a' := ?_) #[true, true, true, true, true, true, true, true, true, true, true, true, true] rfl rfl (any_of HT_.out (by kernel_rfl)) (fun _ _ _ h => h) (Or.inl ⟨by rfl, ?_⟩) ?_ ?_
        rotate_left
        ·intro w'
         go_simp
         with_reducible rfl
        rotate_left
        ·exact zr
        refine done_ (done_of HT_.out (by kernel_rfl)) ?_
        have q13 : ((ji3) : Int) ≤ ((x0_1.length : Int) : Int) := of_decide_eq_true za
        obtain ⟨i013, hi013, _, hsz13, _⟩ := info_parts info60
        have hroom13 : x0_1.length ≤ co11 := (Kd.V_reads' HO_0.out).2.1
        have hC13 : Kd.F k60 _ _ (some ad161) x0_1.length x0_1 := (Kd.V_at (base := w.heap.size) HO_0.out).2.2
        have hcut13 := cut_to (P := Tryd.prog) 36 60 .i64 Tryd.underlying36 hi013 (some ad161) x0_1.length co11 (ji3) (of_decide_eq_true za) q13 hroom13
        have hr13 := Kd.F_take (m := ((ji3) : Int).toNat) hC13 (by omega)
        have hy13 : y167.length = ((ji3) : Int).toNat := (by rw [Ny167.out, List.length_take]; omega)
        rw [← Ny167.out] at hr13
        rw [← hy13] at hcut13
        have HO171 := Aside0.mk (show Kd.V k60 60 _ w.heap.size _ (.slice (some ad161) y167.length co11) y167 from Kd.V_mk (by omega) hr13)
        have HC171 := Aside0.mk (show y167.length ≤ co11 from by omega)
        clear hr13 hC13 hroom13 hi013 hsz13
        have KY13 := Aside0.mk hy13
        clear hy13
        replace q13 := eq_true q13
        try go_wp2
        go_roundg k1
        case measure => have := HK1.out; omega
        case rel => exact ⟨(y167), H', ⟨by have := HK1.out; omega⟩, ⟨by (with_reducible repeat (first | apply Kd.V_alloc | apply Kd.V_drewN | apply Kd.V_drew)); exact HO171.out⟩, ⟨zb⟩⟩
       ·rw [if_neg c9] at H
        exact absurd H (by simp)
      ·rw [if_neg c7] at H
       have c7b0 : ((((rd_T60 x0_1 (ji3)).f0).toList) == t162.toList && (((rd_T60 x0_1 (ji3)).f1) == t163 && ((((rd_T60 x0_1 (ji3)).f2.f0) == t164 && (((rd_T60 x0_1 (ji3)).f2.f1) == t165 && (((rd_T60 x0_1 (ji3)).f2.f2) == t166)))))) = false := by simpa using c7
       (try (have c7b1 : decide ((((rd_T60 x0_1 (ji3)).f0).toList) = t162.toList && (((rd_T60 x0_1 (ji3)).f1) == t163 && ((((rd_T60 x0_1 (ji3)).f2.f0) == t164 && (((rd_T60 x0_1 (ji3)).f2.f1) == t165 && (((rd_T60 x0_1 (ji3)).f2.f2) == t166)))))) = false := by simpa using c7))
       (try (have c7b2 : ((((rd_T60 x0_1 (ji3)).f0).toList) == t162.toList && (((rd_T60 x0_1 (ji3)).f1) == t163 && ((((rd_T60 x0_1 (ji3)).f2.f0) == t164 && (((rd_T60 x0_1 (ji3)).f2.f1) == t165 && (((rd_T60 x0_1 (ji3)).f2.f2) == t166)))))) = false := by simpa using c7))
       (try (have c7b3 : ¬ ((((rd_T60 x0_1 (ji3)).f0).toList) = t162.toList && (((rd_T60 x0_1 (ji3)).f1) == t163 && ((((rd_T60 x0_1 (ji3)).f2.f0) == t164 && (((rd_T60 x0_1 (ji3)).f2.f1) == t165 && (((rd_T60 x0_1 (ji3)).f2.f2) == t166)))))) := by simpa using c7))
       clear c7
       obtain rfl := Option.some.inj H
       try go_wp2
       have n0_ := Aside0.mk (Kd.V_drew HO_0.out)
       have n1_ := Aside0.mk (below_drew1 HB.out)
       clear HO_0
       clear HB
       have HO_0 := n0_
       have HB := n1_
       clear n0_ n1_
       obtain ⟨Ao15, co15, eo15⟩ := Kd.V_slice HO_0.out
       (first | subst eo15 | (injection eo15 with f1_ f2_ f3_; have f4_ := f1_.symm; have f5_ := f3_.symm; clear f1_ f2_ f3_; subst f4_; subst f5_))
       have p161 : 0 ≤ ((ji3) : Int) := of_decide_eq_true za
       have q161 : (ji3) < (x0_1.length : Int) := of_decide_eq_true za
       obtain ⟨ad161, e161, hx161_0, hx161_1, hx161_2, hx161_3, hx161_4⟩ := at_T60 (Kd.V_reads' HO_0.out).2.2 (ji3) p161 q161
       cases e161
       replace p161 := eq_true p161
       replace q161 := eq_true q161
       refine start_ (n := 13) (S := fun w' => w'.cell? (ad161.add (((ji3)).toNat * 5)) = some (.string ((rd_T60 x0_1 (ji3)).f0)) ∧ w'.cell? ⟨(ad161.add (((ji3)).toNat * 5)).block, (ad161.add (((ji3)).toNat * 5)).off + 1, none⟩ = some (.int .i64 ((rd_T60 x0_1 (ji3)).f1)) ∧ w'.cell? ⟨(ad161.add (((ji3)).toNat * 5)).block, (ad161.add (((ji3)).toNat * 5)).off + 2, none⟩ = some (.int .i64 ((rd_T60 x0_1 (ji3)).f2.f0)) ∧ w'.cell? ⟨(ad161.add (((ji3)).toNat * 5)).block, (ad161.add (((ji3)).toNat * 5)).off + 3, none⟩ = some (.int .i64 ((rd_T60 x0_1 (ji3)).f2.f1)) ∧ w'.cell? ⟨(ad161.add (((ji3)).toNat * 5)).block, (ad161.add (((ji3)).toNat * 5)).off + 4, none⟩ = some (.int .i64 ((rd_T60 x0_1 (ji3)).f2.f2))) (ds := []) #[false, false, false, false, false, false, false, false, false, false, false, false, false] (by kernel_rfl) rfl rfl ⟨hx161_0, hx161_1, hx161_2, hx161_3, hx161_4⟩ (fun hHeld => ?_); refine with_tabW flow_trimmed.tab1 flow_trimmed.bits1 (fun HT_ HW_ => ?_)
       generalize wr.drew = w14 at HO_0 HB hx161_0 hx161_1 hx161_2 hx161_3 hx161_4 hHeld ⊢
       refine pure_ (i := 0) (N := some 3) (v := ?_) (a' := ?_) #[true, false, false, false, false, false, false, false, false, false, false, false, false] rfl rfl (any_of HT_.out (by kernel_rfl)) (fun _ _ _ h => h) (Or.inl ⟨by rfl, ?_⟩) ?_ ?_
       rotate_left
       ·intro w'
        go_simp
        with_reducible rfl
       rotate_left
       ·exact zr
       refine pure_ (i := 1) (N := some 4) (v := ?_) (a' := ?_) #[true, true, false, false, false, false, false, false, false, false, false, false, false] rfl rfl (any_of HT_.out (by kernel_rfl)) (fun _ _ _ h => h) (Or.inl ⟨by rfl, ?_⟩) ?_ ?_
       rotate_left
       ·intro w'
        go_simp
        with_reducible rfl
       rotate_left
       ·exact zr
       refine pure_ (i := 2) (N := some 5) (v := ?_) (a' := ?_) #[true, true, true, false, false, false, false, false, false, false, false, false, false] rfl rfl (any_of HT_.out (by kernel_rfl)) (fun _ _ _ h => h) (Or.inl ⟨by rfl, ?_⟩) ?_ ?_
       rotate_left
       ·intro w'
        go_simp
        with_reducible rfl
       rotate_left
       ·exact zr
       refine pure_ (i := 3) (N := some 6) (v := ?_) (a' := ?_) #[true, true, true, true, false, false, false, false, false, false, false, false, false] rfl rfl (any_of HT_.out (by kernel_rfl)) (fun _ _ _ h => h) (Or.inl ⟨by rfl, ?_⟩) ?_ ?_
       rotate_left
       ·intro w'
        go_simp
        with_reducible rfl
       rotate_left
       ·exact zr
       refine pure_ (i := 4) (N := some 7) (v := ?_) (a' := ?_) #[true, true, true, true, true, false, false, false, false, false, false, false, false] rfl rfl (any_of HT_.out (by kernel_rfl)) (fun _ _ _ h => h) (Or.inl ⟨by rfl, ?_⟩) ?_ ?_
       rotate_left
       ·intro w'
        go_simp
        with_reducible rfl
       rotate_left
       ·exact zr
       refine pure_ (i := 5) (N := some 8) (v := ?_) (a' := ?_) #[true, true, true, true, true, true, false, false, false, false, false, false, false] rfl rfl (any_of HT_.out (by kernel_rfl)) (fun _ _ _ h => h) (Or.inl ⟨by rfl, ?_⟩) ?_ ?_
       rotate_left
       ·intro w'
        go_simp
        with_reducible rfl
       rotate_left
       ·exact zr
       refine pure_ (i := 6) (N := some 9) (v := ?_) (a' := ?_) #[true, true, true, true, true, true, true, false, false, false, false, false, false] rfl rfl (any_of HT_.out (by kernel_rfl)) (fun _ _ _ h => h) (Or.inl ⟨by rfl, ?_⟩) ?_ ?_
       rotate_left
       ·intro w'
        go_simp
        with_reducible rfl
       rotate_left
       ·exact zr
       refine pure_ (i := 7) (N := some 10) (v := ?_) (a' := ?_) #[true, true, true, true, true, true, true, true, false, false, false, false, false] rfl rfl (any_of HT_.out (by kernel_rfl)) (fun _ _ _ h => h) (Or.inl ⟨by rfl, ?_⟩) ?_ ?_
       rotate_left
       ·intro w'
        go_simp
        with_reducible rfl
       rotate_left
       ·exact zr
       refine pure_ (i := 8) (N := some 11) (v := ?_) (a' := ?_) #[true, true, true, true, true, true, true, true, true, false, false, false, false] rfl rfl (any_of HT_.out (by kernel_rfl)) (fun _ _ _ h => h) (Or.inl ⟨by rfl, ?_⟩) ?_ ?_
       rotate_left
       ·intro w'
        go_simp
        with_reducible rfl
       rotate_left
       ·exact zr
       refine take_ (i := 9) (N := some 12) (v := ?_) (a' := ?_) #[true, true, true, true, true, true, true, true, true, true, false, false, false] rfl rfl (take_ofW HT_.out HW_.out (by kernel_rfl)) (fun _ _ _ h => h) (Or.inl ⟨by rfl, ?_⟩) hHeld ?_ ?_
       rotate_left
       ·rintro w' ⟨s0, s1, s2, s3, s4⟩
        go_simp
        with_reducible rfl
       rotate_left
       ·exact zr
       refine one_ (i := 10) (N := some 13) #[true, true, true, true, true, true, true, true, true, true, true, false, false] rfl rfl (one_of HT_.out (by kernel_rfl)) (by decide) (fun K hK => ?_)
       refine goes_ Tryd.func67 (by kernel_rfl) rfl #[] (by rfl) rfl rfl zl ?_
       with_reducible refine (flow_none.calls  t162 t163 t164 t165 t166 _ A6.out).mono ?_
       rintro e w16 ⟨rfl, hb⟩
       have HS0_ := (hb.cell (World.block_lt_of_cell? _ _ (hHeld.1))).trans (hHeld.1)
       have HS1_ := (hb.cell (World.block_lt_of_cell? _ _ (hHeld.2.1))).trans (hHeld.2.1)
       have HS2_ := (hb.cell (World.block_lt_of_cell? _ _ (hHeld.2.2.1))).trans (hHeld.2.2.1)
       have HS3_ := (hb.cell (World.block_lt_of_cell? _ _ (hHeld.2.2.2.1))).trans (hHeld.2.2.2.1)
       have HS4_ := (hb.cell (World.block_lt_of_cell? _ _ (hHeld.2.2.2.2))).trans (hHeld.2.2.2.2)
       refine ⟨_, rfl, ?_⟩
       have n0_ := Aside0.mk (Kd.V_below (by (with_reducible repeat (first | apply Kd.V_alloc | apply Kd.V_drewN | apply Kd.V_drew)); exact HO_0.out) hb)
       have n1_ := (zs HB hb)
       clear HO_0
       clear HB
       have HO_0 := n0_
       have HB := n1_
       clear n0_ n1_
       (try clear hb)
       (try clear hb2)
       (try clear hk)
       (try clear hi)
       refine hK.out _ _ ⟨HS0_, HS1_, HS2_, HS3_, HS4_⟩ (fun hHeld => ?_)
       clear hK K
       refine norm_ (a' := ?_) ?_ ?_
       rotate_left
       ·show Act.put _ (some 13) _ = _
        simp only [Act.put, List.setIfInBounds_toArray, List.set_cons_zero, List.set_cons_succ, i64_w, i32_w]
        rfl
       refine pure_ (i := 11) (N := some 14) (v := ?_) (a' := ?_) #[true, true, true, true, true, true, true, true, true, true, true, true, false] rfl rfl (any_of HT_.out (by kernel_rfl)) (fun _ _ _ h => h) (Or.inl ⟨by rfl, ?_⟩) ?_ ?_
       rotate_left
       ·intro w'
        go_simp
        with_reducible rfl
       rotate_left
       ·exact zr
       refine pure_ (i := 12) (N := some 15) (v := ?_) (a' := ?_) #[true, true, true, true, true, true, true, true, true, true, true, true, true] rfl rfl (any_of HT_.out (by kernel_rfl)) (fun _ _ _ h => h) (Or.inl ⟨by rfl, ?_⟩) ?_ ?_
       rotate_left
       ·intro w'
        go_simp
        with_reducible rfl
       rotate_left
       ·exact zr
       refine done_ (done_of HT_.out (by kernel_rfl)) ?_
       try go_wp2
       go_ret
       exact ⟨_, by first | rfl | (simp [errW_none, errW_some] <;> rfl) | (simp only [← hji3]; first | rfl | (simp [errW_none, errW_some] <;> rfl)) | (simp [*, errW_none, errW_some] <;> rfl), by (with_reducible repeat (first | apply Kd.V_alloc | apply Kd.V_drewN | apply Kd.V_drew)); exact HO_0.out, zb⟩
     ·rw [if_neg c5] at H
      exact absurd H (by simp)
    ·rw [if_neg c4] at H
     exact absurd H (by simp)
   ·rw [if_neg c2] at H
    have c2b0 : decide (0 < (x0_1.length : Int)) = false := decide_eq_false c2
    have c2b1 : decide (0 < x0_1.length) = false := decide_eq_false (by omega)
    clear c2
    obtain rfl := Option.some.inj H
    try go_wp2
    have n0_ := Aside0.mk (Kd.V_drew HO_0.out)
    have n1_ := Aside0.mk (below_drew1 HB.out)
    clear HO_0
    clear HB
    have HO_0 := n0_
    have HB := n1_
    clear n0_ n1_
    obtain ⟨Ao18, co18, eo18⟩ := Kd.V_slice HO_0.out
    (first | subst eo18 | (injection eo18 with f1_ f2_ f3_; have f4_ := f1_.symm; have f5_ := f3_.symm; clear f1_ f2_ f3_; subst f4_; subst f5_))
    refine start_ (n := 13) (S := fun w' => True) (ds := []) #[false, false, false, false, false, false, false, false, false, false, false, false, false] (by kernel_rfl) rfl rfl trivial (fun hHeld => ?_); refine with_tabW flow_trimmed.tab1 flow_trimmed.bits1 (fun HT_ HW_ => ?_)
    generalize wr.drew = w17 at HO_0 HB hHeld ⊢
    refine pure_ (i := 0) (N := some 3) (v := ?_) (a' := ?_) #[true, false, false, false, false, false, false, false, false, false, false, false, false] rfl rfl (any_of HT_.out (by kernel_rfl)) (fun _ _ _ h => h) (Or.inl ⟨by rfl, ?_⟩) ?_ ?_
    rotate_left
    ·intro w'
     go_simp
     with_reducible rfl
    rotate_left
    ·exact zr
    refine pure_ (i := 1) (N := some 4) (v := ?_) (a' := ?_) #[true, true, false, false, false, false, false, false, false, false, false, false, false] rfl rfl (any_of HT_.out (by kernel_rfl)) (fun _ _ _ h => h) (Or.inl ⟨by rfl, ?_⟩) ?_ ?_
    rotate_left
    ·intro w'
     go_simp
     with_reducible rfl
    rotate_left
    ·exact zr
    refine pure_ (i := 2) (N := some 5) (v := ?_) (a' := ?_) #[true, true, true, false, false, false, false, false, false, false, false, false, false] rfl rfl (any_of HT_.out (by kernel_rfl)) (fun _ _ _ h => h) (Or.inl ⟨by rfl, ?_⟩) ?_ ?_
    rotate_left
    ·intro w'
     go_simp
     with_reducible rfl
    rotate_left
    ·exact zr
    refine pure_ (i := 3) (N := some 6) (v := ?_) (a' := ?_) #[true, true, true, true, false, false, false, false, false, false, false, false, false] rfl rfl (any_of HT_.out (by kernel_rfl)) (fun _ _ _ h => h) (Or.inl ⟨by rfl, ?_⟩) ?_ ?_
    rotate_left
    ·intro w'
     go_simp
     with_reducible rfl
    rotate_left
    ·exact zr
    refine pure_ (i := 4) (N := some 7) (v := undef) (a' := ?_) #[true, true, true, true, true, false, false, false, false, false, false, false, false] rfl rfl (any_of HT_.out (by kernel_rfl)) (fun _ _ _ h => h) (Or.inr ⟨by rfl, rfl⟩) ?_ ?_
    rotate_left
    ·exact zr
    refine pure_ (i := 5) (N := some 8) (v := undef) (a' := ?_) #[true, true, true, true, true, true, false, false, false, false, false, false, false] rfl rfl (any_of HT_.out (by kernel_rfl)) (fun _ _ _ h => h) (Or.inr ⟨by rfl, rfl⟩) ?_ ?_
    rotate_left
    ·exact zr
    refine pure_ (i := 6) (N := some 9) (v := undef) (a' := ?_) #[true, true, true, true, true, true, true, false, false, false, false, false, false] rfl rfl (any_of HT_.out (by kernel_rfl)) (fun _ _ _ h => h) (Or.inr ⟨by rfl, rfl⟩) ?_ ?_
    rotate_left
    ·exact zr
    refine pure_ (i := 7) (N := some 10) (v := undef) (a' := ?_) #[true, true, true, true, true, true, true, true, false, false, false, false, false] rfl rfl (any_of HT_.out (by kernel_rfl)) (fun _ _ _ h => h) (Or.inr ⟨by rfl, rfl⟩) ?_ ?_
    rotate_left
    ·exact zr
    refine pure_ (i := 8) (N := some 11) (v := undef) (a' := ?_) #[true, true, true, true, true, true, true, true, true, false, false, false, false] rfl rfl (any_of HT_.out (by kernel_rfl)) (fun _ _ _ h => h) (Or.inr ⟨by rfl, rfl⟩) ?_ ?_
    rotate_left
    ·exact zr
    refine pure_ (i := 9) (N := some 12) (v := undef) (a' := ?_) #[true, true, true, true, true, true, true, true, true, true, false, false, false] rfl rfl (any_of HT_.out (by kernel_rfl)) (fun _ _ _ h => h) (Or.inr ⟨by rfl, rfl⟩) ?_ ?_
    rotate_left
    ·exact zr
    refine pure_ (i := 10) (N := some 13) (v := undef) (a' := ?_) #[true, true, true, true, true, true, true, true, true, true, true, false, false] rfl rfl (any_of HT_.out (by kernel_rfl)) (fun _ _ _ h => h) (Or.inr ⟨by rfl, rfl⟩) ?_ ?_
    rotate_left
    ·exact zr
    refine pure_ (i := 11) (N := some 14) (v := undef) (a' := ?_) #[true, true, true, true, true, true, true, true, true, true, true, true, false] rfl rfl (any_of HT_.out (by kernel_rfl)) (fun _ _ _ h => h) (Or.inr ⟨by rfl, rfl⟩) ?_ ?_
    rotate_left
    ·exact zr
    refine pure_ (i := 12) (N := some 15) (v := ?_) (a' := ?_) #[true, true, true, true, true, true, true, true, true, true, true, true, true] rfl rfl (any_of HT_.out (by kernel_rfl)) (fun _ _ _ h => h) (Or.inl ⟨by rfl, ?_⟩) ?_ ?_
    rotate_left
    ·intro w'
     go_simp
     with_reducible rfl
    rotate_left
    ·exact zr
    refine done_ (done_of HT_.out (by kernel_rfl)) ?_
    try go_wp2
    go_ret
    exact ⟨_, ze, by (with_reducible repeat (first | apply Kd.V_alloc | apply Kd.V_drewN | apply Kd.V_drew)); exact HO_0.out, zb⟩
end Go.Proofs.YtckkdaehmccjlaaDoor.P
namespace Go.Proofs.YtckkdaehmccjlaaDoor.P
open Go.RowKit Go.Proofs.YtckkdaehmccjlaaDoorW.PrintWords Go.Proofs.YtckkdaehmccjlaaDoorW.PrintLast Go.Proofs.YtckkdaehmccjlaaDoorW.PrintMore
attribute [local go_sem] max2_int min2_int max_two min_two max_three min_three max_four min_four   -- for this text's walks alone
set_option linter.unusedVariables false
set_option linter.unusedSimpArgs false
def grid_whole.f (l0 : List (S60)) (a1 : Int) : Option (Bool) := if 0 ≤ a1 then (if a1 < (l0.length : Int) then (if ((rd_T60 l0 a1).f1) = 2 then (if (wrap64 (a1 + 1)) < (l0.length : Int) then (if 0 ≤ (wrap64 (a1 + 1)) then (some (((rd_T60 l0 (wrap64 (a1 + 1))).f1) == 0)) else (none)) else (some false)) else (if ((rd_T60 l0 a1).f1) = 0 then (if a1 > 0 then (if 0 ≤ (wrap64 (a1 - 1)) then (if (wrap64 (a1 - 1)) < (l0.length : Int) then (some (((rd_T60 l0 (wrap64 (a1 - 1))).f1) == 2)) else (none)) else (none)) else (some false)) else (some true))) else (none)) else (none)
set_option maxHeartbeats 8000000 in
set_option maxRecDepth 100000 in
theorem grid_whole.calls (A0 : Option Addr) (c0 : Nat) (l0 : List (S60)) (a1 : Int) (r : Bool) (w : World) (hr0 : Kd.C k60 w A0 l0.length l0) (hc0 : l0.length ≤ c0) (h : grid_whole.f l0 a1 = some r) :
  Calls Tryd.prog 71 #[.slice A0 l0.length c0, .int .i64 a1] w fun e w' => e = .returned (.bool r) ∧ Drawn0 w w' := by
 have HR0 := Aside0.mk hr0
 have HC0 := Aside0.mk hc0
 clear hr0 hc0
 have H : (if 0 ≤ a1 then (if a1 < (l0.length : Int) then (if ((rd_T60 l0 a1).f1) = 2 then (if (wrap64 (a1 + 1)) < (l0.length : Int) then (if 0 ≤ (wrap64 (a1 + 1)) then (some (((rd_T60 l0 (wrap64 (a1 + 1))).f1) == 0)) else (none)) else (some false)) else (if ((rd_T60 l0 a1).f1) = 0 then (if a1 > 0 then (if 0 ≤ (wrap64 (a1 - 1)) then (if (wrap64 (a1 - 1)) < (l0.length : Int) then (some (((rd_T60 l0 (wrap64 (a1 - 1))).f1) == 2)) else (none)) else (none)) else (some false)) else (some true))) else (none)) else (none)) = some r := h
 clear h
 by_cases c3 : 0 ≤ a1
 ·rw [if_pos c3] at H
  have c3b0 : decide (0 ≤ a1) = true := decide_eq_true c3
  clear c3
  by_cases c4 : a1 < (l0.length : Int)
  ·rw [if_pos c4] at H
   have c4b0 : decide (a1 < (l0.length : Int)) = true := decide_eq_true c4
   clear c4
   by_cases c5 : ((rd_T60 l0 a1).f1) = 2
   ·rw [if_pos c5] at H
    have c5b0 : (((rd_T60 l0 a1).f1) == 2) = true := beq_iff_eq.mpr c5
    have c5b1 : (((rd_T60 l0 a1).f1) != 2) = false := bne_eq_false_iff_eq.mpr c5
    clear c5
    by_cases c6 : (wrap64 (a1 + 1)) < (l0.length : Int)
    ·rw [if_pos c6] at H
     have c6b0 : decide ((wrap64 (a1 + 1)) < (l0.length : Int)) = true := decide_eq_true c6
     clear c6
     obtain ⟨ji7, hji7⟩ : ∃ j_ : Int, (wrap64 (a1 + 1)) = j_ := ⟨_, rfl⟩
     replace H : (if 0 ≤ (ji7) then (some (((rd_T60 l0 (ji7)).f1) == 0)) else (none)) = some r := by first | (rw [hji7] at H; exact H) | (simp only [hji7] at H ⊢; exact H)
     (try rw [hji7] at c6b0)
     have hji7w : (IntKind.i64.wrap (a1 + 1)) = ji7 := (i64_w _).trans hji7
     by_cases c8 : 0 ≤ (ji7)
     ·rw [if_pos c8] at H
      have c8b0 : decide (0 ≤ (ji7)) = true := decide_eq_true c8
      clear c8
      obtain rfl := Option.some.inj H
      have p143 : 0 ≤ (a1 : Int) := of_decide_eq_true za
      have q143 : a1 < (l0.length : Int) := of_decide_eq_true za
      obtain ⟨ad143, e143, hx143_0, hx143_1, hx143_2, hx143_3, hx143_4⟩ := at_T60 HR0.out a1 p143 q143
      cases e143
      replace p143 := eq_true p143
      replace q143 := eq_true q143
      have p144 : 0 ≤ ((ji7) : Int) := of_decide_eq_true za
      have q144 : (ji7) < (l0.length : Int) := of_decide_eq_true za
      obtain ⟨ad144, e144, hx144_0, hx144_1, hx144_2, hx144_3, hx144_4⟩ := at_T60 HR0.out (ji7) p144 q144
      obtain rfl : ad143 = ad144 := (by injection e144)
      replace p144 := eq_true p144
      replace q144 := eq_true q144
      go_enter Tryd.func71, Tryd.ntmps71
      go_wp2
      go_ret
      exact ⟨by first | rfl | (simp; done) | (simp only [← hji7] <;> (first | rfl | (simp; done))) | (simp [*]; done) | (simp; simp only [decide_eq_true_eq, eq_iff_iff, iff_true] at *; omega), by repeat (first | exact Drawn0.refl _ | apply Drawn0.step)⟩
     ·rw [if_neg c8] at H
      exact absurd H (by simp)
    ·rw [if_neg c6] at H
     have c6b0 : decide ((wrap64 (a1 + 1)) < (l0.length : Int)) = false := decide_eq_false c6
     clear c6
     obtain rfl := Option.some.inj H
     have p143 : 0 ≤ (a1 : Int) := of_decide_eq_true za
     have q143 : a1 < (l0.length : Int) := of_decide_eq_true za
     obtain ⟨ad143, e143, hx143_0, hx143_1, hx143_2, hx143_3, hx143_4⟩ := at_T60 HR0.out a1 p143 q143
     cases e143
     replace p143 := eq_true p143
     replace q143 := eq_true q143
     go_enter Tryd.func71, Tryd.ntmps71
     go_wp2
     go_ret
     exact ⟨by first | rfl | (simp; done) | (simp [*]; done), by repeat (first | exact Drawn0.refl _ | apply Drawn0.step)⟩
   ·rw [if_neg c5] at H
    have c5b0 : (((rd_T60 l0 a1).f1) == 2) = false := beq_eq_false_iff_ne.mpr c5
    have c5b1 : (((rd_T60 l0 a1).f1) != 2) = true := bne_iff_ne.mpr c5
    by_cases c9 : ((rd_T60 l0 a1).f1) = 0
    ·rw [if_pos c9] at H
     have c9b0 : (((rd_T60 l0 a1).f1) == 0) = true := beq_iff_eq.mpr c9
     have c9b1 : (((rd_T60 l0 a1).f1) != 0) = false := bne_eq_false_iff_eq.mpr c9
     clear c9
     by_cases c10 : a1 > 0
     ·rw [if_pos c10] at H
      have c10b0 : decide (0 < a1) = true := decide_eq_true c10
      clear c10
      obtain ⟨ji11, hji11⟩ : ∃ j_ : Int, (wrap64 (a1 - 1)) = j_ := ⟨_, rfl⟩
      replace H : (if 0 ≤ (ji11) then (if (ji11) < (l0.length : Int) then (some (((rd_T60 l0 (ji11)).f1) == 2)) else (none)) else (none)) = some r := by first | (rw [hji11] at H; exact H) | (simp only [hji11] at H ⊢; exact H)
      have hji11w : (IntKind.i64.wrap (a1 - 1)) = ji11 := (i64_w _).trans hji11
      by_cases c12 : 0 ≤ (ji11)
      ·rw [if_pos c12] at H
       have c12b0 : decide (0 ≤ (ji11)) = true := decide_eq_true c12
       clear c12
       by_cases c13 : (ji11) < (l0.length : Int)
       ·rw [if_pos c13] at H
        have c13b0 : decide ((ji11) < (l0.length : Int)) = true := decide_eq_true c13
        clear c13
        obtain rfl := Option.some.inj H
        have p143 : 0 ≤ (a1 : Int) := of_decide_eq_true za
        have q143 : a1 < (l0.length : Int) := of_decide_eq_true za
        obtain ⟨ad143, e143, hx143_0, hx143_1, hx143_2, hx143_3, hx143_4⟩ := at_T60 HR0.out a1 p143 q143
        cases e143
        replace p143 := eq_true p143
        replace q143 := eq_true q143
        have p145 : 0 ≤ ((ji11) : Int) := of_decide_eq_true za
        have q145 : (ji11) < (l0.length : Int) := of_decide_eq_true za
        obtain ⟨ad145, e145, hx145_0, hx145_1, hx145_2, hx145_3, hx145_4⟩ := at_T60 HR0.out (ji11) p145 q145
        obtain rfl : ad143 = ad145 := (by injection e145)
        replace p145 := eq_true p145
        replace q145 := eq_true q145
        go_enter Tryd.func71, Tryd.ntmps71
        go_wp2
        go_ret
        exact ⟨by first | rfl | (simp; done) | (simp only [← hji11] <;> (first | rfl | (simp; done))) | (simp [*]; done) | (simp; simp only [decide_eq_true_eq, eq_iff_iff, iff_true] at *; omega), by repeat (first | exact Drawn0.refl _ | apply Drawn0.step)⟩
       ·rw [if_neg c13] at H
        exact absurd H (by simp)
      ·rw [if_neg c12] at H
       exact absurd H (by simp)
     ·rw [if_neg c10] at H
      have c10b0 : decide (0 < a1) = false := decide_eq_false c10
      clear c10
      obtain rfl := Option.some.inj H
      have p143 : 0 ≤ (a1 : Int) := of_decide_eq_true za
      have q143 : a1 < (l0.length : Int) := of_decide_eq_true za
      obtain ⟨ad143, e143, hx143_0, hx143_1, hx143_2, hx143_3, hx143_4⟩ := at_T60 HR0.out a1 p143 q143
      cases e143
      replace p143 := eq_true p143
      replace q143 := eq_true q143
      go_enter Tryd.func71, Tryd.ntmps71
      go_wp2
      go_ret
      exact ⟨by first | rfl | (simp; done) | (simp [*]; done), by repeat (first | exact Drawn0.refl _ | apply Drawn0.step)⟩
    ·rw [if_neg c9] at H
     have c9b0 : (((rd_T60 l0 a1).f1) == 0) = false := beq_eq_false_iff_ne.mpr c9
     have c9b1 : (((rd_T60 l0 a1).f1) != 0) = true := bne_iff_ne.mpr c9
     obtain rfl := Option.some.inj H
     have p143 : 0 ≤ (a1 : Int) := of_decide_eq_true za
     have q143 : a1 < (l0.length : Int) := of_decide_eq_true za
     obtain ⟨ad143, e143, hx143_0, hx143_1, hx143_2, hx143_3, hx143_4⟩ := at_T60 HR0.out a1 p143 q143
     cases e143
     replace p143 := eq_true p143
     replace q143 := eq_true q143
     go_enter Tryd.func71, Tryd.ntmps71
     go_wp2
     go_ret
     exact ⟨by first | rfl | (simp; done) | (simp [*]; done), by repeat (first | exact Drawn0.refl _ | apply Drawn0.step)⟩
  ·rw [if_neg c4] at H
   exact absurd H (by simp)
 ·rw [if_neg c3] at H
  exact absurd H (by simp)
def cell_in.f (a0 : Int) (a1 : Int) (a2 : Int) : Option (Bool) := if a0 ≥ a1 then (some (decide (a0 ≤ a2))) else (some false)
set_option maxHeartbeats 8000000 in
set_option maxRecDepth 100000 in
theorem cell_in.calls (a0 : Int) (a1 : Int) (a2 : Int) (r : Bool) (w : World) (h : cell_in.f a0 a1 a2 = some r) :
  Calls Tryd.prog 84 #[.int .i64 a0, .int .i64 a1, .int .i64 a2] w fun e w' => e = .returned (.bool r) ∧ Drawn0 w w' := by
 have H : (if a0 ≥ a1 then (some (decide (a0 ≤ a2))) else (some false)) = some r := h
 clear h
 by_cases c4 : a0 ≥ a1
 ·rw [if_pos c4] at H
  have c4b0 : decide (a1 ≤ a0) = true := decide_eq_true c4
  clear c4
  obtain rfl := Option.some.inj H
  go_enter Tryd.func84, Tryd.ntmps84
  go_wp2
  go_ret
  exact ⟨by first | rfl | (simp; done) | (simp [*]; done), by repeat (first | exact Drawn0.refl _ | apply Drawn0.step)⟩
 ·rw [if_neg c4] at H
  have c4b0 : decide (a1 ≤ a0) = false := decide_eq_false c4
  clear c4
  obtain rfl := Option.some.inj H
  go_enter Tryd.func84, Tryd.ntmps84
  go_wp2
  go_ret
  exact ⟨by first | rfl | (simp; done) | (simp [*]; done), by repeat (first | exact Drawn0.refl _ | apply Drawn0.step)⟩
def cell_Look.f (a0_0 : Int) (a0_1 : Int) (a0_2 : Int) : Option (Bool) := (cell_in.f a0_0 0 256).bind fun t121 => (if t121 = true then ((cell_in.f a0_1 0 256).bind fun t122 => (if t122 = true then ((cell_in.f a0_2 0 255).bind fun t123 => (some t123)) else (some false))) else (some false))
set_option maxHeartbeats 8000000 in
set_option maxRecDepth 100000 in
theorem cell_Look.calls (a0_0 : Int) (a0_1 : Int) (a0_2 : Int) (r : Bool) (w : World) (h : cell_Look.f a0_0 a0_1 a0_2 = some r) :
  Calls Tryd.prog 83 #[.agg #[.int .i64 a0_0, .int .i64 a0_1, .int .i64 a0_2]] w fun e w' => e = .returned (.bool r) ∧ Below w.heap.size w w' := by
 have hu58 := Tryd.underlying58
 have HB := Aside0.mk (Below.refl w.heap.size w)
 have H : ((cell_in.f a0_0 0 256).bind fun t121 => (if t121 = true then ((cell_in.f a0_1 0 256).bind fun t122 => (if t122 = true then ((cell_in.f a0_2 0 255).bind fun t123 => (some t123)) else (some false))) else (some false))) = some r := h
 clear h
 replace H := Option.bind_eq_some_iff.mp H
 obtain ⟨t121, A20, H⟩ := H
 replace H : (if t121 = true then ((cell_in.f a0_1 0 256).bind fun t122 => (if t122 = true then ((cell_in.f a0_2 0 255).bind fun t123 => (some t123)) else (some false))) else (some false)) = some r := H
 have A2 := Aside0.mk A20
 clear A20
 by_cases c3 : t121 = true
 ·subst c3
  have H1 : ((cell_in.f a0_1 0 256).bind fun t122 => (if t122 = true then ((cell_in.f a0_2 0 255).bind fun t123 => (some t123)) else (some false))) = some r := by rw [if_pos rfl] at H; exact H
  clear H
  have H := H1
  clear H1
  replace H := Option.bind_eq_some_iff.mp H
  obtain ⟨t122, A40, H⟩ := H
  replace H : (if t122 = true then ((cell_in.f a0_2 0 255).bind fun t123 => (some t123)) else (some false)) = some r := H
  have A4 := Aside0.mk A40
  clear A40
  by_cases c5 : t122 = true
  ·subst c5
   have H1 : ((cell_in.f a0_2 0 255).bind fun t123 => (some t123)) = some r := by rw [if_pos rfl] at H; exact H
   clear H
   have H := H1
   clear H1
   replace H := Option.bind_eq_some_iff.mp H
   obtain ⟨t123, A60, H⟩ := H
   replace H : (some t123) = some r := H
   have A6 := Aside0.mk A60
   clear A60
   obtain rfl := Option.some.inj H
   go_enter Tryd.func83, Tryd.ntmps83
   go_wp2_with (first | ((with_reducible refine gate_dst (N := 1) rfl ?_); refine box_event ?hg (N := 1) ?hd (cs := #[.int .i64 a0_0, .int .i64 a0_1, .int .i64 a0_2]) (t := 58) ?hr ?_; (case hd => rfl); (case hg => rfl); (case hr => exact zo); intro gb120 hg w7 hbox hb; have BK120 := Aside0.mk (hbox); have GW120 := Aside0.mk ((zg hg : w.heap.size ≤ gb120)); have GE120 := Aside0.mk ((zg hg : w.heap.size ≤ gb120)); replace HB := (zs HB hb); clear hb hbox hg; obtain ⟨hcz8_0, hcz8_1, hcz8_2, hfz8_0, hfz8_1, hfz8_2⟩ := zq3 (w := w7) BK120) | ((with_reducible refine gate_callee (f := 84) rfl ?_); refine goesL_ (some 5) rfl rfl Tryd.func84 (by kernel_rfl) rfl #[.int .i64 a0_0, .int .i64 0, .int .i64 256] rfl zl ?_; (with_reducible refine (cell_in.calls a0_0 0 256 true _ A2.out).mono ?_); rintro e w' ⟨rfl, ⟨nd, rfl⟩⟩; refine ⟨_, rfl, ?_⟩) | (go_at_call 84; (with_reducible refine (cell_in.calls a0_1 0 256 true _ A4.out).mono ?_); rintro e w' ⟨rfl, ⟨nd, rfl⟩⟩) | (go_at_call 84; (with_reducible refine (cell_in.calls a0_2 0 255 t123 _ A6.out).mono ?_); rintro e w' ⟨rfl, ⟨nd, rfl⟩⟩))
   go_ret
   exact ⟨ze, zb⟩
  ·replace c5 := Bool.eq_false_iff.mpr c5
   subst c5
   have H1 : (some false) = some r := by rw [if_neg (show ¬ (false = true) by decide)] at H; exact H
   clear H
   have H := H1
   clear H1
   obtain rfl := Option.some.inj H
   go_enter Tryd.func83, Tryd.ntmps83
   go_wp2_with (first | ((with_reducible refine gate_dst (N := 1) rfl ?_); refine box_event ?hg (N := 1) ?hd (cs := #[.int .i64 a0_0, .int .i64 a0_1, .int .i64 a0_2]) (t := 58) ?hr ?_; (case hd => rfl); (case hg => rfl); (case hr => exact zo); intro gb120 hg w9 hbox hb; have BK120 := Aside0.mk (hbox); have GW120 := Aside0.mk ((zg hg : w.heap.size ≤ gb120)); have GE120 := Aside0.mk ((zg hg : w.heap.size ≤ gb120)); replace HB := (zs HB hb); clear hb hbox hg; obtain ⟨hcz10_0, hcz10_1, hcz10_2, hfz10_0, hfz10_1, hfz10_2⟩ := zq3 (w := w9) BK120) | ((with_reducible refine gate_callee (f := 84) rfl ?_); refine goesL_ (some 5) rfl rfl Tryd.func84 (by kernel_rfl) rfl #[.int .i64 a0_0, .int .i64 0, .int .i64 256] rfl zl ?_; (with_reducible refine (cell_in.calls a0_0 0 256 true _ A2.out).mono ?_); rintro e w' ⟨rfl, ⟨nd, rfl⟩⟩; refine ⟨_, rfl, ?_⟩) | (go_at_call 84; (with_reducible refine (cell_in.calls a0_1 0 256 false _ A4.out).mono ?_); rintro e w' ⟨rfl, ⟨nd, rfl⟩⟩))
   go_ret
   exact ⟨ze, zb⟩
 ·replace c3 := Bool.eq_false_iff.mpr c3
  subst c3
  have H1 : (some false) = some r := by rw [if_neg (show ¬ (false = true) by decide)] at H; exact H
  clear H
  have H := H1
  clear H1
  obtain rfl := Option.some.inj H
  go_enter Tryd.func83, Tryd.ntmps83
  go_wp2_with (first | ((with_reducible refine gate_dst (N := 1) rfl ?_); refine box_event ?hg (N := 1) ?hd (cs := #[.int .i64 a0_0, .int .i64 a0_1, .int .i64 a0_2]) (t := 58) ?hr ?_; (case hd => rfl); (case hg => rfl); (case hr => exact zo); intro gb120 hg w11 hbox hb; have BK120 := Aside0.mk (hbox); have GW120 := Aside0.mk ((zg hg : w.heap.size ≤ gb120)); have GE120 := Aside0.mk ((zg hg : w.heap.size ≤ gb120)); replace HB := (zs HB hb); clear hb hbox hg; obtain ⟨hcz12_0, hcz12_1, hcz12_2, hfz12_0, hfz12_1, hfz12_2⟩ := zq3 (w := w11) BK120) | ((with_reducible refine gate_callee (f := 84) rfl ?_); refine goesL_ (some 5) rfl rfl Tryd.func84 (by kernel_rfl) rfl #[.int .i64 a0_0, .int .i64 0, .int .i64 256] rfl zl ?_; (with_reducible refine (cell_in.calls a0_0 0 256 false _ A2.out).mono ?_); rintro e w' ⟨rfl, ⟨nd, rfl⟩⟩; refine ⟨_, rfl, ?_⟩))
  go_ret
  exact ⟨ze, zb⟩
end Go.Proofs.YtckkdaehmccjlaaDoor.P
namespace Go.Proofs.YtckkdaehmccjlaaDoor.P
open Go.RowKit Go.Proofs.YtckkdaehmccjlaaDoorW.PrintWords Go.Proofs.YtckkdaehmccjlaaDoorW.PrintLast Go.Proofs.YtckkdaehmccjlaaDoorW.PrintMore
def utf8_DecodeRuneInString.f (a0 : ByteArray) : Option (Int × Int) := some ((Lib.decodeGo a0).1, (Lib.decodeGo a0).2)
theorem utf8_DecodeRuneInString.calls (a0 : ByteArray) (r1 : Int) (r2 : Int) (w : World) (h : utf8_DecodeRuneInString.f a0 = some (r1, r2)) (hT : Tabs w := by first | exact Aside0.out (by with_reducible assumption) | exact Tabs.keepA (by with_reducible assumption) (by repeat (first | (with_reducible exact Aside0.out (by with_reducible assumption)) | (with_reducible apply below_alloc) | (with_reducible apply pw_below_drewN) | (with_reducible apply below_drew1) | (with_reducible refine below_set ?_ (Aside0.out (by with_reducible assumption)))))) :
    Calls Tryd.prog 103 #[.string a0] w fun e w' => e = .returned (.tuple #[.int .i32 r1, .int .i64 r2]) ∧ Below w.heap.size w w' := by
  have e := Option.some.inj h
  have e1 : ((Lib.decodeGo a0).1 : Int) = r1 := congrArg Prod.fst e
  have e2 : ((Lib.decodeGo a0).2 : Int) = r2 := congrArg Prod.snd e
  subst e1; subst e2
  exact Tryd.utf8_DecodeRuneInString a0 w hT.utf8
def fullN (n b0 b1 b2 : Nat) : Bool :=
  if n = 0 then false else if Lib.firstT b0 % 8 ≤ n then true
  else if 1 < n ∧ (b1 < Lib.accLo (Lib.firstT b0 / 16) ∨ Lib.accHi (Lib.firstT b0 / 16) < b1) then true
  else if 2 < n ∧ (b2 < 128 ∨ 191 < b2) then true else false
def utf8_FullRuneInString.f (a0 : ByteArray) : Option Bool := some (fullN a0.size (a0.get! 0).toNat (a0.get! 1).toNat (a0.get! 2).toNat)
open Go.Lib in
set_option maxHeartbeats 4000000 in
set_option maxRecDepth 100000 in
theorem full_any (s : ByteArray) (w : World) (hT : Tabs w) :
    Calls Tryd.prog 102 #[.string s] w fun e w' => e = .returned (.bool (fullN s.size (s.get! 0).toNat (s.get! 1).toNat (s.get! 2).toNat)) ∧ Below w.heap.size w w' := by
  by_cases h0 : s.size = 0
  · rw [show fullN s.size (s.get! 0).toNat (s.get! 1).toNat (s.get! 2).toNat = false by simp [fullN, h0]]
    go_enter Tryd.func102, Tryd.ntmps102
    go_wp2
    go_ret
    exact ⟨rfl, Below.refl _ _⟩
  · have hz0 : (0 : Int) < (s.size : Int) := by omega
    have hz0' : ((s.size : Int) == 0) = false := by simpa using h0
    obtain ⟨x0, hx0⟩ : ∃ x0, s.get! 0 = x0 := ⟨_, rfl⟩
    obtain ⟨x1, hx1⟩ : ∃ x1, s.get! 1 = x1 := ⟨_, rfl⟩
    obtain ⟨x2, hx2⟩ : ∃ x2, s.get! 2 = x2 := ⟨_, rfl⟩
    have hs0 : s[0]'(by omega) = x0 := by rw [← hx0]; exact (Utf8W.get!_of_lt s 0 (by omega)).symm
    have l0 := x0.toNat_lt; have l1 := x1.toNat_lt; have l2 := x2.toNat_lt
    rw [hx0, hx1, hx2]
    have hc0 := hT.utf8.1 x0.toNat (by omega)
    have hfc := Lib.firstT_cases x0.toNat
    by_cases hfull : firstT x0.toNat % 8 ≤ s.size
    · rw [show fullN s.size x0.toNat x1.toNat x2.toNat = true by simp [fullN, h0, hfull]]
      clear hT
      rcases hfc with hX | hX | hX | hX | hX | hX | hX | hX | hX
      all_goals
        rw [hX] at hc0 hfull
        clear hX h0
        simp only [Nat.reduceMod] at hfull
        have hfz := hfull
        go_enter Tryd.func102, Tryd.ntmps102
        go_wp2
        (go_ret; exact ⟨rfl, Below.refl _ _⟩)
    · have hcase : s.size = 1 ∨ s.size = 2 ∨ s.size = 3 := by
        rcases hfc with hX | hX | hX | hX | hX | hX | hX | hX | hX <;> rw [hX] at hfull <;> omega
      have hres : fullN s.size x0.toNat x1.toNat x2.toNat = (if 1 < s.size ∧ (x1.toNat < Lib.accLo (Lib.firstT x0.toNat / 16) ∨ Lib.accHi (Lib.firstT x0.toNat / 16) < x1.toNat) then true
          else if 2 < s.size ∧ (x2.toNat < 128 ∨ 191 < x2.toNat) then true else false) := by
        unfold fullN; rw [if_neg h0, if_neg hfull]
      rw [hres]
      clear hres
      rcases hcase with hn | hn | hn
      · rw [if_neg (by omega), if_neg (by omega)]
        rcases hfc with hX | hX | hX | hX | hX | hX | hX | hX | hX
        all_goals
          have ha0 := (hT.utf8.2 (firstT x0.toNat / 16) (by rw [hX]; omega)).1
          have ha1 := (hT.utf8.2 (firstT x0.toNat / 16) (by rw [hX]; omega)).2
          rw [hX] at hc0 hfull ha0 ha1
          simp only [accLo, accHi, Nat.reduceMul, Nat.reduceAdd, Nat.reduceEqDiff, if_true, if_false, Nat.reduceMod, Nat.reduceDiv] at ha0 ha1 hfull
          rw [hn] at hfull
          clear hT hX h0 hz0'
          first
          | (exfalso; omega)
          | (clear hfull
             have hn1d : decide ((1 : Int) < (s.size : Int)) = false := by rw [hn]; rfl
             have hn2d : decide ((2 : Int) < (s.size : Int)) = false := by rw [hn]; rfl
             go_enter Tryd.func102, Tryd.ntmps102
             go_wp2
             go_quiet (fail)
             go_wp2
             go_ret
             exact ⟨rfl, (((Below.refl _ _).alloc (Nat.le_refl _) _).trans (pw_below_drewN (Below.refl _ _) _))⟩)
      · have hz1 : (1 : Int) < (s.size : Int) := by omega
        have hs1 : s[1]'(by omega) = x1 := by rw [← hx1]; exact (Utf8W.get!_of_lt s 1 (by omega)).symm
        rcases hfc with hX | hX | hX | hX | hX | hX | hX | hX | hX
        all_goals
          have ha0 := (hT.utf8.2 (firstT x0.toNat / 16) (by rw [hX]; omega)).1
          have ha1 := (hT.utf8.2 (firstT x0.toNat / 16) (by rw [hX]; omega)).2
          rw [hX] at hc0 hfull ha0 ha1 ⊢
          simp only [Nat.reduceMul, Nat.reduceAdd, Nat.reduceMod, Nat.reduceDiv] at ha0 ha1 hfull ⊢
          clear hT hX h0 hz0'
          first
          | (exfalso; omega)
          | (clear hfull
             generalize accLo _ = LO at ha0 ⊢
             generalize accHi _ = HI at ha1 ⊢
             have hn1d : decide ((1 : Int) < (s.size : Int)) = true := decide_eq_true hz1
             have hn2d : decide ((2 : Int) < (s.size : Int)) = false := by rw [hn]; rfl
             by_cases hl : x1.toNat < LO
             · rw [if_pos ⟨by omega, .inl hl⟩]
               have hld : decide (x1.toNat < LO) = true := decide_eq_true (by omega)
               clear hl
               go_enter Tryd.func102, Tryd.ntmps102
               go_wp2
               go_quiet (fail)
               go_wp2
               go_ret
               exact ⟨rfl, (((Below.refl _ _).alloc (Nat.le_refl _) _).trans (pw_below_drewN (Below.refl _ _) _))⟩
             · have hld : decide (x1.toNat < LO) = false := decide_eq_false (by omega)
               by_cases hh : HI < x1.toNat
               · rw [if_pos ⟨by omega, .inr hh⟩]
                 have hhd : decide (HI < x1.toNat) = true := decide_eq_true (by omega)
                 clear hl hh
                 go_enter Tryd.func102, Tryd.ntmps102
                 go_wp2
                 go_quiet (fail)
                 go_wp2
                 go_ret
                 exact ⟨rfl, (((Below.refl _ _).alloc (Nat.le_refl _) _).trans (pw_below_drewN (Below.refl _ _) _))⟩
               · rw [if_neg (fun h => h.2.elim hl hh), if_neg (by omega)]
                 have hhd : decide (HI < x1.toNat) = false := decide_eq_false (by omega)
                 clear hl hh
                 go_enter Tryd.func102, Tryd.ntmps102
                 go_wp2
                 go_quiet (fail)
                 go_wp2
                 go_ret
                 exact ⟨rfl, (((Below.refl _ _).alloc (Nat.le_refl _) _).trans (pw_below_drewN (Below.refl _ _) _))⟩)
      · have hz1 : (1 : Int) < (s.size : Int) := by omega
        have hz2 : (2 : Int) < (s.size : Int) := by omega
        have hs1 : s[1]'(by omega) = x1 := by rw [← hx1]; exact (Utf8W.get!_of_lt s 1 (by omega)).symm
        have hs2 : s[2]'(by omega) = x2 := by rw [← hx2]; exact (Utf8W.get!_of_lt s 2 (by omega)).symm
        rcases hfc with hX | hX | hX | hX | hX | hX | hX | hX | hX
        all_goals
          have ha0 := (hT.utf8.2 (firstT x0.toNat / 16) (by rw [hX]; omega)).1
          have ha1 := (hT.utf8.2 (firstT x0.toNat / 16) (by rw [hX]; omega)).2
          rw [hX] at hc0 hfull ha0 ha1 ⊢
          simp only [Nat.reduceMul, Nat.reduceAdd, Nat.reduceMod, Nat.reduceDiv] at ha0 ha1 hfull ⊢
          clear hT hX h0 hz0'
          first
          | (exfalso; omega)
          | (clear hfull
             generalize accLo _ = LO at ha0 ⊢
             generalize accHi _ = HI at ha1 ⊢
             have hn1d : decide ((1 : Int) < (s.size : Int)) = true := decide_eq_true hz1
             have hn2d : decide ((2 : Int) < (s.size : Int)) = true := decide_eq_true hz2
             by_cases hl : x1.toNat < LO
             · rw [if_pos ⟨by omega, .inl hl⟩]
               have hld : decide (x1.toNat < LO) = true := decide_eq_true (by omega)
               clear hl
               go_enter Tryd.func102, Tryd.ntmps102
               go_wp2
               go_quiet (fail)
               go_wp2
               go_ret
               exact ⟨rfl, (((Below.refl _ _).alloc (Nat.le_refl _) _).trans (pw_below_drewN (Below.refl _ _) _))⟩
             · have hld : decide (x1.toNat < LO) = false := decide_eq_false (by omega)
               by_cases hh : HI < x1.toNat
               · rw [if_pos ⟨by omega, .inr hh⟩]
                 have hhd : decide (HI < x1.toNat) = true := decide_eq_true (by omega)
                 clear hl hh
                 go_enter Tryd.func102, Tryd.ntmps102
                 go_wp2
                 go_quiet (fail)
                 go_wp2
                 go_ret
                 exact ⟨rfl, (((Below.refl _ _).alloc (Nat.le_refl _) _).trans (pw_below_drewN (Below.refl _ _) _))⟩
               · rw [if_neg (fun h => h.2.elim hl hh)]
                 have hhd : decide (HI < x1.toNat) = false := decide_eq_false (by omega)
                 clear hl hh
                 by_cases h2l : x2.toNat < 128
                 · rw [if_pos ⟨by omega, .inl h2l⟩]
                   have h2ld : decide ((x2.toNat : Int) < 128) = true := decide_eq_true (by omega)
                   clear h2l
                   go_enter Tryd.func102, Tryd.ntmps102
                   go_wp2
                   go_quiet (fail)
                   go_wp2
                   go_ret
                   exact ⟨rfl, (((Below.refl _ _).alloc (Nat.le_refl _) _).trans (pw_below_drewN (Below.refl _ _) _))⟩
                 · have h2ld : decide ((x2.toNat : Int) < 128) = false := decide_eq_false (by omega)
                   by_cases h2h : 191 < x2.toNat
                   · rw [if_pos ⟨by omega, .inr h2h⟩]
                     have h2hd : decide ((191 : Int) < (x2.toNat : Int)) = true := decide_eq_true (by omega)
                     clear h2l h2h
                     go_enter Tryd.func102, Tryd.ntmps102
                     go_wp2
                     go_quiet (fail)
                     go_wp2
                     go_ret
                     exact ⟨rfl, (((Below.refl _ _).alloc (Nat.le_refl _) _).trans (pw_below_drewN (Below.refl _ _) _))⟩
                   · rw [if_neg (fun h => h.2.elim h2l h2h)]
                     have h2hd : decide ((191 : Int) < (x2.toNat : Int)) = false := decide_eq_false (by omega)
                     clear h2l h2h
                     go_enter Tryd.func102, Tryd.ntmps102
                     go_wp2
                     go_quiet (fail)
                     go_wp2
                     go_ret
                     exact ⟨rfl, (((Below.refl _ _).alloc (Nat.le_refl _) _).trans (pw_below_drewN (Below.refl _ _) _))⟩)
theorem utf8_FullRuneInString.calls (a0 : ByteArray) (r : Bool) (w : World) (h : utf8_FullRuneInString.f a0 = some r) (hT : Tabs w := by first | exact Aside0.out (by with_reducible assumption) | exact Tabs.keepA (by with_reducible assumption) (by repeat (first | (with_reducible exact Aside0.out (by with_reducible assumption)) | (with_reducible apply below_alloc) | (with_reducible apply pw_below_drewN) | (with_reducible apply below_drew1) | (with_reducible refine below_set ?_ (Aside0.out (by with_reducible assumption)))))) :
    Calls Tryd.prog 102 #[.string a0] w fun e w' => e = .returned (.bool r) ∧ Below w.heap.size w w' := by
  have e := Option.some.inj h
  subst e
  exact full_any a0 w hT
end Go.Proofs.YtckkdaehmccjlaaDoor.P
namespace Go.Proofs.YtckkdaehmccjlaaDoor.P
open Go.RowKit Go.Proofs.YtckkdaehmccjlaaDoorW.PrintWords Go.Proofs.YtckkdaehmccjlaaDoorW.PrintLast Go.Proofs.YtckkdaehmccjlaaDoorW.PrintMore
attribute [local go_sem] max2_int min2_int max_two min_two max_three min_three max_four min_four   -- for this text's walks alone
set_option linter.unusedVariables false
set_option linter.unusedSimpArgs false
mutual
def utf_First.j0 : Nat → ByteArray → Int → Int → Bool → Option (Int × Int × Int)
 | 0, _, _, _, _ => none
 | k + 1, x0, x5, x6, x20 => if x20 = true then (some (x5, x6, 0)) else (utf_First.l0 k x0 x6)
def utf_First.l0 : Nat → ByteArray → Int → Option (Int × Int × Int)
 | 0, _, _ => none
 | k + 1, x0, x6 => if x6 < (x0.size : Int) then (if 0 ≤ (wrap64 (x6 + 1)) then (if (wrap64 (x6 + 1)) ≤ (x0.size : Int) then ((utf8_FullRuneInString.f (x0.extract 0 ((wrap64 (x6 + 1)) : Int).toNat)).bind fun t127 => (if t127 = true then (some (0, x6, 4)) else (utf_First.l0 k x0 (wrap64 (x6 + 1))))) else (none)) else (none)) else (some (0, x6, 4))
end
def utf_First.f (k : Nat) (a0 : ByteArray) : Option (Int × Int × Int) := (utf8_FullRuneInString.f a0).bind fun t124 => (if t124 = true then ((utf8_DecodeRuneInString.f a0).bind fun bt125 => (if bt125.1 = 65533 then (utf_First.j0 k a0 bt125.1 bt125.2 (decide (bt125.2 > 1))) else (utf_First.j0 k a0 bt125.1 bt125.2 true))) else (some (0, 0, 2)))
set_option maxHeartbeats 8000000 in
set_option maxRecDepth 100000 in
theorem utf_First.calls (k : Nat) (a0 : ByteArray) (r1 : Int) (r2 : Int) (r3 : Int) (w : World) (h : utf_First.f k a0 = some (r1, r2, r3)) (hT : Tabs w := by first | exact Aside0.out (by with_reducible assumption) | exact Tabs.keepA (by with_reducible assumption) (by repeat (first | (with_reducible exact Aside0.out (by with_reducible assumption)) | (with_reducible apply below_alloc) | (with_reducible apply pw_below_drewN) | (with_reducible apply below_drew1) | (with_reducible refine below_set ?_ (Aside0.out (by with_reducible assumption)))))) :
  Calls Tryd.prog 85 #[.string a0] w fun e w' => e = .returned (.tuple #[.int .i32 r1, .int .i64 r2, .int .i64 r3]) ∧ Below w.heap.size w w' := by
 have HT := Aside0.mk (show Tabs w from hT)
 clear hT
 have HB := Aside0.mk (Below.refl w.heap.size w)
 have H : ((utf8_FullRuneInString.f a0).bind fun t124 => (if t124 = true then ((utf8_DecodeRuneInString.f a0).bind fun bt125 => (if bt125.1 = 65533 then (utf_First.j0 k a0 bt125.1 bt125.2 (decide (bt125.2 > 1))) else (utf_First.j0 k a0 bt125.1 bt125.2 true))) else (some (0, 0, 2)))) = some (r1, r2, r3) := h
 clear h
 replace H := Option.bind_eq_some_iff.mp H
 obtain ⟨t124, A20, H⟩ := H
 replace H : (if t124 = true then ((utf8_DecodeRuneInString.f a0).bind fun bt125 => (if bt125.1 = 65533 then (utf_First.j0 k a0 bt125.1 bt125.2 (decide (bt125.2 > 1))) else (utf_First.j0 k a0 bt125.1 bt125.2 true))) else (some (0, 0, 2))) = some (r1, r2, r3) := H
 have A2 := Aside0.mk A20
 clear A20
 by_cases c3 : t124 = true
 ·subst c3
  have H1 : ((utf8_DecodeRuneInString.f a0).bind fun bt125 => (if bt125.1 = 65533 then (utf_First.j0 k a0 bt125.1 bt125.2 (decide (bt125.2 > 1))) else (utf_First.j0 k a0 bt125.1 bt125.2 true))) = some (r1, r2, r3) := by rw [if_pos rfl] at H; exact H
  clear H
  have H := H1
  clear H1
  replace H := Option.bind_eq_some_iff.mp H
  obtain ⟨⟨t125, t126⟩, A40, H⟩ := H
  replace H : (if t125 = 65533 then (utf_First.j0 k a0 t125 t126 (decide (t126 > 1))) else (utf_First.j0 k a0 t125 t126 true)) = some (r1, r2, r3) := H
  have A4 := Aside0.mk A40
  clear A40
  have HC5 := Aside0.mk H
  clear H
  go_enter Tryd.func85, Tryd.ntmps85
  go_upto_region 4 with (first | ((with_reducible refine gate_callee (f := 102) rfl ?_); refine goesL_ (some 8) rfl rfl Tryd.func102 (by kernel_rfl) rfl #[.string a0] rfl zl ?_; (with_reducible refine (utf8_FullRuneInString.calls a0 true _ A2.out).mono ?_); rintro e w6 ⟨rfl, hb⟩; refine ⟨_, rfl, ?_⟩; replace HB := (zs HB hb); (try clear hb)) | ((with_reducible refine gate_callee (f := 103) rfl ?_); refine goesL_ (some 12) rfl rfl Tryd.func103 (by kernel_rfl) rfl #[.string a0] rfl zl ?_; (with_reducible refine (utf8_DecodeRuneInString.calls a0 t125 t126 _ A4.out).mono ?_); rintro e w7 ⟨rfl, hb⟩; refine ⟨_, rfl, ?_⟩; replace HB := (zs HB hb); (try clear hb)))
  (try simp only [Act.put, List.setIfInBounds_toArray, List.set_cons_zero, List.set_cons_succ])
  go_cut [20] (fun v20 wc => ∃ (kq : Nat) (x20_4 : Bool), v20 = .bool x20_4 ∧ Aside0 (utf_First.j0 kq a0 t125 t126 x20_4 = some (r1, r2, r3)) ∧ Aside0 (kq ≤ k) ∧ Aside0 (Below w.heap.size w wc))
  case first =>
   have H := HC5.out
   clear HC5
   by_cases c8 : t125 = 65533
   ·rw [if_pos c8] at H
    have c8b0 : (t125 == 65533) = true := beq_iff_eq.mpr c8
    have c8b1 : (t125 != 65533) = false := bne_eq_false_iff_eq.mpr c8
    clear c8
    (first | rw [c8b0] | (simp only [i64_w, i32_w]; rw [c8b0]) | skip)
    have H' := Aside0.mk H
    clear H
    go_wp2
    go_meet
    case rel => exact ⟨_, (decide (t126 > 1)), zf, H', ⟨by first | omega | exact Nat.le_refl _⟩, ⟨zb⟩⟩
   ·rw [if_neg c8] at H
    have c8b0 : (t125 == 65533) = false := beq_eq_false_iff_ne.mpr c8
    have c8b1 : (t125 != 65533) = true := bne_iff_ne.mpr c8
    (first | rw [c8b0] | (simp only [i64_w, i32_w]; rw [c8b0]) | skip)
    have H' := Aside0.mk H
    clear H
    go_wp2
    go_meet
    case rel => exact ⟨_, (true), zf, H', ⟨by first | omega | exact Nat.le_refl _⟩, ⟨zb⟩⟩
  case rest =>
   clear HC5
   try clear c3
   obtain ⟨kq, x20_4, rfl, HA, HJ4, HB⟩ := hcut
   cases kq with
   | zero => exact absurd HA.out (by simp [utf_First.j0])
   | succ kj4 =>
    have H := HA.out
    clear HA
    simp only [utf_First.j0] at H
    by_cases c9 : x20_4 = true
    ·subst c9
     have H1 : (some (t125, t126, 0)) = some (r1, r2, r3) := by rw [if_pos rfl] at H; exact H
     clear H
     have H := H1
     clear H1
     simp only [Option.some.injEq, Prod.mk.injEq] at H
     obtain ⟨rfl, rfl, rfl⟩ := H
     go_wp2
     go_ret3
     exact ⟨ze, zb⟩
    ·replace c9 := Bool.eq_false_iff.mpr c9
     subst c9
     have H1 : (utf_First.l0 kj4 a0 t126) = some (r1, r2, r3) := by rw [if_neg (show ¬ (false = true) by decide)] at H; exact H
     clear H
     have H := H1
     clear H1
     have H' := Aside0.mk H
     clear H
     go_wp2
     go_loopg [6] kj4 (fun kq v6 w' => ∃ (x6_2 : Int), v6 = .int .i64 x6_2 ∧ Aside0 (utf_First.l0 kq a0 x6_2 = some (r1, r2, r3)) ∧ Aside0 (kq ≤ kj4) ∧ Aside0 (Below w.heap.size w w'))
     case atStart => exact ⟨(t126), zf, H', ⟨Nat.le_refl _⟩, ⟨zb⟩⟩
     case round =>
      clear H'
      try clear c3
      try clear c9
      obtain ⟨x6_2, rfl, HA, HK2, HB⟩ := hrel
      cases gk with
      | zero => exact absurd HA.out (by simp [utf_First.l0])
      | succ k2 =>
       have H := HA.out
       clear HA
       simp only [utf_First.l0] at H
       by_cases c10 : x6_2 < (a0.size : Int)
       ·rw [if_pos c10] at H
        have c10b0 : decide (x6_2 < (a0.size : Int)) = true := decide_eq_true c10
        clear c10
        obtain ⟨ji11, hji11⟩ : ∃ j_ : Int, (wrap64 (x6_2 + 1)) = j_ := ⟨_, rfl⟩
        replace H : (if 0 ≤ (ji11) then (if (ji11) ≤ (a0.size : Int) then ((utf8_FullRuneInString.f (a0.extract 0 ((ji11) : Int).toNat)).bind fun t127 => (if t127 = true then (some (0, x6_2, 4)) else (utf_First.l0 k2 a0 ji11))) else (none)) else (none)) = some (r1, r2, r3) := by first | (rw [hji11] at H; exact H) | (simp only [hji11] at H ⊢; exact H)
        have hji11w : (IntKind.i64.wrap (x6_2 + 1)) = ji11 := (i64_w _).trans hji11
        by_cases c12 : 0 ≤ (ji11)
        ·rw [if_pos c12] at H
         have c12b0 := eq_true c12
         have c12b1 : decide (0 ≤ (ji11)) = true := decide_eq_true c12
         clear c12
         by_cases c13 : (ji11) ≤ (a0.size : Int)
         ·rw [if_pos c13] at H
          have c13b0 := eq_true c13
          have c13b1 : decide ((ji11) ≤ (a0.size : Int)) = true := decide_eq_true c13
          clear c13
          replace H := Option.bind_eq_some_iff.mp H
          obtain ⟨t127, A140, H⟩ := H
          replace H : (if t127 = true then (some (0, x6_2, 4)) else (utf_First.l0 k2 a0 ji11)) = some (r1, r2, r3) := H
          have A14 := Aside0.mk A140
          clear A140
          by_cases c15 : t127 = true
          ·subst c15
           have H1 : (some (0, x6_2, 4)) = some (r1, r2, r3) := by rw [if_pos rfl] at H; exact H
           clear H
           have H := H1
           clear H1
           simp only [Option.some.injEq, Prod.mk.injEq] at H
           obtain ⟨rfl, rfl, rfl⟩ := H
           go_wp2_with (first | (go_at_call 102; (with_reducible refine (utf8_FullRuneInString.calls (a0.extract 0 ((ji11) : Int).toNat) true _ A14.out).mono ?_); rintro e w16 ⟨rfl, hb⟩; replace HB := (zs HB hb); (try clear hb)))
           go_ret3
           exact ⟨by first | rfl | (simp [errW_none, errW_some] <;> rfl) | (simp only [← hji11]; first | rfl | (simp [errW_none, errW_some] <;> rfl)) | (simp [*, errW_none, errW_some] <;> rfl), zb⟩
          ·replace c15 := Bool.eq_false_iff.mpr c15
           subst c15
           have H1 : (utf_First.l0 k2 a0 ji11) = some (r1, r2, r3) := by rw [if_neg (show ¬ (false = true) by decide)] at H; exact H
           clear H
           have H := H1
           clear H1
           have H' := Aside0.mk H
           clear H
           go_wp2_with (first | (go_at_call 102; (with_reducible refine (utf8_FullRuneInString.calls (a0.extract 0 ((ji11) : Int).toNat) false _ A14.out).mono ?_); rintro e w17 ⟨rfl, hb⟩; replace HB := (zs HB hb); (try clear hb)))
           go_roundg k2
           case measure => have := HJ4.out; have := HK2.out; omega
           case rel => exact ⟨(ji11), (by first | rfl | (simp; done) | (simp only [← hji11] <;> (first | rfl | (simp; done))) | (simp [*]; done) | (simp; simp only [decide_eq_true_eq, eq_iff_iff, iff_true] at *; omega)), H', ⟨by have := HJ4.out; have := HK2.out; omega⟩, ⟨zb⟩⟩
         ·rw [if_neg c13] at H
          exact absurd H (by simp)
        ·rw [if_neg c12] at H
         exact absurd H (by simp)
       ·rw [if_neg c10] at H
        have c10b0 : decide (x6_2 < (a0.size : Int)) = false := decide_eq_false c10
        clear c10
        simp only [Option.some.injEq, Prod.mk.injEq] at H
        obtain ⟨rfl, rfl, rfl⟩ := H
        go_wp2
        go_ret3
        exact ⟨ze, zb⟩
 ·replace c3 := Bool.eq_false_iff.mpr c3
  subst c3
  have H1 : (some (0, 0, 2)) = some (r1, r2, r3) := by rw [if_neg (show ¬ (false = true) by decide)] at H; exact H
  clear H
  have H := H1
  clear H1
  simp only [Option.some.injEq, Prod.mk.injEq] at H
  obtain ⟨rfl, rfl, rfl⟩ := H
  go_enter Tryd.func85, Tryd.ntmps85
  go_wp2_with (first | ((with_reducible refine gate_callee (f := 102) rfl ?_); refine goesL_ (some 8) rfl rfl Tryd.func102 (by kernel_rfl) rfl #[.string a0] rfl zl ?_; (with_reducible refine (utf8_FullRuneInString.calls a0 false _ A2.out).mono ?_); rintro e w18 ⟨rfl, hb⟩; refine ⟨_, rfl, ?_⟩; replace HB := (zs HB hb); (try clear hb)))
  go_ret3
  exact ⟨ze, zb⟩
end Go.Proofs.YtckkdaehmccjlaaDoor.P
namespace Go.Proofs.YtckkdaehmccjlaaDoor.P
open Go.RowKit Go.Proofs.YtckkdaehmccjlaaDoorW.PrintWords Go.Proofs.YtckkdaehmccjlaaDoorW.PrintLast Go.Proofs.YtckkdaehmccjlaaDoorW.PrintMore
set_option linter.unusedVariables false
set_option linter.unusedSimpArgs false
def inAny (r : Int) (xs : List (Int × Int)) : Bool := xs.any fun p => decide (p.1 ≤ r) && decide (r ≤ p.2)
def SpanPost (r : Int) (xs : List (Int × Int)) (w : World) (e : Ending) (w' : World) : Prop :=
  ∃ v : Int, e = .returned (.int .i64 v) ∧ decide (0 ≤ v) = inAny r xs ∧ Below w.heap.size w w'
set_option maxHeartbeats 1000000 in
theorem within_clos (p1 p2 r : Int) (B : Nat) (w : World) (hB : w.cell? ⟨B, 0, none⟩ = some (.int .i32 r)) :
    Calls Tryd.prog 115 #[.agg #[.int .i32 p1, .int .i32 p2], .pointer (some ⟨B, 0, none⟩)] w fun e w' => e = .returned (.bool (decide (p1 ≤ r) && decide (r ≤ p2))) ∧ Below w.heap.size w w' := by
  have hB1 : (w.alloc (.cells #[.int .i32 p1, .int .i32 p2] 151)).cell? ⟨B, 0, none⟩ = some (.int .i32 r) := Lib.cell?_alloc_some _ hB
  by_cases h1 : p1 ≤ r
  · by_cases h2 : r ≤ p2
    · go_enter Tryd.func115, Tryd.ntmps115
      go_wp2
      go_ret
      exact ⟨by simp [h1, h2], (Below.refl _ _).alloc (Nat.le_refl _) _⟩
    · go_enter Tryd.func115, Tryd.ntmps115
      go_wp2
      go_ret
      exact ⟨by simp [h1, h2], (Below.refl _ _).alloc (Nat.le_refl _) _⟩
  · go_enter Tryd.func115, Tryd.ntmps115
    go_wp2
    go_ret
    exact ⟨by rw [decide_eq_false (by omega)]; rfl, (Below.refl _ _).alloc (Nat.le_refl _) _⟩
set_option maxHeartbeats 2000000 in
theorem span_index (r : Int) (B g c : Nat) (xs : List (Int × Int)) (w : World) (hm : xs.length ≤ 1000) (hB : w.cell? ⟨B, 0, none⟩ = some (.int .i32 r))
    (hc : ∀ j, j < xs.length → w.cell? ⟨g, j * 2, none⟩ = some (.int .i32 (xs.getD j (0, 0)).1) ∧ w.cell? ⟨g, j * 2 + 1, none⟩ = some (.int .i32 (xs.getD j (0, 0)).2)) :
    Calls Tryd.prog 120 #[.slice (some ⟨g, 0, none⟩) xs.length c, .func (.func 115) #[] #[.pointer (some ⟨B, 0, none⟩)]] w (SpanPost r xs w) := by
  go_enter Tryd.func120, Tryd.ntmps120
  go_wp2
  go_loopw [5, 8, 9, 10, 11, 12, 13, 14, 15, 16, 18] (fun _ i _ _ _ _ _ _ _ _ _ wr => ∃ k : Nat, k ≤ xs.length ∧ i = .int .i64 k ∧ Aside0 (inAny r (xs.take k) = false) ∧ Aside0 (Below w.heap.size w wr)) (fun _ i _ _ _ _ _ _ _ _ _ _ => xs.length - (intOf i).toNat)
  case atStart => exact ⟨0, Nat.zero_le _, rfl, ⟨rfl⟩, ⟨Below.refl _ _⟩⟩
  case round =>
    obtain ⟨k, hk, rfl, HA, HB⟩ := hrel
    by_cases hlt : k < xs.length
    · have hcell := hc k hlt
      obtain ⟨hc1, hc2⟩ := hcell
      have hw1 := pw_cell_below HB.out hc1
      have hw2 := pw_cell_below HB.out hc2
      have hwB := pw_cell_below HB.out hB
      clear hc hc1 hc2 hB
      have HS : Aside0 (inAny r (xs.take (k + 1)) = (decide ((xs.getD k (0, 0)).1 ≤ r) && decide (r ≤ (xs.getD k (0, 0)).2))) := ⟨by
        have h0 := HA.out
        unfold inAny at h0 ⊢
        rw [List.take_succ_eq_append_getElem hlt, List.any_append, h0]
        simp [List.getD_eq_getElem?_getD, hlt]⟩
      have HT : Aside0 (inAny r (xs.take (k + 1)) = true → inAny r xs = true) := ⟨fun h => by
        unfold inAny at h ⊢
        rw [← List.take_append_drop (k + 1) xs, List.any_append, h]; rfl⟩
      generalize (xs.getD k (0, 0)).1 = p1 at *
      generalize (xs.getD k (0, 0)).2 = p2 at *
      go_wp2_with (go_at_call 115; refine (within_clos p1 p2 r B _ hwB).mono ?_; rintro e w' ⟨rfl, hb⟩)
      · have hy : p1 ≤ r ∧ r ≤ p2 := by assumption
        go_ret
        exact ⟨k, rfl, by rw [HT.out (by rw [HS.out, decide_eq_true hy.1, decide_eq_true hy.2]; rfl)]; exact decide_eq_true (by omega), below_step HB.out hb⟩
      · have hy : r < p1 ∨ p2 < r := by assumption
        go_roundw
        case rel => exact ⟨k + 1, by omega, by go_num, ⟨by rw [HS.out]; rcases hy with hy | hy <;> simp <;> omega⟩, ⟨below_step HB.out hb⟩⟩
        case measure => simp [intOf]; omega
    · go_wp2
      go_ret
      obtain rfl : k = xs.length := by omega
      exact ⟨-1, rfl, by have h0 := HA.out; rw [List.take_length] at h0; rw [h0]; rfl, HB.out⟩
set_option maxHeartbeats 1000000 in
theorem span_contains (r : Int) (B g c : Nat) (xs : List (Int × Int)) (w : World) (hm : xs.length ≤ 1000) (hB : w.cell? ⟨B, 0, none⟩ = some (.int .i32 r))
    (hc : ∀ j, j < xs.length → w.cell? ⟨g, j * 2, none⟩ = some (.int .i32 (xs.getD j (0, 0)).1) ∧ w.cell? ⟨g, j * 2 + 1, none⟩ = some (.int .i32 (xs.getD j (0, 0)).2)) :
    Calls Tryd.prog 114 #[.slice (some ⟨g, 0, none⟩) xs.length c, .func (.func 115) #[] #[.pointer (some ⟨B, 0, none⟩)]] w fun e w' => e = .returned (.bool (inAny r xs)) ∧ Below w.heap.size w w' := by
  have cI := span_index r B g c xs w hm hB hc
  clear hc
  go_enter Tryd.func114, Tryd.ntmps114
  go_wp2_with (go_at_call 120; refine cI.mono ?_; rintro e w' ⟨v, rfl, hv, hb⟩; have HV := Aside0.mk hv; clear hv)
  go_ret
  exact ⟨by rw [← HV.out]; rfl, hb⟩
set_option maxHeartbeats 1000000 in
theorem span_within (r : Int) (g c : Nat) (xs : List (Int × Int)) (w : World) (hm : xs.length ≤ 1000)
    (hc : ∀ j, j < xs.length → w.cell? ⟨g, j * 2, none⟩ = some (.int .i32 (xs.getD j (0, 0)).1) ∧ w.cell? ⟨g, j * 2 + 1, none⟩ = some (.int .i32 (xs.getD j (0, 0)).2)) :
    Calls Tryd.prog 105 #[.slice (some ⟨g, 0, none⟩) xs.length c, .int .i32 r] w fun e w' => e = .returned (.bool (inAny r xs)) ∧ Below w.heap.size w w' := by
  have cI := span_contains r w.heap.size g c xs (w.alloc (.cells #[.int .i32 r] 21)) hm (by rw [World.cell?_alloc_new]; rfl) (fun j hj => ⟨Lib.cell?_alloc_some _ (hc j hj).1, Lib.cell?_alloc_some _ (hc j hj).2⟩)
  clear hc
  go_enter Tryd.func105, Tryd.ntmps105
  go_wp2_with (go_at_call 114; refine cI.mono ?_; rintro e w' ⟨rfl, hb⟩)
  go_ret
  exact ⟨rfl, ((Below.refl _ _).alloc (Nat.le_refl _) _).trans (hb.mono (by simp))⟩
def zeroSpans : List (Int × Int) := [(768, 879), (8203, 8205), (65024, 65039)]
def wideSpans : List (Int × Int) := [(4352, 4447), (12353, 19903), (19968, 40959), (44032, 55203), (63744, 64255), (65281, 65376), (127744, 129791), (131072, 262141)]
theorem zero_calls (w : World) : Calls Tryd.prog 106 #[] w fun e w' => e = .returned (.slice (some ⟨w.heap.size, 0, none⟩) 3 3) ∧
    (∀ j, j < zeroSpans.length → w'.cell? ⟨w.heap.size, j * 2, none⟩ = some (.int .i32 (zeroSpans.getD j (0, 0)).1) ∧ w'.cell? ⟨w.heap.size, j * 2 + 1, none⟩ = some (.int .i32 (zeroSpans.getD j (0, 0)).2)) ∧ Below w.heap.size w w' := by
  go_enter Tryd.func106, Tryd.ntmps106
  go_wp2
  go_ret
  refine ⟨rfl, fun j hj => ?_, (Below.refl _ _).alloc (Nat.le_refl _) _⟩
  have hj' : j = 0 ∨ j = 1 ∨ j = 2 := by have : zeroSpans.length = 3 := rfl; omega
  rcases hj' with rfl | rfl | rfl <;> exact ⟨by rw [World.cell?_alloc_new]; rfl, by rw [World.cell?_alloc_new]; rfl⟩
theorem wide_calls (w : World) : Calls Tryd.prog 107 #[] w fun e w' => e = .returned (.slice (some ⟨w.heap.size, 0, none⟩) 8 8) ∧
    (∀ j, j < wideSpans.length → w'.cell? ⟨w.heap.size, j * 2, none⟩ = some (.int .i32 (wideSpans.getD j (0, 0)).1) ∧ w'.cell? ⟨w.heap.size, j * 2 + 1, none⟩ = some (.int .i32 (wideSpans.getD j (0, 0)).2)) ∧ Below w.heap.size w w' := by
  go_enter Tryd.func107, Tryd.ntmps107
  go_wp2
  go_ret
  refine ⟨rfl, fun j hj => ?_, (Below.refl _ _).alloc (Nat.le_refl _) _⟩
  have hj' : j = 0 ∨ j = 1 ∨ j = 2 ∨ j = 3 ∨ j = 4 ∨ j = 5 ∨ j = 6 ∨ j = 7 := by have : wideSpans.length = 8 := rfl; omega
  rcases hj' with rfl | rfl | rfl | rfl | rfl | rfl | rfl | rfl <;> exact ⟨by rw [World.cell?_alloc_new]; rfl, by rw [World.cell?_alloc_new]; rfl⟩
def noLetter (r : Int) : Bool := !Lib.validRune r || decide (r < 32) || (decide (127 ≤ r) && decide (r < 160))
def utf_Width.f (a0 : Int) : Option Int := some (if noLetter a0 = true then -1 else if inAny a0 zeroSpans = true then 0 else if inAny a0 wideSpans = true then 2 else 1)
set_option maxHeartbeats 4000000 in
theorem width_no (r : Int) (w : World) (h : noLetter r = true) :
    Calls Tryd.prog 86 #[.int .i32 r] w fun e w' => e = .returned (.int .i64 (-1)) ∧ Below w.heap.size w w' := by
  unfold noLetter at h
  by_cases hv : Lib.validRune r = true
  · by_cases h1 : r < 32
    · clear h
      go_enter Tryd.func86, Tryd.ntmps86
      go_wp2_with (go_at_call 104; refine (Tryd.utf8_ValidRune r _).mono ?_; rintro e w' ⟨rfl, rfl⟩; rw [hv])
      go_ret
      exact ⟨rfl, Below.refl _ _⟩
    · have h2 : r ≥ 127 := by simp [hv, h1] at h; omega
      have h3 : r < 160 := by simp [hv, h1] at h; omega
      clear h
      go_enter Tryd.func86, Tryd.ntmps86
      go_wp2_with (go_at_call 104; refine (Tryd.utf8_ValidRune r _).mono ?_; rintro e w' ⟨rfl, rfl⟩; rw [hv])
      go_ret
      exact ⟨rfl, Below.refl _ _⟩
  · have hv' : Lib.validRune r = false := by simpa using hv
    clear h hv
    go_enter Tryd.func86, Tryd.ntmps86
    go_wp2_with (go_at_call 104; refine (Tryd.utf8_ValidRune r _).mono ?_; rintro e w' ⟨rfl, rfl⟩; rw [hv'])
    go_ret
    exact ⟨rfl, Below.refl _ _⟩
theorem within_zero (r : Int) (g : Nat) (w : World) (hc : ∀ j, j < zeroSpans.length → w.cell? ⟨g, j * 2, none⟩ = some (.int .i32 (zeroSpans.getD j (0, 0)).1) ∧ w.cell? ⟨g, j * 2 + 1, none⟩ = some (.int .i32 (zeroSpans.getD j (0, 0)).2)) :
    Calls Tryd.prog 105 #[.slice (some ⟨g, 0, none⟩) 3 3, .int .i32 r] w fun e w' => e = .returned (.bool (inAny r zeroSpans)) ∧ Below w.heap.size w w' := span_within r g 3 zeroSpans w (by decide) hc
theorem within_wide (r : Int) (g : Nat) (w : World) (hc : ∀ j, j < wideSpans.length → w.cell? ⟨g, j * 2, none⟩ = some (.int .i32 (wideSpans.getD j (0, 0)).1) ∧ w.cell? ⟨g, j * 2 + 1, none⟩ = some (.int .i32 (wideSpans.getD j (0, 0)).2)) :
    Calls Tryd.prog 105 #[.slice (some ⟨g, 0, none⟩) 8 8, .int .i32 r] w fun e w' => e = .returned (.bool (inAny r wideSpans)) ∧ Below w.heap.size w w' := span_within r g 8 wideSpans w (by decide) hc
set_option maxHeartbeats 4000000 in
theorem width_yes (r : Int) (w : World) (h : noLetter r = false) :
    Calls Tryd.prog 86 #[.int .i32 r] w fun e w' => e = .returned (.int .i64 (if inAny r zeroSpans = true then 0 else if inAny r wideSpans = true then 2 else 1)) ∧ Below w.heap.size w w' := by
  unfold noLetter at h
  have hv : Lib.validRune r = true := by cases h' : Lib.validRune r <;> simp [h'] at h ⊢
  have h1 : ¬ r < 32 := fun h' => by simp [h'] at h
  have h2 : r < 127 ∨ 160 ≤ r := by simp [hv] at h; omega
  clear h
  have h32 : decide (r < 32) = false := decide_eq_false h1
  clear h1
  rcases h2 with h2 | h2
  all_goals
    first
    | (have h127 : decide (r ≥ 127) = false := decide_eq_false (by omega))
    | (have h127 : decide (r ≥ 127) = true := decide_eq_true (by omega)
       have h160 : decide (r < 160) = false := decide_eq_false (by omega))
    clear h2
    cases hz : inAny r zeroSpans with
    | true =>
      rw [if_pos rfl]
      go_enter Tryd.func86, Tryd.ntmps86
      go_wp2_with (first | (go_at_call 104; refine (Tryd.utf8_ValidRune r _).mono ?_; rintro e w' ⟨rfl, rfl⟩; rw [hv]) | (go_at_call 106; refine (zero_calls _).mono ?_; rintro e w1 ⟨rfl, hc1, hb1⟩; have HC1 := Aside0.mk hc1; have HB1 := Aside0.mk hb1; clear hc1 hb1) | (go_at_call 105; refine (within_zero r _ _ HC1.out).mono ?_; rintro e w2 ⟨rfl, hb2⟩; have HB2 := Aside0.mk hb2; clear hb2; rw [hz]))
      go_ret
      exact ⟨rfl, below_step HB1.out HB2.out⟩
    | false =>
      rw [if_neg (by simp)]
      cases hw : inAny r wideSpans with
      | true =>
        go_enter Tryd.func86, Tryd.ntmps86
        go_wp2_with (first | (go_at_call 104; refine (Tryd.utf8_ValidRune r _).mono ?_; rintro e w' ⟨rfl, rfl⟩; rw [hv]) | (go_at_call 106; refine (zero_calls _).mono ?_; rintro e w1 ⟨rfl, hc1, hb1⟩; have HC1 := Aside0.mk hc1; have HB1 := Aside0.mk hb1; clear hc1 hb1) | (go_at_call 107; refine (wide_calls _).mono ?_; rintro e w3 ⟨rfl, hc3, hb3⟩; have HC3 := Aside0.mk hc3; have HB3 := Aside0.mk hb3; clear hc3 hb3) | (go_at_call 105; ((with_reducible refine (within_wide r _ _ HC3.out).mono ?_); rintro e w4 ⟨rfl, hb4⟩; have HB4 := Aside0.mk hb4; clear hb4; rw [hw])) | (go_at_call 105; ((with_reducible refine (within_zero r _ _ HC1.out).mono ?_); rintro e w2 ⟨rfl, hb2⟩; have HB2 := Aside0.mk hb2; clear hb2; rw [hz])))
        go_ret
        exact ⟨rfl, below_step (below_step (below_step HB1.out HB2.out) HB3.out) HB4.out⟩
      | false =>
        go_enter Tryd.func86, Tryd.ntmps86
        go_wp2_with (first | (go_at_call 104; refine (Tryd.utf8_ValidRune r _).mono ?_; rintro e w' ⟨rfl, rfl⟩; rw [hv]) | (go_at_call 106; refine (zero_calls _).mono ?_; rintro e w1 ⟨rfl, hc1, hb1⟩; have HC1 := Aside0.mk hc1; have HB1 := Aside0.mk hb1; clear hc1 hb1) | (go_at_call 107; refine (wide_calls _).mono ?_; rintro e w3 ⟨rfl, hc3, hb3⟩; have HC3 := Aside0.mk hc3; have HB3 := Aside0.mk hb3; clear hc3 hb3) | (go_at_call 105; ((with_reducible refine (within_wide r _ _ HC3.out).mono ?_); rintro e w4 ⟨rfl, hb4⟩; have HB4 := Aside0.mk hb4; clear hb4; rw [hw])) | (go_at_call 105; ((with_reducible refine (within_zero r _ _ HC1.out).mono ?_); rintro e w2 ⟨rfl, hb2⟩; have HB2 := Aside0.mk hb2; clear hb2; rw [hz])))
        go_ret
        exact ⟨rfl, below_step (below_step (below_step HB1.out HB2.out) HB3.out) HB4.out⟩
theorem utf_Width.calls (a0 : Int) (r : Int) (w : World) (h : utf_Width.f a0 = some r) :
    Calls Tryd.prog 86 #[.int .i32 a0] w fun e w' => e = .returned (.int .i64 r) ∧ Below w.heap.size w w' := by
  have e := Option.some.inj h
  subst e
  cases hn : noLetter a0 with
  | true => rw [if_pos rfl]; exact width_no a0 w hn
  | false => rw [if_neg (by simp)]; exact width_yes a0 w hn
end Go.Proofs.YtckkdaehmccjlaaDoor.P
namespace Go.Proofs.YtckkdaehmccjlaaDoor.P
open Go.RowKit Go.Proofs.YtckkdaehmccjlaaDoorW.PrintWords Go.Proofs.YtckkdaehmccjlaaDoorW.PrintLast Go.Proofs.YtckkdaehmccjlaaDoorW.PrintMore
attribute [local go_sem] max2_int min2_int max_two min_two max_three min_three max_four min_four   -- for this text's walks alone
set_option linter.unusedVariables false
set_option linter.unusedSimpArgs false
def cell_marks.l0 : Nat → ByteArray → Int → Option (Int)
 | 0, _, _ => none
 | k + 1, x0, x3 => if x0.toList = ([] : List UInt8) then (some x3) else ((utf_First.f k x0).bind fun bt128 => (if bt128.2.2 = 0 then ((utf_Width.f bt128.1).bind fun t131 => (if t131 = 0 then (if 0 ≤ bt128.2.1 then (if bt128.2.1 ≤ (x0.size : Int) then (cell_marks.l0 k (x0.extract (bt128.2.1 : Int).toNat x0.size) (wrap64 (x3 + 1))) else (none)) else (none)) else (some (-1)))) else (some (-1))))
def cell_marks.f (k : Nat) (a0 : ByteArray) : Option (Int) := cell_marks.l0 k a0 0
set_option maxHeartbeats 8000000 in
set_option maxRecDepth 100000 in
theorem cell_marks.calls (k : Nat) (a0 : ByteArray) (r : Int) (w : World) (h : cell_marks.f k a0 = some r) (hT : Tabs w := by first | exact Aside0.out (by with_reducible assumption) | exact Tabs.keepA (by with_reducible assumption) (by repeat (first | (with_reducible exact Aside0.out (by with_reducible assumption)) | (with_reducible apply below_alloc) | (with_reducible apply pw_below_drewN) | (with_reducible apply below_drew1) | (with_reducible refine below_set ?_ (Aside0.out (by with_reducible assumption)))))) :
  Calls Tryd.prog 87 #[.string a0] w fun e w' => e = .returned (.int .i64 r) ∧ Below w.heap.size w w' := by
 have HT := Aside0.mk (show Tabs w from hT)
 clear hT
 have HB := Aside0.mk (Below.refl w.heap.size w)
 have H : (cell_marks.l0 k a0 0) = some r := h
 clear h
 have H' := Aside0.mk H
 clear H
 go_enter Tryd.func87, Tryd.ntmps87
 go_wp2
 go_loopg [0, 3] k (fun kq v0 v3 w' => ∃ (x0_1 : ByteArray) (x3_1 : Int), v0 = .string x0_1 ∧ v3 = .int .i64 x3_1 ∧ Aside0 (cell_marks.l0 kq x0_1 x3_1 = some r) ∧ Aside0 (kq ≤ k) ∧ Aside0 (Below w.heap.size w w'))
 case atStart => exact ⟨(a0), (0), zf, zf, H', ⟨Nat.le_refl _⟩, ⟨zb⟩⟩
 case round =>
  clear H'
  obtain ⟨x0_1, x3_1, rfl, rfl, HA, HK1, HB⟩ := hrel
  cases gk with
  | zero => exact absurd HA.out (by simp [cell_marks.l0])
  | succ k1 =>
   have H := HA.out
   clear HA
   simp only [cell_marks.l0] at H
   by_cases c2 : x0_1.toList = ([] : List UInt8)
   ·rw [if_pos c2] at H
    have c2b0 : (x0_1.toList == ([] : List UInt8)) = true := beq_iff_eq.mpr c2
    have c2b1 : (x0_1.toList != ([] : List UInt8)) = false := bne_eq_false_iff_eq.mpr c2
    clear c2
    obtain rfl := Option.some.inj H
    go_wp2
    go_ret
    exact ⟨ze, zb⟩
   ·rw [if_neg c2] at H
    have c2b0 : (x0_1.toList == ([] : List UInt8)) = false := beq_eq_false_iff_ne.mpr c2
    have c2b1 : (x0_1.toList != ([] : List UInt8)) = true := bne_iff_ne.mpr c2
    replace H := Option.bind_eq_some_iff.mp H
    obtain ⟨⟨t128, t129, t130⟩, A30, H⟩ := H
    replace H : (if t130 = 0 then ((utf_Width.f t128).bind fun t131 => (if t131 = 0 then (if 0 ≤ t129 then (if t129 ≤ (x0_1.size : Int) then (cell_marks.l0 k1 (x0_1.extract (t129 : Int).toNat x0_1.size) (wrap64 (x3_1 + 1))) else (none)) else (none)) else (some (-1)))) else (some (-1))) = some r := H
    have A3 := Aside0.mk A30
    clear A30
    by_cases c4 : t130 = 0
    ·rw [if_pos c4] at H
     have c4b0 : (t130 == 0) = true := beq_iff_eq.mpr c4
     have c4b1 : (t130 != 0) = false := bne_eq_false_iff_eq.mpr c4
     clear c4
     replace H := Option.bind_eq_some_iff.mp H
     obtain ⟨t131, A50, H⟩ := H
     replace H : (if t131 = 0 then (if 0 ≤ t129 then (if t129 ≤ (x0_1.size : Int) then (cell_marks.l0 k1 (x0_1.extract (t129 : Int).toNat x0_1.size) (wrap64 (x3_1 + 1))) else (none)) else (none)) else (some (-1))) = some r := H
     have A5 := Aside0.mk A50
     clear A50
     by_cases c6 : t131 = 0
     ·rw [if_pos c6] at H
      have c6b0 : (t131 == 0) = true := beq_iff_eq.mpr c6
      have c6b1 : (t131 != 0) = false := bne_eq_false_iff_eq.mpr c6
      clear c6
      by_cases c7 : 0 ≤ t129
      ·rw [if_pos c7] at H
       have c7b0 := eq_true c7
       have c7b1 : decide (0 ≤ t129) = true := decide_eq_true c7
       clear c7
       by_cases c8 : t129 ≤ (x0_1.size : Int)
       ·rw [if_pos c8] at H
        have c8b0 := eq_true c8
        have c8b1 : decide (t129 ≤ (x0_1.size : Int)) = true := decide_eq_true c8
        clear c8
        have H' := Aside0.mk H
        clear H
        go_wp2_with (first | ((with_reducible refine gate_callee (f := 85) rfl ?_); refine goesL_ (some 11) rfl rfl Tryd.func85 (by kernel_rfl) rfl #[.string x0_1] rfl zl ?_; (with_reducible refine (utf_First.calls k1 x0_1 t128 t129 t130 _ A3.out).mono ?_); rintro e w9 ⟨rfl, hb⟩; refine ⟨_, rfl, ?_⟩; replace HB := (zs HB hb); (try clear hb)) | (go_at_call 86; (with_reducible refine (utf_Width.calls t128 t131 _ A5.out).mono ?_); rintro e w10 ⟨rfl, hb⟩; replace HB := (zs HB hb); (try clear hb)))
        go_roundg k1
        case measure => have := HK1.out; omega
        case rel => exact ⟨(x0_1.extract (t129 : Int).toNat x0_1.size), (wrap64 (x3_1 + 1)), zf, zf, H', ⟨by have := HK1.out; omega⟩, ⟨zb⟩⟩
       ·rw [if_neg c8] at H
        exact absurd H (by simp)
      ·rw [if_neg c7] at H
       exact absurd H (by simp)
     ·rw [if_neg c6] at H
      have c6b0 : (t131 == 0) = false := beq_eq_false_iff_ne.mpr c6
      have c6b1 : (t131 != 0) = true := bne_iff_ne.mpr c6
      obtain rfl := Option.some.inj H
      go_wp2_with (first | ((with_reducible refine gate_callee (f := 85) rfl ?_); refine goesL_ (some 11) rfl rfl Tryd.func85 (by kernel_rfl) rfl #[.string x0_1] rfl zl ?_; (with_reducible refine (utf_First.calls k1 x0_1 t128 t129 t130 _ A3.out).mono ?_); rintro e w11 ⟨rfl, hb⟩; refine ⟨_, rfl, ?_⟩; replace HB := (zs HB hb); (try clear hb)) | (go_at_call 86; (with_reducible refine (utf_Width.calls t128 t131 _ A5.out).mono ?_); rintro e w12 ⟨rfl, hb⟩; replace HB := (zs HB hb); (try clear hb)))
      go_ret
      exact ⟨ze, zb⟩
    ·rw [if_neg c4] at H
     have c4b0 : (t130 == 0) = false := beq_eq_false_iff_ne.mpr c4
     have c4b1 : (t130 != 0) = true := bne_iff_ne.mpr c4
     obtain rfl := Option.some.inj H
     go_wp2_with (first | ((with_reducible refine gate_callee (f := 85) rfl ?_); refine goesL_ (some 11) rfl rfl Tryd.func85 (by kernel_rfl) rfl #[.string x0_1] rfl zl ?_; (with_reducible refine (utf_First.calls k1 x0_1 t128 t129 t130 _ A3.out).mono ?_); rintro e w13 ⟨rfl, hb⟩; refine ⟨_, rfl, ?_⟩; replace HB := (zs HB hb); (try clear hb)))
     go_ret
     exact ⟨ze, zb⟩
def cell_Right.j0 : Nat → Int → Bool → ByteArray → Int → Int → Int → Int → Option (Bool)
 | 0, _, _, _, _, _, _, _ => none
 | k + 1, x4, x38, x133000, x133001, x133002, x133003, x133004 => if x38 = true then (some false) else ((cell_Look.f x133002 x133003 x133004).bind fun t140 => (if t140 = true then (if 0 ≤ x4 then (if x4 ≤ (x133000.size : Int) then ((cell_marks.f k (x133000.extract (x4 : Int).toNat x133000.size)).bind fun t141 => ((cell_in.f t141 0 2).bind fun t142 => (some t142))) else (none)) else (none)) else (some false)))
def cell_Right.f (k : Nat) (a0_0 : ByteArray) (a0_1 : Int) (a0_2 : Int) (a0_3 : Int) (a0_4 : Int) : Option (Bool) := if a0_0.toList = ([] : List UInt8) then ((cell_Look.f a0_2 a0_3 a0_4).bind fun t133 => (if t133 = true then ((cell_in.f a0_1 0 1).bind fun t134 => (some t134)) else (some false))) else ((utf_First.f k a0_0).bind fun bt135 => (if bt135.2.2 = 0 then ((cell_in.f a0_1 1 2).bind fun t138 => (if t138 = true then ((utf_Width.f bt135.1).bind fun t139 => (cell_Right.j0 k bt135.2.1 (t139 != a0_1) a0_0 a0_1 a0_2 a0_3 a0_4)) else (cell_Right.j0 k bt135.2.1 true a0_0 a0_1 a0_2 a0_3 a0_4))) else (cell_Right.j0 k bt135.2.1 true a0_0 a0_1 a0_2 a0_3 a0_4)))
def cell_Right.T4 : Bool × List (List Nat × List Nat) := (true, [([], []), ([0], [0]), ([1], [1]), ([2], [2]), ([3, 2], [2, 3]), ([4, 2, 2], [2, 4]), ([5, 2], [2, 5]), ([2, 6], [2, 6]), ([7, 5], [7]), ([8], [8]), ([9, 8, 8], [8, 9]), ([8], [8]), ([11, 8], [8, 11]), ([10, 12, 8], [8, 10, 12]), ([8, 13], [8, 13])])
def cell_Right.B4 : List Nat := [0, 1, 3, 7, 15, 31, 63, 127, 255, 511, 1023, 511, 2559, 8191, 16383]
theorem cell_Right.tab4 : rtab .any (opsOf Tryd.f70 4) = cell_Right.T4 := by kernel_rfl
theorem cell_Right.bits4 : waitsOk cell_Right.T4.2 cell_Right.B4 = true := by kernel_rfl
set_option maxHeartbeats 8000000 in
set_option maxRecDepth 100000 in
theorem cell_Right.calls (k : Nat) (a0_0 : ByteArray) (a0_1 : Int) (a0_2 : Int) (a0_3 : Int) (a0_4 : Int) (r : Bool) (w : World) (h : cell_Right.f k a0_0 a0_1 a0_2 a0_3 a0_4 = some r) (hT : Tabs w := by first | exact Aside0.out (by with_reducible assumption) | exact Tabs.keepA (by with_reducible assumption) (by repeat (first | (with_reducible exact Aside0.out (by with_reducible assumption)) | (with_reducible apply below_alloc) | (with_reducible apply pw_below_drewN) | (with_reducible apply below_drew1) | (with_reducible refine below_set ?_ (Aside0.out (by with_reducible assumption)))))) :
  Calls Tryd.prog 70 #[.agg #[.string a0_0, .int .i64 a0_1, .int .i64 a0_2, .int .i64 a0_3, .int .i64 a0_4]] w fun e w' => e = .returned (.bool r) ∧ Below w.heap.size w w' := by
 have HT := Aside0.mk (show Tabs w from hT)
 clear hT
 have hu60 := Tryd.underlying60
 have hu58 := Tryd.underlying58
 have HB := Aside0.mk (Below.refl w.heap.size w)
 have H : (if a0_0.toList = ([] : List UInt8) then ((cell_Look.f a0_2 a0_3 a0_4).bind fun t133 => (if t133 = true then ((cell_in.f a0_1 0 1).bind fun t134 => (some t134)) else (some false))) else ((utf_First.f k a0_0).bind fun bt135 => (if bt135.2.2 = 0 then ((cell_in.f a0_1 1 2).bind fun t138 => (if t138 = true then ((utf_Width.f bt135.1).bind fun t139 => (cell_Right.j0 k bt135.2.1 (t139 != a0_1) a0_0 a0_1 a0_2 a0_3 a0_4)) else (cell_Right.j0 k bt135.2.1 true a0_0 a0_1 a0_2 a0_3 a0_4))) else (cell_Right.j0 k bt135.2.1 true a0_0 a0_1 a0_2 a0_3 a0_4)))) = some r := h
 clear h
 by_cases c2 : a0_0.toList = ([] : List UInt8)
 ·rw [if_pos c2] at H
  have c2b0 : (a0_0.toList == ([] : List UInt8)) = true := beq_iff_eq.mpr c2
  have c2b1 : (a0_0.toList != ([] : List UInt8)) = false := bne_eq_false_iff_eq.mpr c2
  clear c2
  replace H := Option.bind_eq_some_iff.mp H
  obtain ⟨t133, A30, H⟩ := H
  replace H : (if t133 = true then ((cell_in.f a0_1 0 1).bind fun t134 => (some t134)) else (some false)) = some r := H
  have A3 := Aside0.mk A30
  clear A30
  by_cases c4 : t133 = true
  ·subst c4
   have H1 : ((cell_in.f a0_1 0 1).bind fun t134 => (some t134)) = some r := by rw [if_pos rfl] at H; exact H
   clear H
   have H := H1
   clear H1
   replace H := Option.bind_eq_some_iff.mp H
   obtain ⟨t134, A50, H⟩ := H
   replace H : (some t134) = some r := H
   have A5 := Aside0.mk A50
   clear A50
   obtain rfl := Option.some.inj H
   go_enter Tryd.func70, Tryd.ntmps70
   go_wp2_with (first | ((with_reducible refine gate_dst (N := 1) rfl ?_); refine box_event ?hg (N := 1) ?hd (cs := #[.string a0_0, .int .i64 a0_1, .int .i64 a0_2, .int .i64 a0_3, .int .i64 a0_4]) (t := 60) ?hr ?_; (case hd => rfl); (case hg => rfl); (case hr => exact zo); intro gb132 hg w6 hbox hb; have BK132 := Aside0.mk (hbox); have GW132 := Aside0.mk ((zg hg : w.heap.size ≤ gb132)); have GE132 := Aside0.mk ((zg hg : w.heap.size ≤ gb132)); replace HB := (zs HB hb); clear hb hbox hg; obtain ⟨hcz7_0, hcz7_1, hcz7_2, hcz7_3, hcz7_4, hfz7_0, hfz7_1, hfz7_2, hfz7_3, hfz7_4⟩ := zq5 (w := w6) BK132) | ((with_reducible refine gate_callee (f := 83) rfl ?_); refine goesL_ (some 11) rfl rfl Tryd.func83 (by kernel_rfl) rfl #[.agg #[.int .i64 a0_2, .int .i64 a0_3, .int .i64 a0_4]] rfl zl ?_; (with_reducible refine (cell_Look.calls a0_2 a0_3 a0_4 true _ A3.out).mono ?_); rintro e w8 ⟨rfl, hb⟩; refine ⟨_, rfl, ?_⟩; replace BK132 := (zk BK132 hb); replace HB := (zs HB hb); (try clear hb); obtain ⟨hcz9_0, hcz9_1, hcz9_2, hcz9_3, hcz9_4, hfz9_0, hfz9_1, hfz9_2, hfz9_3, hfz9_4⟩ := zq5 (w := w8) BK132) | (go_at_call 84; (with_reducible refine (cell_in.calls a0_1 0 1 t134 _ A5.out).mono ?_); rintro e w' ⟨rfl, ⟨nd, rfl⟩⟩))
   go_ret
   exact ⟨ze, zb⟩
  ·replace c4 := Bool.eq_false_iff.mpr c4
   subst c4
   have H1 : (some false) = some r := by rw [if_neg (show ¬ (false = true) by decide)] at H; exact H
   clear H
   have H := H1
   clear H1
   obtain rfl := Option.some.inj H
   go_enter Tryd.func70, Tryd.ntmps70
   go_wp2_with (first | ((with_reducible refine gate_dst (N := 1) rfl ?_); refine box_event ?hg (N := 1) ?hd (cs := #[.string a0_0, .int .i64 a0_1, .int .i64 a0_2, .int .i64 a0_3, .int .i64 a0_4]) (t := 60) ?hr ?_; (case hd => rfl); (case hg => rfl); (case hr => exact zo); intro gb132 hg w10 hbox hb; have BK132 := Aside0.mk (hbox); have GW132 := Aside0.mk ((zg hg : w.heap.size ≤ gb132)); have GE132 := Aside0.mk ((zg hg : w.heap.size ≤ gb132)); replace HB := (zs HB hb); clear hb hbox hg; obtain ⟨hcz11_0, hcz11_1, hcz11_2, hcz11_3, hcz11_4, hfz11_0, hfz11_1, hfz11_2, hfz11_3, hfz11_4⟩ := zq5 (w := w10) BK132) | ((with_reducible refine gate_callee (f := 83) rfl ?_); refine goesL_ (some 11) rfl rfl Tryd.func83 (by kernel_rfl) rfl #[.agg #[.int .i64 a0_2, .int .i64 a0_3, .int .i64 a0_4]] rfl zl ?_; (with_reducible refine (cell_Look.calls a0_2 a0_3 a0_4 false _ A3.out).mono ?_); rintro e w12 ⟨rfl, hb⟩; refine ⟨_, rfl, ?_⟩; replace BK132 := (zk BK132 hb); replace HB := (zs HB hb); (try clear hb)))
   go_ret
   exact ⟨ze, zb⟩
 ·rw [if_neg c2] at H
  have c2b0 : (a0_0.toList == ([] : List UInt8)) = false := beq_eq_false_iff_ne.mpr c2
  have c2b1 : (a0_0.toList != ([] : List UInt8)) = true := bne_iff_ne.mpr c2
  replace H := Option.bind_eq_some_iff.mp H
  obtain ⟨⟨t135, t136, t137⟩, A130, H⟩ := H
  replace H : (if t137 = 0 then ((cell_in.f a0_1 1 2).bind fun t138 => (if t138 = true then ((utf_Width.f t135).bind fun t139 => (cell_Right.j0 k t136 (t139 != a0_1) a0_0 a0_1 a0_2 a0_3 a0_4)) else (cell_Right.j0 k t136 true a0_0 a0_1 a0_2 a0_3 a0_4))) else (cell_Right.j0 k t136 true a0_0 a0_1 a0_2 a0_3 a0_4)) = some r := H
  have A13 := Aside0.mk A130
  clear A130
  have HC14 := Aside0.mk H
  clear H
  go_enter Tryd.func70, Tryd.ntmps70
  go_upto_region 4 with (first | ((with_reducible refine gate_dst (N := 1) rfl ?_); refine box_event ?hg (N := 1) ?hd (cs := #[.string a0_0, .int .i64 a0_1, .int .i64 a0_2, .int .i64 a0_3, .int .i64 a0_4]) (t := 60) ?hr ?_; (case hd => rfl); (case hg => rfl); (case hr => exact zo); intro gb132 hg w15 hbox hb; have BK132 := Aside0.mk (hbox); have GW132 := Aside0.mk ((zg hg : w.heap.size ≤ gb132)); have GE132 := Aside0.mk ((zg hg : w.heap.size ≤ gb132)); replace HB := (zs HB hb); clear hb hbox hg; obtain ⟨hcz16_0, hcz16_1, hcz16_2, hcz16_3, hcz16_4, hfz16_0, hfz16_1, hfz16_2, hfz16_3, hfz16_4⟩ := zq5 (w := w15) BK132) | ((with_reducible refine gate_callee (f := 85) rfl ?_); refine goesL_ (some 20) rfl rfl Tryd.func85 (by kernel_rfl) rfl #[.string a0_0] rfl zl ?_; (with_reducible refine (utf_First.calls k a0_0 t135 t136 t137 _ A13.out).mono ?_); rintro e w17 ⟨rfl, hb⟩; refine ⟨_, rfl, ?_⟩; replace BK132 := (zk BK132 hb); replace HB := (zs HB hb); (try clear hb)))
  (try simp only [Act.put, List.setIfInBounds_toArray, List.set_cons_zero, List.set_cons_succ])
  go_cut [38] (fun v38 wc => ∃ (kq : Nat) (x38_13 : Bool), v38 = .bool x38_13 ∧ Aside0 (cell_Right.j0 kq t136 x38_13 a0_0 a0_1 a0_2 a0_3 a0_4 = some r) ∧ Aside0 (kq ≤ k) ∧ Aside0 (wc.heap[gb132]? = some (.cells #[.string a0_0, .int .i64 a0_1, .int .i64 a0_2, .int .i64 a0_3, .int .i64 a0_4] 60 (0, 0))) ∧ Aside0 (Below w.heap.size w wc))
  case first =>
   have H := HC14.out
   clear HC14
   by_cases c18 : t137 = 0
   ·rw [if_pos c18] at H
    have c18b0 : (t137 == 0) = true := beq_iff_eq.mpr c18
    have c18b1 : (t137 != 0) = false := bne_eq_false_iff_eq.mpr c18
    clear c18
    (first | rw [c18b0] | (simp only [i64_w, i32_w]; rw [c18b0]) | skip)
    replace H := Option.bind_eq_some_iff.mp H
    obtain ⟨t138, A190, H⟩ := H
    replace H : (if t138 = true then ((utf_Width.f t135).bind fun t139 => (cell_Right.j0 k t136 (t139 != a0_1) a0_0 a0_1 a0_2 a0_3 a0_4)) else (cell_Right.j0 k t136 true a0_0 a0_1 a0_2 a0_3 a0_4)) = some r := H
    have A19 := Aside0.mk A190
    clear A190
    by_cases c20 : t138 = true
    ·subst c20
     have H1 : ((utf_Width.f t135).bind fun t139 => (cell_Right.j0 k t136 (t139 != a0_1) a0_0 a0_1 a0_2 a0_3 a0_4)) = some r := by rw [if_pos rfl] at H; exact H
     clear H
     have H := H1
     clear H1
     replace H := Option.bind_eq_some_iff.mp H
     obtain ⟨t139, A210, H⟩ := H
     replace H : (cell_Right.j0 k t136 (t139 != a0_1) a0_0 a0_1 a0_2 a0_3 a0_4) = some r := H
     have A21 := Aside0.mk A210
     clear A210
     have H' := Aside0.mk H
     clear H
     try go_wp2
     have n0_ := Aside0.mk (blk_drew BK132.out)
     have n1_ := Aside0.mk (below_drew1 HB.out)
     clear BK132
     clear HB
     have BK132 := n0_
     have HB := n1_
     clear n0_ n1_
     refine start_ (n := 15) (S := fun w' => w'.cell? ⟨gb132, 0, none⟩ = some (.string a0_0) ∧ w'.cell? ⟨gb132, 1, none⟩ = some (.int .i64 a0_1) ∧ w'.cell? ⟨gb132, 2, none⟩ = some (.int .i64 a0_2) ∧ w'.cell? ⟨gb132, 3, none⟩ = some (.int .i64 a0_3) ∧ w'.cell? ⟨gb132, 4, none⟩ = some (.int .i64 a0_4)) (ds := []) #[false, false, false, false, false, false, false, false, false, false, false, false, false, false, false] (by kernel_rfl) rfl rfl ⟨(blk_cell BK132.out 0).trans rfl, (blk_cell BK132.out 1).trans rfl, (blk_cell BK132.out 2).trans rfl, (blk_cell BK132.out 3).trans rfl, (blk_cell BK132.out 4).trans rfl⟩ (fun hHeld => ?_); refine with_tabW cell_Right.tab4 cell_Right.bits4 (fun HT_ HW_ => ?_)
     generalize w17.drew = w22 at BK132 HB hHeld ⊢
     refine pure_ (i := 0) (N := some 24) (v := ?_) (a' := ?_) #[true, false, false, false, false, false, false, false, false, false, false, false, false, false, false] rfl rfl (any_of HT_.out (by kernel_rfl)) (fun _ _ _ h => h) (Or.inl ⟨by rfl, ?_⟩) ?_ ?_
     rotate_left
     ·intro w'
      go_simp
      with_reducible rfl
     rotate_left
     ·exact zr
     refine pure_ (i := 1) (N := some 25) (v := ?_) (a' := ?_) #[true, true, false, false, false, false, false, false, false, false, false, false, false, false, false] rfl rfl (any_of HT_.out (by kernel_rfl)) (fun _ _ _ h => h) (Or.inl ⟨by rfl, ?_⟩) ?_ ?_
     rotate_left
     ·intro w'
      go_simp
      with_reducible rfl
     rotate_left
     ·exact zr
     refine pure_ (i := 2) (N := some 26) (v := ?_) (a' := ?_) #[true, true, true, false, false, false, false, false, false, false, false, false, false, false, false] rfl rfl (any_of HT_.out (by kernel_rfl)) (fun _ _ _ h => h) (Or.inl ⟨by rfl, ?_⟩) ?_ ?_
     rotate_left
     ·intro w'
      go_simp
      with_reducible rfl
     rotate_left
     ·exact zr
     refine pure_ (i := 3) (N := some 27) (v := ?_) (a' := ?_) #[true, true, true, true, false, false, false, false, false, false, false, false, false, false, false] rfl rfl (any_of HT_.out (by kernel_rfl)) (fun _ _ _ h => h) (Or.inl ⟨by rfl, ?_⟩) ?_ ?_
     rotate_left
     ·intro w'
      go_simp
      with_reducible rfl
     rotate_left
     ·exact zr
     refine take_ (i := 4) (N := some 28) (v := ?_) (a' := ?_) #[true, true, true, true, true, false, false, false, false, false, false, false, false, false, false] rfl rfl (take_ofW HT_.out HW_.out (by kernel_rfl)) (fun _ _ _ h => h) (Or.inl ⟨by rfl, ?_⟩) hHeld ?_ ?_
     rotate_left
     ·rintro w' ⟨s0, s1, s2, s3, s4⟩
      go_simp
      with_reducible rfl
     rotate_left
     ·exact zr
     refine one_ (i := 5) (N := some 29) #[true, true, true, true, true, true, false, false, false, false, false, false, false, false, false] rfl rfl (one_of HT_.out (by kernel_rfl)) (by decide) (fun K hK => ?_)
     refine goes_ Tryd.func84 (by kernel_rfl) rfl #[.int .i64 a0_1, .int .i64 1, .int .i64 2] (by rfl) rfl rfl zl ?_
     with_reducible refine (cell_in.calls a0_1 1 2 true _ A19.out).mono ?_
     rintro e w' ⟨rfl, ⟨nd, rfl⟩⟩
     refine ⟨_, rfl, ?_⟩
     refine hK.out _ _ ⟨(blk_cell BK132.out 0).trans rfl, (blk_cell BK132.out 1).trans rfl, (blk_cell BK132.out 2).trans rfl, (blk_cell BK132.out 3).trans rfl, (blk_cell BK132.out 4).trans rfl⟩ (fun hHeld => ?_)
     clear hK K
     refine norm_ (a' := ?_) ?_ ?_
     rotate_left
     ·show Act.put _ (some 29) _ = _
      simp only [Act.put, List.setIfInBounds_toArray, List.set_cons_zero, List.set_cons_succ, i64_w, i32_w]
      rfl
     refine pure_ (i := 6) (N := some 30) (v := ?_) (a' := ?_) #[true, true, true, true, true, true, true, false, false, false, false, false, false, false, false] rfl rfl (any_of HT_.out (by kernel_rfl)) (fun _ _ _ h => h) (Or.inl ⟨by rfl, ?_⟩) ?_ ?_
     rotate_left
     ·intro w'
      go_simp
      with_reducible rfl
     rotate_left
     ·exact zr
     refine pure_ (i := 7) (N := some 31) (v := ?_) (a' := ?_) #[true, true, true, true, true, true, true, true, false, false, false, false, false, false, false] rfl rfl (any_of HT_.out (by kernel_rfl)) (fun _ _ _ h => h) (Or.inl ⟨by rfl, ?_⟩) ?_ ?_
     rotate_left
     ·intro w'
      go_simp
      with_reducible rfl
     rotate_left
     ·exact zr
     refine pure_ (i := 8) (N := some 32) (v := ?_) (a' := ?_) #[true, true, true, true, true, true, true, true, true, false, false, false, false, false, false] rfl rfl (any_of HT_.out (by kernel_rfl)) (fun _ _ _ h => h) (Or.inl ⟨by rfl, ?_⟩) ?_ ?_
     rotate_left
     ·intro w'
      go_simp
      with_reducible rfl
     rotate_left
     ·exact zr
     refine pure_ (i := 9) (N := some 33) (v := ?_) (a' := ?_) #[true, true, true, true, true, true, true, true, true, true, false, false, false, false, false] rfl rfl (any_of HT_.out (by kernel_rfl)) (fun _ _ _ h => h) (Or.inl ⟨by rfl, ?_⟩) ?_ ?_
     rotate_left
     ·intro w'
      go_simp
      with_reducible rfl
     rotate_left
     ·exact zr
     refine pure_ (i := 11) (N := some 35) (v := ?_) (a' := ?_) #[true, true, true, true, true, true, true, true, true, true, false, true, false, false, false] rfl rfl (any_of HT_.out (by kernel_rfl)) (fun _ _ _ h => h) (Or.inl ⟨by rfl, ?_⟩) ?_ ?_
     rotate_left
     ·intro w'
      go_simp
      with_reducible rfl
     rotate_left
     ·exact zr
     refine take_ (i := 12) (N := some 36) (v := ?_) (a' := ?_) #[true, true, true, true, true, true, true, true, true, true, false, true, true, false, false] rfl rfl (take_ofW HT_.out HW_.out (by kernel_rfl)) (fun _ _ _ h => h) (Or.inl ⟨by rfl, ?_⟩) hHeld ?_ ?_
     rotate_left
     ·rintro w' ⟨s0, s1, s2, s3, s4⟩
      go_simp
      with_reducible rfl
     rotate_left
     ·exact zr
     refine one_ (i := 10) (N := some 34) #[true, true, true, true, true, true, true, true, true, true, true, true, true, false, false] rfl rfl (one_of HT_.out (by kernel_rfl)) (by decide) (fun K hK => ?_)
     refine goes_ Tryd.func86 (by kernel_rfl) rfl #[.int .i32 t135] (by rfl) rfl rfl zl ?_
     with_reducible refine (utf_Width.calls t135 t139 _ A21.out).mono ?_
     rintro e w23 ⟨rfl, hb⟩
     refine ⟨_, rfl, ?_⟩
     have n0_ := (zk BK132 hb)
     have n1_ := (zs HB hb)
     clear BK132
     clear HB
     have BK132 := n0_
     have HB := n1_
     clear n0_ n1_
     (try clear hb)
     (try clear hb2)
     (try clear hk)
     (try clear hi)
     refine hK.out _ _ ⟨(blk_cell BK132.out 0).trans rfl, (blk_cell BK132.out 1).trans rfl, (blk_cell BK132.out 2).trans rfl, (blk_cell BK132.out 3).trans rfl, (blk_cell BK132.out 4).trans rfl⟩ (fun hHeld => ?_)
     clear hK K
     refine norm_ (a' := ?_) ?_ ?_
     rotate_left
     ·show Act.put _ (some 34) _ = _
      simp only [Act.put, List.setIfInBounds_toArray, List.set_cons_zero, List.set_cons_succ, i64_w, i32_w]
      rfl
     refine pure_ (i := 13) (N := some 37) (v := ?_) (a' := ?_) #[true, true, true, true, true, true, true, true, true, true, true, true, true, true, false] rfl rfl (any_of HT_.out (by kernel_rfl)) (fun _ _ _ h => h) (Or.inl ⟨by rfl, ?_⟩) ?_ ?_
     rotate_left
     ·intro w'
      go_simp
      with_reducible rfl
     rotate_left
     ·exact zr
     refine pure_ (i := 14) (N := some 38) (v := ?_) (a' := ?_) #[true, true, true, true, true, true, true, true, true, true, true, true, true, true, true] rfl rfl (any_of HT_.out (by kernel_rfl)) (fun _ _ _ h => h) (Or.inl ⟨by rfl, ?_⟩) ?_ ?_
     rotate_left
     ·intro w'
      go_simp
      with_reducible rfl
     rotate_left
     ·exact zr
     refine done_ (done_of HT_.out (by kernel_rfl)) ?_
     try go_wp2
     go_meet
     case rel => exact ⟨_, ((t139 != a0_1)), zf, H', ⟨by first | omega | exact Nat.le_refl _⟩, ⟨by exact BK132.out⟩, ⟨zb⟩⟩
    ·replace c20 := Bool.eq_false_iff.mpr c20
     subst c20
     have H1 : (cell_Right.j0 k t136 true a0_0 a0_1 a0_2 a0_3 a0_4) = some r := by rw [if_neg (show ¬ (false = true) by decide)] at H; exact H
     clear H
     have H := H1
     clear H1
     have H' := Aside0.mk H
     clear H
     try go_wp2
     have n0_ := Aside0.mk (blk_drew BK132.out)
     have n1_ := Aside0.mk (below_drew1 HB.out)
     clear BK132
     clear HB
     have BK132 := n0_
     have HB := n1_
     clear n0_ n1_
     refine start_ (n := 15) (S := fun w' => w'.cell? ⟨gb132, 0, none⟩ = some (.string a0_0) ∧ w'.cell? ⟨gb132, 1, none⟩ = some (.int .i64 a0_1) ∧ w'.cell? ⟨gb132, 2, none⟩ = some (.int .i64 a0_2) ∧ w'.cell? ⟨gb132, 3, none⟩ = some (.int .i64 a0_3) ∧ w'.cell? ⟨gb132, 4, none⟩ = some (.int .i64 a0_4)) (ds := []) #[false, false, false, false, false, false, false, false, false, false, false, false, false, false, false] (by kernel_rfl) rfl rfl ⟨(blk_cell BK132.out 0).trans rfl, (blk_cell BK132.out 1).trans rfl, (blk_cell BK132.out 2).trans rfl, (blk_cell BK132.out 3).trans rfl, (blk_cell BK132.out 4).trans rfl⟩ (fun hHeld => ?_); refine with_tabW cell_Right.tab4 cell_Right.bits4 (fun HT_ HW_ => ?_)
     generalize w17.drew = w24 at BK132 HB hHeld ⊢
     refine pure_ (i := 0) (N := some 24) (v := ?_) (a' := ?_) #[true, false, false, false, false, false, false, false, false, false, false, false, false, false, false] rfl rfl (any_of HT_.out (by kernel_rfl)) (fun _ _ _ h => h) (Or.inl ⟨by rfl, ?_⟩) ?_ ?_
     rotate_left
     ·intro w'
      go_simp
      with_reducible rfl
     rotate_left
     ·exact zr
     refine pure_ (i := 1) (N := some 25) (v := ?_) (a' := ?_) #[true, true, false, false, false, false, false, false, false, false, false, false, false, false, false] rfl rfl (any_of HT_.out (by kernel_rfl)) (fun _ _ _ h => h) (Or.inl ⟨by rfl, ?_⟩) ?_ ?_
     rotate_left
     ·intro w'
      go_simp
      with_reducible rfl
     rotate_left
     ·exact zr
     refine pure_ (i := 2) (N := some 26) (v := ?_) (a' := ?_) #[true, true, true, false, false, false, false, false, false, false, false, false, false, false, false] rfl rfl (any_of HT_.out (by kernel_rfl)) (fun _ _ _ h => h) (Or.inl ⟨by rfl, ?_⟩) ?_ ?_
     rotate_left
     ·intro w'
      go_simp
      with_reducible rfl
     rotate_left
     ·exact zr
     refine pure_ (i := 3) (N := some 27) (v := ?_) (a' := ?_) #[true, true, true, true, false, false, false, false, false, false, false, false, false, false, false] rfl rfl (any_of HT_.out (by kernel_rfl)) (fun _ _ _ h => h) (Or.inl ⟨by rfl, ?_⟩) ?_ ?_
     rotate_left
     ·intro w'
      go_simp
      with_reducible rfl
     rotate_left
     ·exact zr
     refine take_ (i := 4) (N := some 28) (v := ?_) (a' := ?_) #[true, true, true, true, true, false, false, false, false, false, false, false, false, false, false] rfl rfl (take_ofW HT_.out HW_.out (by kernel_rfl)) (fun _ _ _ h => h) (Or.inl ⟨by rfl, ?_⟩) hHeld ?_ ?_
     rotate_left
     ·rintro w' ⟨s0, s1, s2, s3, s4⟩
      go_simp
      with_reducible rfl
     rotate_left
     ·exact zr
     refine one_ (i := 5) (N := some 29) #[true, true, true, true, true, true, false, false, false, false, false, false, false, false, false] rfl rfl (one_of HT_.out (by kernel_rfl)) (by decide) (fun K hK => ?_)
     refine goes_ Tryd.func84 (by kernel_rfl) rfl #[.int .i64 a0_1, .int .i64 1, .int .i64 2] (by rfl) rfl rfl zl ?_
     with_reducible refine (cell_in.calls a0_1 1 2 false _ A19.out).mono ?_
     rintro e w' ⟨rfl, ⟨nd, rfl⟩⟩
     refine ⟨_, rfl, ?_⟩
     refine hK.out _ _ ⟨(blk_cell BK132.out 0).trans rfl, (blk_cell BK132.out 1).trans rfl, (blk_cell BK132.out 2).trans rfl, (blk_cell BK132.out 3).trans rfl, (blk_cell BK132.out 4).trans rfl⟩ (fun hHeld => ?_)
     clear hK K
     refine norm_ (a' := ?_) ?_ ?_
     rotate_left
     ·show Act.put _ (some 29) _ = _
      simp only [Act.put, List.setIfInBounds_toArray, List.set_cons_zero, List.set_cons_succ, i64_w, i32_w]
      rfl
     refine pure_ (i := 6) (N := some 30) (v := ?_) (a' := ?_) #[true, true, true, true, true, true, true, false, false, false, false, false, false, false, false] rfl rfl (any_of HT_.out (by kernel_rfl)) (fun _ _ _ h => h) (Or.inl ⟨by rfl, ?_⟩) ?_ ?_
     rotate_left
     ·intro w'
      go_simp
      with_reducible rfl
     rotate_left
     ·exact zr
     refine pure_ (i := 7) (N := some 31) (v := ?_) (a' := ?_) #[true, true, true, true, true, true, true, true, false, false, false, false, false, false, false] rfl rfl (any_of HT_.out (by kernel_rfl)) (fun _ _ _ h => h) (Or.inl ⟨by rfl, ?_⟩) ?_ ?_
     rotate_left
     ·intro w'
      go_simp
      with_reducible rfl
     rotate_left
     ·exact zr
     refine pure_ (i := 8) (N := some 32) (v := ?_) (a' := ?_) #[true, true, true, true, true, true, true, true, true, false, false, false, false, false, false] rfl rfl (any_of HT_.out (by kernel_rfl)) (fun _ _ _ h => h) (Or.inl ⟨by rfl, ?_⟩) ?_ ?_
     rotate_left
     ·intro w'
      go_simp
      with_reducible rfl
     rotate_left
     ·exact zr
     refine pure_ (i := 9) (N := some 33) (v := undef) (a' := ?_) #[true, true, true, true, true, true, true, true, true, true, false, false, false, false, false] rfl rfl (any_of HT_.out (by kernel_rfl)) (fun _ _ _ h => h) (Or.inr ⟨by rfl, rfl⟩) ?_ ?_
     rotate_left
     ·exact zr
     refine pure_ (i := 10) (N := some 34) (v := undef) (a' := ?_) #[true, true, true, true, true, true, true, true, true, true, true, false, false, false, false] rfl rfl (any_of HT_.out (by kernel_rfl)) (fun _ _ _ h => h) (Or.inr ⟨by rfl, rfl⟩) ?_ ?_
     rotate_left
     ·exact zr
     refine pure_ (i := 11) (N := some 35) (v := undef) (a' := ?_) #[true, true, true, true, true, true, true, true, true, true, true, true, false, false, false] rfl rfl (any_of HT_.out (by kernel_rfl)) (fun _ _ _ h => h) (Or.inr ⟨by rfl, rfl⟩) ?_ ?_
     rotate_left
     ·exact zr
     refine pure_ (i := 12) (N := some 36) (v := undef) (a' := ?_) #[true, true, true, true, true, true, true, true, true, true, true, true, true, false, false] rfl rfl (any_of HT_.out (by kernel_rfl)) (fun _ _ _ h => h) (Or.inr ⟨by rfl, rfl⟩) ?_ ?_
     rotate_left
     ·exact zr
     refine pure_ (i := 13) (N := some 37) (v := undef) (a' := ?_) #[true, true, true, true, true, true, true, true, true, true, true, true, true, true, false] rfl rfl (any_of HT_.out (by kernel_rfl)) (fun _ _ _ h => h) (Or.inr ⟨by rfl, rfl⟩) ?_ ?_
     rotate_left
     ·exact zr
     refine pure_ (i := 14) (N := some 38) (v := ?_) (a' := ?_) #[true, true, true, true, true, true, true, true, true, true, true, true, true, true, true] rfl rfl (any_of HT_.out (by kernel_rfl)) (fun _ _ _ h => h) (Or.inl ⟨by rfl, ?_⟩) ?_ ?_
     rotate_left
     ·intro w'
      go_simp
      with_reducible rfl
     rotate_left
     ·exact zr
     refine done_ (done_of HT_.out (by kernel_rfl)) ?_
     try go_wp2
     go_meet
     case rel => exact ⟨_, (true), zf, H', ⟨by first | omega | exact Nat.le_refl _⟩, ⟨by exact BK132.out⟩, ⟨zb⟩⟩
   ·rw [if_neg c18] at H
    have c18b0 : (t137 == 0) = false := beq_eq_false_iff_ne.mpr c18
    have c18b1 : (t137 != 0) = true := bne_iff_ne.mpr c18
    (first | rw [c18b0] | (simp only [i64_w, i32_w]; rw [c18b0]) | skip)
    have H' := Aside0.mk H
    clear H
    try go_wp2
    have n0_ := Aside0.mk (blk_drew BK132.out)
    have n1_ := Aside0.mk (below_drew1 HB.out)
    clear BK132
    clear HB
    have BK132 := n0_
    have HB := n1_
    clear n0_ n1_
    refine start_ (n := 15) (S := fun w' => True) (ds := []) #[false, false, false, false, false, false, false, false, false, false, false, false, false, false, false] (by kernel_rfl) rfl rfl trivial (fun hHeld => ?_); refine with_tabW cell_Right.tab4 cell_Right.bits4 (fun HT_ HW_ => ?_)
    generalize w17.drew = w25 at BK132 HB hHeld ⊢
    refine pure_ (i := 0) (N := some 24) (v := ?_) (a' := ?_) #[true, false, false, false, false, false, false, false, false, false, false, false, false, false, false] rfl rfl (any_of HT_.out (by kernel_rfl)) (fun _ _ _ h => h) (Or.inl ⟨by rfl, ?_⟩) ?_ ?_
    rotate_left
    ·intro w'
     go_simp
     with_reducible rfl
    rotate_left
    ·exact zr
    refine pure_ (i := 1) (N := some 25) (v := ?_) (a' := ?_) #[true, true, false, false, false, false, false, false, false, false, false, false, false, false, false] rfl rfl (any_of HT_.out (by kernel_rfl)) (fun _ _ _ h => h) (Or.inl ⟨by rfl, ?_⟩) ?_ ?_
    rotate_left
    ·intro w'
     go_simp
     with_reducible rfl
    rotate_left
    ·exact zr
    refine pure_ (i := 2) (N := some 26) (v := ?_) (a' := ?_) #[true, true, true, false, false, false, false, false, false, false, false, false, false, false, false] rfl rfl (any_of HT_.out (by kernel_rfl)) (fun _ _ _ h => h) (Or.inl ⟨by rfl, ?_⟩) ?_ ?_
    rotate_left
    ·intro w'
     go_simp
     with_reducible rfl
    rotate_left
    ·exact zr
    refine pure_ (i := 3) (N := some 27) (v := undef) (a' := ?_) #[true, true, true, true, false, false, false, false, false, false, false, false, false, false, false] rfl rfl (any_of HT_.out (by kernel_rfl)) (fun _ _ _ h => h) (Or.inr ⟨by rfl, rfl⟩) ?_ ?_
    rotate_left
    ·exact zr
    refine pure_ (i := 4) (N := some 28) (v := undef) (a' := ?_) #[true, true, true, true, true, false, false, false, false, false, false, false, false, false, false] rfl rfl (any_of HT_.out (by kernel_rfl)) (fun _ _ _ h => h) (Or.inr ⟨by rfl, rfl⟩) ?_ ?_
    rotate_left
    ·exact zr
    refine pure_ (i := 5) (N := some 29) (v := undef) (a' := ?_) #[true, true, true, true, true, true, false, false, false, false, false, false, false, false, false] rfl rfl (any_of HT_.out (by kernel_rfl)) (fun _ _ _ h => h) (Or.inr ⟨by rfl, rfl⟩) ?_ ?_
    rotate_left
    ·exact zr
    refine pure_ (i := 6) (N := some 30) (v := undef) (a' := ?_) #[true, true, true, true, true, true, true, false, false, false, false, false, false, false, false] rfl rfl (any_of HT_.out (by kernel_rfl)) (fun _ _ _ h => h) (Or.inr ⟨by rfl, rfl⟩) ?_ ?_
    rotate_left
    ·exact zr
    refine pure_ (i := 7) (N := some 31) (v := ?_) (a' := ?_) #[true, true, true, true, true, true, true, true, false, false, false, false, false, false, false] rfl rfl (any_of HT_.out (by kernel_rfl)) (fun _ _ _ h => h) (Or.inl ⟨by rfl, ?_⟩) ?_ ?_
    rotate_left
    ·intro w'
     go_simp
     with_reducible rfl
    rotate_left
    ·exact zr
    refine pure_ (i := 8) (N := some 32) (v := ?_) (a' := ?_) #[true, true, true, true, true, true, true, true, true, false, false, false, false, false, false] rfl rfl (any_of HT_.out (by kernel_rfl)) (fun _ _ _ h => h) (Or.inl ⟨by rfl, ?_⟩) ?_ ?_
    rotate_left
    ·intro w'
     go_simp
     with_reducible rfl
    rotate_left
    ·exact zr
    refine pure_ (i := 9) (N := some 33) (v := undef) (a' := ?_) #[true, true, true, true, true, true, true, true, true, true, false, false, false, false, false] rfl rfl (any_of HT_.out (by kernel_rfl)) (fun _ _ _ h => h) (Or.inr ⟨by rfl, rfl⟩) ?_ ?_
    rotate_left
    ·exact zr
    refine pure_ (i := 10) (N := some 34) (v := undef) (a' := ?_) #[true, true, true, true, true, true, true, true, true, true, true, false, false, false, false] rfl rfl (any_of HT_.out (by kernel_rfl)) (fun _ _ _ h => h) (Or.inr ⟨by rfl, rfl⟩) ?_ ?_
    rotate_left
    ·exact zr
    refine pure_ (i := 11) (N := some 35) (v := undef) (a' := ?_) #[true, true, true, true, true, true, true, true, true, true, true, true, false, false, false] rfl rfl (any_of HT_.out (by kernel_rfl)) (fun _ _ _ h => h) (Or.inr ⟨by rfl, rfl⟩) ?_ ?_
    rotate_left
    ·exact zr
    refine pure_ (i := 12) (N := some 36) (v := undef) (a' := ?_) #[true, true, true, true, true, true, true, true, true, true, true, true, true, false, false] rfl rfl (any_of HT_.out (by kernel_rfl)) (fun _ _ _ h => h) (Or.inr ⟨by rfl, rfl⟩) ?_ ?_
    rotate_left
    ·exact zr
    refine pure_ (i := 13) (N := some 37) (v := undef) (a' := ?_) #[true, true, true, true, true, true, true, true, true, true, true, true, true, true, false] rfl rfl (any_of HT_.out (by kernel_rfl)) (fun _ _ _ h => h) (Or.inr ⟨by rfl, rfl⟩) ?_ ?_
    rotate_left
    ·exact zr
    refine pure_ (i := 14) (N := some 38) (v := ?_) (a' := ?_) #[true, true, true, true, true, true, true, true, true, true, true, true, true, true, true] rfl rfl (any_of HT_.out (by kernel_rfl)) (fun _ _ _ h => h) (Or.inl ⟨by rfl, ?_⟩) ?_ ?_
    rotate_left
    ·intro w'
     go_simp
     with_reducible rfl
    rotate_left
    ·exact zr
    refine done_ (done_of HT_.out (by kernel_rfl)) ?_
    try go_wp2
    go_meet
    case rel => exact ⟨_, (true), zf, H', ⟨by first | omega | exact Nat.le_refl _⟩, ⟨by exact BK132.out⟩, ⟨zb⟩⟩
  case rest =>
   clear HC14
   try clear c2
   try clear c2b0
   try clear c2b1
   try clear hcz16_0
   try clear hcz16_1
   try clear hcz16_2
   try clear hcz16_3
   try clear hcz16_4
   try clear hfz16_0
   try clear hfz16_1
   try clear hfz16_2
   try clear hfz16_3
   try clear hfz16_4
   obtain ⟨kq, x38_13, rfl, HA, HJ13, BK132, HB⟩ := hcut
   cases kq with
   | zero => exact absurd HA.out (by simp [cell_Right.j0])
   | succ kj13 =>
    have H := HA.out
    clear HA
    simp only [cell_Right.j0] at H
    by_cases c26 : x38_13 = true
    ·subst c26
     have H1 : (some false) = some r := by rw [if_pos rfl] at H; exact H
     clear H
     have H := H1
     clear H1
     obtain rfl := Option.some.inj H
     go_wp2
     go_ret
     exact ⟨ze, zb⟩
    ·replace c26 := Bool.eq_false_iff.mpr c26
     subst c26
     have H1 : ((cell_Look.f a0_2 a0_3 a0_4).bind fun t140 => (if t140 = true then (if 0 ≤ t136 then (if t136 ≤ (a0_0.size : Int) then ((cell_marks.f kj13 (a0_0.extract (t136 : Int).toNat a0_0.size)).bind fun t141 => ((cell_in.f t141 0 2).bind fun t142 => (some t142))) else (none)) else (none)) else (some false))) = some r := by rw [if_neg (show ¬ (false = true) by decide)] at H; exact H
     clear H
     have H := H1
     clear H1
     replace H := Option.bind_eq_some_iff.mp H
     obtain ⟨t140, A270, H⟩ := H
     replace H : (if t140 = true then (if 0 ≤ t136 then (if t136 ≤ (a0_0.size : Int) then ((cell_marks.f kj13 (a0_0.extract (t136 : Int).toNat a0_0.size)).bind fun t141 => ((cell_in.f t141 0 2).bind fun t142 => (some t142))) else (none)) else (none)) else (some false)) = some r := H
     have A27 := Aside0.mk A270
     clear A270
     by_cases c28 : t140 = true
     ·subst c28
      have H1 : (if 0 ≤ t136 then (if t136 ≤ (a0_0.size : Int) then ((cell_marks.f kj13 (a0_0.extract (t136 : Int).toNat a0_0.size)).bind fun t141 => ((cell_in.f t141 0 2).bind fun t142 => (some t142))) else (none)) else (none)) = some r := by rw [if_pos rfl] at H; exact H
      clear H
      have H := H1
      clear H1
      by_cases c29 : 0 ≤ t136
      ·rw [if_pos c29] at H
       have c29b0 := eq_true c29
       have c29b1 : decide (0 ≤ t136) = true := decide_eq_true c29
       clear c29
       by_cases c30 : t136 ≤ (a0_0.size : Int)
       ·rw [if_pos c30] at H
        have c30b0 := eq_true c30
        have c30b1 : decide (t136 ≤ (a0_0.size : Int)) = true := decide_eq_true c30
        clear c30
        replace H := Option.bind_eq_some_iff.mp H
        obtain ⟨t141, A310, H⟩ := H
        replace H : ((cell_in.f t141 0 2).bind fun t142 => (some t142)) = some r := H
        have A31 := Aside0.mk A310
        clear A310
        replace H := Option.bind_eq_some_iff.mp H
        obtain ⟨t142, A320, H⟩ := H
        replace H : (some t142) = some r := H
        have A32 := Aside0.mk A320
        clear A320
        obtain rfl := Option.some.inj H
        obtain ⟨hcz33_0, hcz33_1, hcz33_2, hcz33_3, hcz33_4, hfz33_0, hfz33_1, hfz33_2, hfz33_3, hfz33_4⟩ := zq5 (w := wc) BK132
        go_wp2_with (first | ((with_reducible refine gate_callee (f := 83) rfl ?_); refine goesL_ (some 41) rfl rfl Tryd.func83 (by kernel_rfl) rfl #[.agg #[.int .i64 a0_2, .int .i64 a0_3, .int .i64 a0_4]] rfl zl ?_; (with_reducible refine (cell_Look.calls a0_2 a0_3 a0_4 true _ A27.out).mono ?_); rintro e w34 ⟨rfl, hb⟩; refine ⟨_, rfl, ?_⟩; replace BK132 := (zk BK132 hb); replace HB := (zs HB hb); (try clear hb); obtain ⟨hcz35_0, hcz35_1, hcz35_2, hcz35_3, hcz35_4, hfz35_0, hfz35_1, hfz35_2, hfz35_3, hfz35_4⟩ := zq5 (w := w34) BK132) | (go_at_call 87; (with_reducible refine (cell_marks.calls kj13 (a0_0.extract (t136 : Int).toNat a0_0.size) t141 _ A31.out).mono ?_); rintro e w36 ⟨rfl, hb⟩; replace BK132 := (zk BK132 hb); replace HB := (zs HB hb); (try clear hb)) | (go_at_call 84; (with_reducible refine (cell_in.calls t141 0 2 t142 _ A32.out).mono ?_); rintro e w' ⟨rfl, ⟨nd, rfl⟩⟩))
        go_ret
        exact ⟨ze, zb⟩
       ·rw [if_neg c30] at H
        exact absurd H (by simp)
      ·rw [if_neg c29] at H
       exact absurd H (by simp)
     ·replace c28 := Bool.eq_false_iff.mpr c28
      subst c28
      have H1 : (some false) = some r := by rw [if_neg (show ¬ (false = true) by decide)] at H; exact H
      clear H
      have H := H1
      clear H1
      obtain rfl := Option.some.inj H
      obtain ⟨hcz37_0, hcz37_1, hcz37_2, hcz37_3, hcz37_4, hfz37_0, hfz37_1, hfz37_2, hfz37_3, hfz37_4⟩ := zq5 (w := wc) BK132
      go_wp2_with (first | ((with_reducible refine gate_callee (f := 83) rfl ?_); refine goesL_ (some 41) rfl rfl Tryd.func83 (by kernel_rfl) rfl #[.agg #[.int .i64 a0_2, .int .i64 a0_3, .int .i64 a0_4]] rfl zl ?_; (with_reducible refine (cell_Look.calls a0_2 a0_3 a0_4 false _ A27.out).mono ?_); rintro e w38 ⟨rfl, hb⟩; refine ⟨_, rfl, ?_⟩; replace BK132 := (zk BK132 hb); replace HB := (zs HB hb); (try clear hb)))
      go_ret
      exact ⟨ze, zb⟩
def grid_Fits.l0 : Nat → Int → List (S60) → Int → Int → List (S60) → Bool → Option (Bool)
 | 0, _, _, _, _, _, _ => none
 | k + 1, x1, x8, x9, x10, x147000, x147001 => if x10 < x9 then (if 0 ≤ x10 then (if x10 < (x8.length : Int) then ((cell_Right.f k ((rd_T60 x8 x10).f0) ((rd_T60 x8 x10).f1) ((rd_T60 x8 x10).f2.f0) ((rd_T60 x8 x10).f2.f1) ((rd_T60 x8 x10).f2.f2)).bind fun t149 => (if t149 = true then ((grid_whole.f x147000 x10).bind fun t150 => (if t150 = true then (grid_Fits.l0 k x1 x8 x9 (wrap64 (x10 + 1)) x147000 x147001) else (some false))) else (some false))) else (none)) else (none)) else (some ((x147000.length : Int) == x1))
def grid_Fits.f (k : Nat) (l0_0 : List (S60)) (a0_1 : Bool) (a1 : Int) : Option (Bool) := grid_Fits.l0 k a1 l0_0 (l0_0.length : Int) 0 l0_0 a0_1
set_option maxHeartbeats 8000000 in
set_option maxRecDepth 100000 in
theorem grid_Fits.calls (k : Nat) (A0_0 : Option Addr) (c0_0 : Nat) (l0_0 : List (S60)) (a0_1 : Bool) (a1 : Int) (r : Bool) (w : World) (hr0_0 : Kd.C k60 w A0_0 l0_0.length l0_0) (hc0_0 : l0_0.length ≤ c0_0) (h : grid_Fits.f k l0_0 a0_1 a1 = some r) (hT : Tabs w := by first | exact Aside0.out (by with_reducible assumption) | exact Tabs.keepA (by with_reducible assumption) (by repeat (first | (with_reducible exact Aside0.out (by with_reducible assumption)) | (with_reducible apply below_alloc) | (with_reducible apply pw_below_drewN) | (with_reducible apply below_drew1) | (with_reducible refine below_set ?_ (Aside0.out (by with_reducible assumption)))))) :
  Calls Tryd.prog 51 #[.agg #[.slice A0_0 l0_0.length c0_0, .bool a0_1], .int .i64 a1] w fun e w' => e = .returned (.bool r) ∧ Below w.heap.size w w' := by
 have HT := Aside0.mk (show Tabs w from hT)
 clear hT
 have hu38 := Tryd.underlying38
 have hu60 := Tryd.underlying60
 have HR0_0 := Aside0.mk hr0_0
 have HC0_0 := Aside0.mk hc0_0
 clear hr0_0 hc0_0
 have HB := Aside0.mk (Below.refl w.heap.size w)
 have H : (grid_Fits.l0 k a1 l0_0 (l0_0.length : Int) 0 l0_0 a0_1) = some r := h
 clear h
 have H' := Aside0.mk H
 clear H
 go_enter Tryd.func51, Tryd.ntmps51
 go_wp2_with (first | ((with_reducible refine gate_dst (N := 2) rfl ?_); refine box_event ?hg (N := 2) ?hd (cs := #[.slice A0_0 l0_0.length c0_0, .bool a0_1]) (t := 38) ?hr ?_; (case hd => rfl); (case hg => rfl); (case hr => exact zo); intro gb146 hg w3 hbox hb; have BK146 := Aside0.mk (hbox); have GW146 := Aside0.mk ((zg hg : w.heap.size ≤ gb146)); have GE146 := Aside0.mk ((zg hg : w.heap.size ≤ gb146)); replace HB := (zs HB hb); clear hb hbox hg; obtain ⟨hcz4_0, hcz4_1, hfz4_0, hfz4_1⟩ := zq2 (w := w3) BK146))
 go_loopg [10] k (fun kq v10 w' => ∃ (x10_1 : Int), v10 = .int .i64 x10_1 ∧ Aside0 (grid_Fits.l0 kq a1 l0_0 (l0_0.length : Int) x10_1 l0_0 a0_1 = some r) ∧ Aside0 (kq ≤ k) ∧ Aside0 (w'.heap[gb146]? = some (.cells #[(.slice A0_0 l0_0.length c0_0), .bool a0_1] 38 (0, 0))) ∧ Aside0 (Below w.heap.size w w'))
 case atStart => exact ⟨(0), zf, H', ⟨Nat.le_refl _⟩, ⟨by exact BK146.out⟩, ⟨zb⟩⟩
 case round =>
  clear H'
  try clear hcz4_0
  try clear hcz4_1
  try clear hfz4_0
  try clear hfz4_1
  obtain ⟨x10_1, rfl, HA, HK1, BK146, HB⟩ := hrel
  cases gk with
  | zero => exact absurd HA.out (by simp [grid_Fits.l0])
  | succ k1 =>
   have H := HA.out
   clear HA
   simp only [grid_Fits.l0] at H
   by_cases c5 : x10_1 < (l0_0.length : Int)
   ·rw [if_pos c5] at H
    have c5b0 : decide (x10_1 < (l0_0.length : Int)) = true := decide_eq_true c5
    clear c5
    by_cases c6 : 0 ≤ x10_1
    ·rw [if_pos c6] at H
     have c6b0 : decide (0 ≤ x10_1) = true := decide_eq_true c6
     clear c6
     by_cases c7 : x10_1 < (l0_0.length : Int)
     ·rw [if_pos c7] at H
      have c7b0 : decide (x10_1 < (l0_0.length : Int)) = true := decide_eq_true c7
      clear c7
      replace H := Option.bind_eq_some_iff.mp H
      obtain ⟨t149, A80, H⟩ := H
      replace H : (if t149 = true then ((grid_whole.f l0_0 x10_1).bind fun t150 => (if t150 = true then (grid_Fits.l0 k1 a1 l0_0 (l0_0.length : Int) (wrap64 (x10_1 + 1)) l0_0 a0_1) else (some false))) else (some false)) = some r := H
      have A8 := Aside0.mk A80
      clear A80
      by_cases c9 : t149 = true
      ·subst c9
       have H1 : ((grid_whole.f l0_0 x10_1).bind fun t150 => (if t150 = true then (grid_Fits.l0 k1 a1 l0_0 (l0_0.length : Int) (wrap64 (x10_1 + 1)) l0_0 a0_1) else (some false))) = some r := by rw [if_pos rfl] at H; exact H
       clear H
       have H := H1
       clear H1
       replace H := Option.bind_eq_some_iff.mp H
       obtain ⟨t150, A100, H⟩ := H
       replace H : (if t150 = true then (grid_Fits.l0 k1 a1 l0_0 (l0_0.length : Int) (wrap64 (x10_1 + 1)) l0_0 a0_1) else (some false)) = some r := H
       have A10 := Aside0.mk A100
       clear A100
       by_cases c11 : t150 = true
       ·subst c11
        have H1 : (grid_Fits.l0 k1 a1 l0_0 (l0_0.length : Int) (wrap64 (x10_1 + 1)) l0_0 a0_1) = some r := by rw [if_pos rfl] at H; exact H
        clear H
        have H := H1
        clear H1
        have H' := Aside0.mk H
        clear H
        have p147 : 0 ≤ (x10_1 : Int) := of_decide_eq_true za
        have q147 : x10_1 < (l0_0.length : Int) := of_decide_eq_true za
        obtain ⟨ad147, e147, hx147_0, hx147_1, hx147_2, hx147_3, hx147_4⟩ := at_T60 HR0_0.out x10_1 p147 q147
        cases e147
        replace hx147_0 := zc HB hx147_0
        replace hx147_1 := zc HB hx147_1
        replace hx147_2 := zc HB hx147_2
        replace hx147_3 := zc HB hx147_3
        replace hx147_4 := zc HB hx147_4
        replace p147 := eq_true p147
        replace q147 := eq_true q147
        go_wp2_with (first | ((with_reducible refine gate_dst (N := 6) rfl ?_); refine box_event ?hg (N := 6) ?hd (cs := #[.string (⟨#[]⟩ : ByteArray), .int .i64 0, .int .i64 0, .int .i64 0, .int .i64 0]) (t := 60) ?hr ?_; (case hd => rfl); (case hg => rfl); (case hr => exact zo); intro gb148 hg w12 hbox hb; have n0_ := (zk BK146 hb); have n1_ := (zs HB hb); have n2_ := Aside0.mk (hbox); have n3_ := Aside0.mk ((zg hg : w.heap.size ≤ gb148)); have n4_ := Aside0.mk ((zg hg : w.heap.size ≤ gb148)); have n5_ := Aside0.mk ((by rw [hg]; exact Nat.ne_of_lt (blk_lt (g := gb146) (o := .cells #[.slice (some ad147) l0_0.length c0_0, .bool a0_1] 38 (0, 0)) (by exact BK146.out)) : gb146 ≠ gb148)); have n6_ := Aside0.mk ((by rw [hg]; exact Nat.ne_of_gt (blk_lt (g := gb146) (o := .cells #[.slice (some ad147) l0_0.length c0_0, .bool a0_1] 38 (0, 0)) (by exact BK146.out)) : gb148 ≠ gb146)); clear BK146; clear HB; have BK146 := n0_; have HB := n1_; have BK148 := n2_; have GW148 := n3_; have GE148 := n4_; have NB146_148 := n5_; have NB148_146 := n6_; clear n0_ n1_ n2_ n3_ n4_ n5_ n6_; clear hb hbox hg; have hnb13 := NB148_146.out; have hnc13 := NB146_148.out; obtain ⟨hcz14_0, hcz14_1, hcz14_2, hcz14_3, hcz14_4, hfz14_0, hfz14_1, hfz14_2, hfz14_3, hfz14_4⟩ := zq5 (w := w12) BK148) | ((with_reducible refine gate_callee (f := 70) rfl ?_); refine goesL_ (some 16) rfl rfl Tryd.func70 (by kernel_rfl) rfl #[.agg #[.string ((rd_T60 l0_0 x10_1).f0), .int .i64 ((rd_T60 l0_0 x10_1).f1), .int .i64 ((rd_T60 l0_0 x10_1).f2.f0), .int .i64 ((rd_T60 l0_0 x10_1).f2.f1), .int .i64 ((rd_T60 l0_0 x10_1).f2.f2)]] rfl zl ?_; (with_reducible refine (cell_Right.calls k1 ((rd_T60 l0_0 x10_1).f0) ((rd_T60 l0_0 x10_1).f1) ((rd_T60 l0_0 x10_1).f2.f0) ((rd_T60 l0_0 x10_1).f2.f1) ((rd_T60 l0_0 x10_1).f2.f2) true _ A8.out).mono ?_); rintro e w15 ⟨rfl, hb⟩; refine ⟨_, rfl, ?_⟩; replace BK146 := Aside0.mk (blk_below (g := gb146) (o := .cells #[.slice (some ad147) l0_0.length c0_0, .bool a0_1] 38 (0, 0)) (by refine blk_far ?_ NB146_148.out _; refine blk_far ?_ NB146_148.out _; refine blk_far ?_ NB146_148.out _; refine blk_far ?_ NB146_148.out _; refine blk_far ?_ NB146_148.out _; exact BK146.out) hb); replace BK148 := Aside0.mk (blk_below (g := gb148) (o := .cells #[.string ((rd_T60 l0_0 x10_1).f0), .int .i64 ((rd_T60 l0_0 x10_1).f1), .int .i64 ((rd_T60 l0_0 x10_1).f2.f0), .int .i64 ((rd_T60 l0_0 x10_1).f2.f1), .int .i64 ((rd_T60 l0_0 x10_1).f2.f2)] 60 (0, 0)) (by refine blk_put (cs := #[.string ((rd_T60 l0_0 x10_1).f0), .int .i64 ((rd_T60 l0_0 x10_1).f1), .int .i64 ((rd_T60 l0_0 x10_1).f2.f0), .int .i64 ((rd_T60 l0_0 x10_1).f2.f1), .int .i64 0]) ?_ 4 _ rfl; refine blk_put (cs := #[.string ((rd_T60 l0_0 x10_1).f0), .int .i64 ((rd_T60 l0_0 x10_1).f1), .int .i64 ((rd_T60 l0_0 x10_1).f2.f0), .int .i64 0, .int .i64 0]) ?_ 3 _ rfl; refine blk_put (cs := #[.string ((rd_T60 l0_0 x10_1).f0), .int .i64 ((rd_T60 l0_0 x10_1).f1), .int .i64 0, .int .i64 0, .int .i64 0]) ?_ 2 _ rfl; refine blk_put (cs := #[.string ((rd_T60 l0_0 x10_1).f0), .int .i64 0, .int .i64 0, .int .i64 0, .int .i64 0]) ?_ 1 _ rfl; refine blk_put (cs := #[.string (⟨#[]⟩ : ByteArray), .int .i64 0, .int .i64 0, .int .i64 0, .int .i64 0]) ?_ 0 _ rfl; exact BK148.out) hb); replace HB := (zs HB hb); (try clear hb); obtain ⟨hcz16_0, hcz16_1, hfz16_0, hfz16_1⟩ := zq2 (w := w15) BK146) | (go_at_call 71; (with_reducible refine (grid_whole.calls _ _ l0_0 x10_1 true _ ?side1 ?side2 A10.out).mono ?_); (case side1 => repeat (first | exact (Kd.C_below HR0_0.out HB.out) | (with_reducible refine Kd.C_alloc ?_ _) | (with_reducible refine Kd.C_drewN ?_ _) | (with_reducible refine Kd.C_drew ?_))); (case side2 => exact HC0_0.out); rintro e w' ⟨rfl, ⟨nd, rfl⟩⟩))
        go_roundg k1
        case measure => have := HK1.out; omega
        case rel => exact ⟨(wrap64 (x10_1 + 1)), zf, H', ⟨by have := HK1.out; omega⟩, ⟨by exact BK146.out⟩, ⟨zb⟩⟩
       ·replace c11 := Bool.eq_false_iff.mpr c11
        subst c11
        have H1 : (some false) = some r := by rw [if_neg (show ¬ (false = true) by decide)] at H; exact H
        clear H
        have H := H1
        clear H1
        obtain rfl := Option.some.inj H
        have p147 : 0 ≤ (x10_1 : Int) := of_decide_eq_true za
        have q147 : x10_1 < (l0_0.length : Int) := of_decide_eq_true za
        obtain ⟨ad147, e147, hx147_0, hx147_1, hx147_2, hx147_3, hx147_4⟩ := at_T60 HR0_0.out x10_1 p147 q147
        cases e147
        replace hx147_0 := zc HB hx147_0
        replace hx147_1 := zc HB hx147_1
        replace hx147_2 := zc HB hx147_2
        replace hx147_3 := zc HB hx147_3
        replace hx147_4 := zc HB hx147_4
        replace p147 := eq_true p147
        replace q147 := eq_true q147
        go_wp2_with (first | ((with_reducible refine gate_dst (N := 6) rfl ?_); refine box_event ?hg (N := 6) ?hd (cs := #[.string (⟨#[]⟩ : ByteArray), .int .i64 0, .int .i64 0, .int .i64 0, .int .i64 0]) (t := 60) ?hr ?_; (case hd => rfl); (case hg => rfl); (case hr => exact zo); intro gb148 hg w17 hbox hb; have n0_ := (zk BK146 hb); have n1_ := (zs HB hb); have n2_ := Aside0.mk (hbox); have n3_ := Aside0.mk ((zg hg : w.heap.size ≤ gb148)); have n4_ := Aside0.mk ((zg hg : w.heap.size ≤ gb148)); have n5_ := Aside0.mk ((by rw [hg]; exact Nat.ne_of_lt (blk_lt (g := gb146) (o := .cells #[.slice (some ad147) l0_0.length c0_0, .bool a0_1] 38 (0, 0)) (by exact BK146.out)) : gb146 ≠ gb148)); have n6_ := Aside0.mk ((by rw [hg]; exact Nat.ne_of_gt (blk_lt (g := gb146) (o := .cells #[.slice (some ad147) l0_0.length c0_0, .bool a0_1] 38 (0, 0)) (by exact BK146.out)) : gb148 ≠ gb146)); clear BK146; clear HB; have BK146 := n0_; have HB := n1_; have BK148 := n2_; have GW148 := n3_; have GE148 := n4_; have NB146_148 := n5_; have NB148_146 := n6_; clear n0_ n1_ n2_ n3_ n4_ n5_ n6_; clear hb hbox hg; have hnb18 := NB148_146.out; have hnc18 := NB146_148.out; obtain ⟨hcz19_0, hcz19_1, hcz19_2, hcz19_3, hcz19_4, hfz19_0, hfz19_1, hfz19_2, hfz19_3, hfz19_4⟩ := zq5 (w := w17) BK148) | ((with_reducible refine gate_callee (f := 70) rfl ?_); refine goesL_ (some 16) rfl rfl Tryd.func70 (by kernel_rfl) rfl #[.agg #[.string ((rd_T60 l0_0 x10_1).f0), .int .i64 ((rd_T60 l0_0 x10_1).f1), .int .i64 ((rd_T60 l0_0 x10_1).f2.f0), .int .i64 ((rd_T60 l0_0 x10_1).f2.f1), .int .i64 ((rd_T60 l0_0 x10_1).f2.f2)]] rfl zl ?_; (with_reducible refine (cell_Right.calls k1 ((rd_T60 l0_0 x10_1).f0) ((rd_T60 l0_0 x10_1).f1) ((rd_T60 l0_0 x10_1).f2.f0) ((rd_T60 l0_0 x10_1).f2.f1) ((rd_T60 l0_0 x10_1).f2.f2) true _ A8.out).mono ?_); rintro e w20 ⟨rfl, hb⟩; refine ⟨_, rfl, ?_⟩; replace BK146 := Aside0.mk (blk_below (g := gb146) (o := .cells #[.slice (some ad147) l0_0.length c0_0, .bool a0_1] 38 (0, 0)) (by refine blk_far ?_ NB146_148.out _; refine blk_far ?_ NB146_148.out _; refine blk_far ?_ NB146_148.out _; refine blk_far ?_ NB146_148.out _; refine blk_far ?_ NB146_148.out _; exact BK146.out) hb); replace BK148 := Aside0.mk (blk_below (g := gb148) (o := .cells #[.string ((rd_T60 l0_0 x10_1).f0), .int .i64 ((rd_T60 l0_0 x10_1).f1), .int .i64 ((rd_T60 l0_0 x10_1).f2.f0), .int .i64 ((rd_T60 l0_0 x10_1).f2.f1), .int .i64 ((rd_T60 l0_0 x10_1).f2.f2)] 60 (0, 0)) (by refine blk_put (cs := #[.string ((rd_T60 l0_0 x10_1).f0), .int .i64 ((rd_T60 l0_0 x10_1).f1), .int .i64 ((rd_T60 l0_0 x10_1).f2.f0), .int .i64 ((rd_T60 l0_0 x10_1).f2.f1), .int .i64 0]) ?_ 4 _ rfl; refine blk_put (cs := #[.string ((rd_T60 l0_0 x10_1).f0), .int .i64 ((rd_T60 l0_0 x10_1).f1), .int .i64 ((rd_T60 l0_0 x10_1).f2.f0), .int .i64 0, .int .i64 0]) ?_ 3 _ rfl; refine blk_put (cs := #[.string ((rd_T60 l0_0 x10_1).f0), .int .i64 ((rd_T60 l0_0 x10_1).f1), .int .i64 0, .int .i64 0, .int .i64 0]) ?_ 2 _ rfl; refine blk_put (cs := #[.string ((rd_T60 l0_0 x10_1).f0), .int .i64 0, .int .i64 0, .int .i64 0, .int .i64 0]) ?_ 1 _ rfl; refine blk_put (cs := #[.string (⟨#[]⟩ : ByteArray), .int .i64 0, .int .i64 0, .int .i64 0, .int .i64 0]) ?_ 0 _ rfl; exact BK148.out) hb); replace HB := (zs HB hb); (try clear hb); obtain ⟨hcz21_0, hcz21_1, hfz21_0, hfz21_1⟩ := zq2 (w := w20) BK146) | (go_at_call 71; (with_reducible refine (grid_whole.calls _ _ l0_0 x10_1 false _ ?side1 ?side2 A10.out).mono ?_); (case side1 => repeat (first | exact (Kd.C_below HR0_0.out HB.out) | (with_reducible refine Kd.C_alloc ?_ _) | (with_reducible refine Kd.C_drewN ?_ _) | (with_reducible refine Kd.C_drew ?_))); (case side2 => exact HC0_0.out); rintro e w' ⟨rfl, ⟨nd, rfl⟩⟩))
        go_ret
        exact ⟨ze, zb⟩
      ·replace c9 := Bool.eq_false_iff.mpr c9
       subst c9
       have H1 : (some false) = some r := by rw [if_neg (show ¬ (false = true) by decide)] at H; exact H
       clear H
       have H := H1
       clear H1
       obtain rfl := Option.some.inj H
       have p147 : 0 ≤ (x10_1 : Int) := of_decide_eq_true za
       have q147 : x10_1 < (l0_0.length : Int) := of_decide_eq_true za
       obtain ⟨ad147, e147, hx147_0, hx147_1, hx147_2, hx147_3, hx147_4⟩ := at_T60 HR0_0.out x10_1 p147 q147
       cases e147
       replace hx147_0 := zc HB hx147_0
       replace hx147_1 := zc HB hx147_1
       replace hx147_2 := zc HB hx147_2
       replace hx147_3 := zc HB hx147_3
       replace hx147_4 := zc HB hx147_4
       replace p147 := eq_true p147
       replace q147 := eq_true q147
       go_wp2_with (first | ((with_reducible refine gate_dst (N := 6) rfl ?_); refine box_event ?hg (N := 6) ?hd (cs := #[.string (⟨#[]⟩ : ByteArray), .int .i64 0, .int .i64 0, .int .i64 0, .int .i64 0]) (t := 60) ?hr ?_; (case hd => rfl); (case hg => rfl); (case hr => exact zo); intro gb148 hg w22 hbox hb; have n0_ := (zk BK146 hb); have n1_ := (zs HB hb); have n2_ := Aside0.mk (hbox); have n3_ := Aside0.mk ((zg hg : w.heap.size ≤ gb148)); have n4_ := Aside0.mk ((zg hg : w.heap.size ≤ gb148)); have n5_ := Aside0.mk ((by rw [hg]; exact Nat.ne_of_lt (blk_lt (g := gb146) (o := .cells #[.slice (some ad147) l0_0.length c0_0, .bool a0_1] 38 (0, 0)) (by exact BK146.out)) : gb146 ≠ gb148)); have n6_ := Aside0.mk ((by rw [hg]; exact Nat.ne_of_gt (blk_lt (g := gb146) (o := .cells #[.slice (some ad147) l0_0.length c0_0, .bool a0_1] 38 (0, 0)) (by exact BK146.out)) : gb148 ≠ gb146)); clear BK146; clear HB; have BK146 := n0_; have HB := n1_; have BK148 := n2_; have GW148 := n3_; have GE148 := n4_; have NB146_148 := n5_; have NB148_146 := n6_; clear n0_ n1_ n2_ n3_ n4_ n5_ n6_; clear hb hbox hg; have hnb23 := NB148_146.out; have hnc23 := NB146_148.out; obtain ⟨hcz24_0, hcz24_1, hcz24_2, hcz24_3, hcz24_4, hfz24_0, hfz24_1, hfz24_2, hfz24_3, hfz24_4⟩ := zq5 (w := w22) BK148) | ((with_reducible refine gate_callee (f := 70) rfl ?_); refine goesL_ (some 16) rfl rfl Tryd.func70 (by kernel_rfl) rfl #[.agg #[.string ((rd_T60 l0_0 x10_1).f0), .int .i64 ((rd_T60 l0_0 x10_1).f1), .int .i64 ((rd_T60 l0_0 x10_1).f2.f0), .int .i64 ((rd_T60 l0_0 x10_1).f2.f1), .int .i64 ((rd_T60 l0_0 x10_1).f2.f2)]] rfl zl ?_; (with_reducible refine (cell_Right.calls k1 ((rd_T60 l0_0 x10_1).f0) ((rd_T60 l0_0 x10_1).f1) ((rd_T60 l0_0 x10_1).f2.f0) ((rd_T60 l0_0 x10_1).f2.f1) ((rd_T60 l0_0 x10_1).f2.f2) false _ A8.out).mono ?_); rintro e w25 ⟨rfl, hb⟩; refine ⟨_, rfl, ?_⟩; replace BK146 := Aside0.mk (blk_below (g := gb146) (o := .cells #[.slice (some ad147) l0_0.length c0_0, .bool a0_1] 38 (0, 0)) (by refine blk_far ?_ NB146_148.out _; refine blk_far ?_ NB146_148.out _; refine blk_far ?_ NB146_148.out _; refine blk_far ?_ NB146_148.out _; refine blk_far ?_ NB146_148.out _; exact BK146.out) hb); replace BK148 := Aside0.mk (blk_below (g := gb148) (o := .cells #[.string ((rd_T60 l0_0 x10_1).f0), .int .i64 ((rd_T60 l0_0 x10_1).f1), .int .i64 ((rd_T60 l0_0 x10_1).f2.f0), .int .i64 ((rd_T60 l0_0 x10_1).f2.f1), .int .i64 ((rd_T60 l0_0 x10_1).f2.f2)] 60 (0, 0)) (by refine blk_put (cs := #[.string ((rd_T60 l0_0 x10_1).f0), .int .i64 ((rd_T60 l0_0 x10_1).f1), .int .i64 ((rd_T60 l0_0 x10_1).f2.f0), .int .i64 ((rd_T60 l0_0 x10_1).f2.f1), .int .i64 0]) ?_ 4 _ rfl; refine blk_put (cs := #[.string ((rd_T60 l0_0 x10_1).f0), .int .i64 ((rd_T60 l0_0 x10_1).f1), .int .i64 ((rd_T60 l0_0 x10_1).f2.f0), .int .i64 0, .int .i64 0]) ?_ 3 _ rfl; refine blk_put (cs := #[.string ((rd_T60 l0_0 x10_1).f0), .int .i64 ((rd_T60 l0_0 x10_1).f1), .int .i64 0, .int .i64 0, .int .i64 0]) ?_ 2 _ rfl; refine blk_put (cs := #[.string ((rd_T60 l0_0 x10_1).f0), .int .i64 0, .int .i64 0, .int .i64 0, .int .i64 0]) ?_ 1 _ rfl; refine blk_put (cs := #[.string (⟨#[]⟩ : ByteArray), .int .i64 0, .int .i64 0, .int .i64 0, .int .i64 0]) ?_ 0 _ rfl; exact BK148.out) hb); replace HB := (zs HB hb); (try clear hb)))
       go_ret
       exact ⟨ze, zb⟩
     ·rw [if_neg c7] at H
      exact absurd H (by simp)
    ·rw [if_neg c6] at H
     exact absurd H (by simp)
   ·rw [if_neg c5] at H
    have c5b0 : decide (x10_1 < (l0_0.length : Int)) = false := decide_eq_false c5
    clear c5
    obtain rfl := Option.some.inj H
    obtain ⟨hcz26_0, hcz26_1, hfz26_0, hfz26_1⟩ := zq2 (w := wr) BK146
    go_wp2
    go_ret
    exact ⟨ze, zb⟩
def back_odd.f (k : Nat) (l0_0 : List (S60)) (a0_1 : Bool) : Option (Bool) := if (l0_0.length : Int) < 1 then (some true) else (if (l0_0.length : Int) > 80 then (some true) else ((grid_Fits.f k l0_0 a0_1 (l0_0.length : Int)).bind fun t152 => (some (!t152))))
set_option maxHeartbeats 8000000 in
set_option maxRecDepth 100000 in
theorem back_odd.calls (k : Nat) (A0_0 : Option Addr) (c0_0 : Nat) (l0_0 : List (S60)) (a0_1 : Bool) (r : Bool) (w : World) (hr0_0 : Kd.C k60 w A0_0 l0_0.length l0_0) (hc0_0 : l0_0.length ≤ c0_0) (h : back_odd.f k l0_0 a0_1 = some r) (hT : Tabs w := by first | exact Aside0.out (by with_reducible assumption) | exact Tabs.keepA (by with_reducible assumption) (by repeat (first | (with_reducible exact Aside0.out (by with_reducible assumption)) | (with_reducible apply below_alloc) | (with_reducible apply pw_below_drewN) | (with_reducible apply below_drew1) | (with_reducible refine below_set ?_ (Aside0.out (by with_reducible assumption)))))) :
  Calls Tryd.prog 80 #[.agg #[.slice A0_0 l0_0.length c0_0, .bool a0_1]] w fun e w' => e = .returned (.bool r) ∧ Below w.heap.size w w' := by
 have HT := Aside0.mk (show Tabs w from hT)
 clear hT
 have hu38 := Tryd.underlying38
 have HR0_0 := Aside0.mk hr0_0
 have HC0_0 := Aside0.mk hc0_0
 clear hr0_0 hc0_0
 have HB := Aside0.mk (Below.refl w.heap.size w)
 have H : (if (l0_0.length : Int) < 1 then (some true) else (if (l0_0.length : Int) > 80 then (some true) else ((grid_Fits.f k l0_0 a0_1 (l0_0.length : Int)).bind fun t152 => (some (!t152))))) = some r := h
 clear h
 by_cases c2 : (l0_0.length : Int) < 1
 ·rw [if_pos c2] at H
  have c2b0 : decide ((l0_0.length : Int) < 1) = true := decide_eq_true c2
  have c2b1 : decide (l0_0.length < 1) = true := decide_eq_true (by omega)
  clear c2
  obtain rfl := Option.some.inj H
  go_enter Tryd.func80, Tryd.ntmps80
  go_wp2_with (first | ((with_reducible refine gate_dst (N := 1) rfl ?_); refine box_event ?hg (N := 1) ?hd (cs := #[.slice A0_0 l0_0.length c0_0, .bool a0_1]) (t := 38) ?hr ?_; (case hd => rfl); (case hg => rfl); (case hr => exact zo); intro gb151 hg w3 hbox hb; have BK151 := Aside0.mk (hbox); have GW151 := Aside0.mk ((zg hg : w.heap.size ≤ gb151)); have GE151 := Aside0.mk ((zg hg : w.heap.size ≤ gb151)); replace HB := (zs HB hb); clear hb hbox hg; obtain ⟨hcz4_0, hcz4_1, hfz4_0, hfz4_1⟩ := zq2 (w := w3) BK151))
  go_ret
  exact ⟨ze, zb⟩
 ·rw [if_neg c2] at H
  have c2b0 : decide ((l0_0.length : Int) < 1) = false := decide_eq_false c2
  have c2b1 : decide (l0_0.length < 1) = false := decide_eq_false (by omega)
  clear c2
  by_cases c5 : (l0_0.length : Int) > 80
  ·rw [if_pos c5] at H
   have c5b0 : decide (80 < (l0_0.length : Int)) = true := decide_eq_true c5
   have c5b1 : decide (80 < l0_0.length) = true := decide_eq_true (by omega)
   clear c5
   obtain rfl := Option.some.inj H
   go_enter Tryd.func80, Tryd.ntmps80
   go_wp2_with (first | ((with_reducible refine gate_dst (N := 1) rfl ?_); refine box_event ?hg (N := 1) ?hd (cs := #[.slice A0_0 l0_0.length c0_0, .bool a0_1]) (t := 38) ?hr ?_; (case hd => rfl); (case hg => rfl); (case hr => exact zo); intro gb151 hg w6 hbox hb; have BK151 := Aside0.mk (hbox); have GW151 := Aside0.mk ((zg hg : w.heap.size ≤ gb151)); have GE151 := Aside0.mk ((zg hg : w.heap.size ≤ gb151)); replace HB := (zs HB hb); clear hb hbox hg; obtain ⟨hcz7_0, hcz7_1, hfz7_0, hfz7_1⟩ := zq2 (w := w6) BK151))
   go_ret
   exact ⟨ze, zb⟩
  ·rw [if_neg c5] at H
   have c5b0 : decide (80 < (l0_0.length : Int)) = false := decide_eq_false c5
   have c5b1 : decide (80 < l0_0.length) = false := decide_eq_false (by omega)
   clear c5
   replace H := Option.bind_eq_some_iff.mp H
   obtain ⟨t152, A80, H⟩ := H
   replace H : (some (!t152)) = some r := H
   have A8 := Aside0.mk A80
   clear A80
   obtain rfl := Option.some.inj H
   go_enter Tryd.func80, Tryd.ntmps80
   go_wp2_with (first | ((with_reducible refine gate_dst (N := 1) rfl ?_); refine box_event ?hg (N := 1) ?hd (cs := #[.slice A0_0 l0_0.length c0_0, .bool a0_1]) (t := 38) ?hr ?_; (case hd => rfl); (case hg => rfl); (case hr => exact zo); intro gb151 hg w9 hbox hb; have BK151 := Aside0.mk (hbox); have GW151 := Aside0.mk ((zg hg : w.heap.size ≤ gb151)); have GE151 := Aside0.mk ((zg hg : w.heap.size ≤ gb151)); replace HB := (zs HB hb); clear hb hbox hg; obtain ⟨hcz10_0, hcz10_1, hfz10_0, hfz10_1⟩ := zq2 (w := w9) BK151) | (go_at_call 51; (with_reducible refine (grid_Fits.calls k _ _ l0_0 a0_1 (l0_0.length : Int) t152 _ ?side1 ?side2 A8.out).mono ?_); (case side1 => repeat (first | exact (Kd.C_below HR0_0.out HB.out) | (with_reducible refine Kd.C_alloc ?_ _) | (with_reducible refine Kd.C_drewN ?_ _) | (with_reducible refine Kd.C_drew ?_))); (case side2 => exact HC0_0.out); rintro e w11 ⟨rfl, hb⟩; replace BK151 := (zk BK151 hb); replace HB := (zs HB hb); (try clear hb)))
   go_ret
   exact ⟨ze, zb⟩
end Go.Proofs.YtckkdaehmccjlaaDoor.P
namespace Go.Proofs.YtckkdaehmccjlaaDoor.P
open Go.RowKit Go.Proofs.YtckkdaehmccjlaaDoorW.PrintWords Go.Proofs.YtckkdaehmccjlaaDoorW.PrintLast Go.Proofs.YtckkdaehmccjlaaDoorW.PrintMore
set_option linter.unusedVariables false
set_option linter.unusedSimpArgs false
def oddIn (k : Nat) : List S38 → Option Bool
 | [] => some false
 | x :: t => (back_odd.f k x.f0 x.f1).bind fun b => if b = true then some true else oddIn k t
def back_Right.f (k : Nat) (a0_0 : Int) (l0_1 : List S38) : Option Bool :=
 if a0_0 ≥ 0 then if a0_0 ≤ 40 then if (l0_1.length : Int) ≤ a0_0 then (oddIn k l0_1).bind fun t => some (!t) else some false else some false else some false
def LinesPost (r : Bool) (w : World) (e : Ending) (w' : World) : Prop := ∃ v : Int, e = .returned (.int .i64 v) ∧ decide (0 ≤ v) = r ∧ Below w.heap.size w w'
set_option maxHeartbeats 4000000 in
set_option maxRecDepth 100000 in
theorem lines_index (k : Nat) (A : Option Addr) (c : Nat) (l : List S38) (r : Bool) (w : World) (hr : Kd.C k38 w A l.length l) (hc : l.length ≤ c) (h : oddIn k l = some r) (hT : Tabs w) :
  Calls Tryd.prog 101 #[.slice A l.length c, .func (.func 80) #[] #[]] w (LinesPost r w) := by
 have HR0 := Aside0.mk hr
 have HC0 := Aside0.mk hc
 have HT := Aside0.mk hT
 have H0 := Aside0.mk h
 have hm : l.length ≤ 9223372036854775807 := Kd.C_max hr
 clear hr hc hT h
 go_enter Tryd.func101, Tryd.ntmps101
 go_wp2
 go_loopw [8] (fun i wr => ∃ j : Nat, j ≤ l.length ∧ i = .int .i64 j ∧ Aside0 (oddIn k (l.drop j) = some r) ∧ Aside0 (Below w.heap.size w wr)) (fun i _ => l.length - (intOf i).toNat)
 case atStart => exact ⟨0, Nat.zero_le _, rfl, ⟨H0.out⟩, ⟨Below.refl _ _⟩⟩
 case round =>
  obtain ⟨j, hj, rfl, HA, HB⟩ := hrel
  by_cases hlt : j < l.length
  ·obtain ⟨b, hb0, hb1⟩ : ∃ b, back_odd.f k (rd_T38 l j).f0 (rd_T38 l j).f1 = some b ∧ (if b = true then some true else oddIn k (l.drop (j + 1))) = some r := by
    have h0 := HA.out
    rw [List.drop_eq_getElem_cons hlt] at h0
    unfold oddIn at h0
    obtain ⟨b, hb, h1⟩ := Option.bind_eq_some_iff.1 h0
    have e : rd_T38 l j = l[j] := by unfold rd_T38; simp [List.getD_eq_getElem?_getD, hlt]
    exact ⟨b, by rw [e]; exact hb, h1⟩
   obtain ⟨ad, A0, c0, e0, hx0, hx1, hl0, hi0⟩ := at_T38 HR0.out j (by omega) (by omega)
   cases e0
   replace hx0 := zc HB hx0
   replace hx1 := zc HB hx1
   simp only [Int.toNat_natCast] at hx0 hx1
   have HI := Aside0.mk hi0
   have HL := Aside0.mk hl0
   have HB0 := Aside0.mk hb0
   have HB1 := Aside0.mk hb1
   clear hi0 hl0 hb0 hb1
   go_wp2_with (go_at_call 80; (with_reducible refine (back_odd.calls k _ _ _ _ b _ (Kd.C_below HI.out HB.out) HL.out HB0.out).mono ?_); rintro e w1 ⟨rfl, hb⟩)
   ·have hy : b = true := by assumption
    subst hy
    go_ret
    exact ⟨j, rfl, by have := Option.some.inj (HB1.out : some true = some r); rw [← this]; exact decide_eq_true (by omega), below_step HB.out hb⟩
   ·have hy : b = false := by assumption
    subst hy
    go_roundw
    case rel => exact ⟨j + 1, by omega, by go_num, ⟨HB1.out⟩, ⟨below_step HB.out hb⟩⟩
    case measure => simp [intOf]; omega
  ·have HE : Aside0 (r = false) := ⟨by
    have h0 := HA.out
    rw [List.drop_eq_nil_of_le (by omega)] at h0
    exact (Option.some.inj h0).symm⟩
   go_wp2
   go_ret
   exact ⟨-1, rfl, by rw [HE.out]; rfl, HB.out⟩
set_option maxHeartbeats 1000000 in
theorem lines_contains (k : Nat) (A : Option Addr) (c : Nat) (l : List S38) (r : Bool) (w : World) (hr : Kd.C k38 w A l.length l) (hc : l.length ≤ c) (h : oddIn k l = some r) (hT : Tabs w) :
  Calls Tryd.prog 79 #[.slice A l.length c, .func (.func 80) #[] #[]] w fun e w' => e = .returned (.bool r) ∧ Below w.heap.size w w' := by
 have cI := lines_index k A c l r w hr hc h hT
 clear hr hc h hT
 go_enter Tryd.func79, Tryd.ntmps79
 go_wp2_with (go_at_call 101; refine cI.mono ?_; rintro e w' ⟨v, rfl, hv, hb⟩; have HV := Aside0.mk hv; clear hv)
 go_ret
 exact ⟨by rw [← HV.out]; rfl, hb⟩
set_option maxHeartbeats 4000000 in
set_option maxRecDepth 100000 in
theorem back_Right.calls (k : Nat) (a0_0 : Int) (A0_1 : Option Addr) (c0_1 : Nat) (l0_1 : List S38) (r : Bool) (w : World) (hr0_1 : Kd.C k38 w A0_1 l0_1.length l0_1) (hc0_1 : l0_1.length ≤ c0_1) (h : back_Right.f k a0_0 l0_1 = some r) (hT : Tabs w := by first | exact Aside0.out (by with_reducible assumption) | exact Tabs.keepA (by with_reducible assumption) (by repeat (first | (with_reducible exact Aside0.out (by with_reducible assumption)) | (with_reducible apply below_alloc) | (with_reducible apply pw_below_drewN) | (with_reducible apply below_drew1) | (with_reducible refine below_set ?_ (Aside0.out (by with_reducible assumption)))))) :
  Calls Tryd.prog 66 #[.agg #[.int .i64 a0_0, .slice A0_1 l0_1.length c0_1]] w fun e w' => e = .returned (.bool r) ∧ Below w.heap.size w w' := by
 have hm : l0_1.length ≤ 9223372036854775807 := Kd.C_max hr0_1
 unfold back_Right.f at h
 by_cases h1 : a0_0 ≥ 0
 ·rw [if_pos h1] at h
  by_cases h2 : a0_0 ≤ 40
  ·rw [if_pos h2] at h
   by_cases h3 : (l0_1.length : Int) ≤ a0_0
   ·rw [if_pos h3] at h
    obtain ⟨t, ht, h⟩ := Option.bind_eq_some_iff.1 h
    obtain rfl := Option.some.inj h
    have cI := fun W (hb : Below w.heap.size w W) => lines_contains k A0_1 c0_1 l0_1 t W (Kd.C_below hr0_1 hb) hc0_1 ht (hT.below hb)
    have CI := Aside0.mk cI
    clear h ht hr0_1 hT cI
    go_enter Tryd.func66, Tryd.ntmps66
    go_wp2_with (go_at_call 79; (with_reducible refine (CI.out _ (below_alloc (Below.refl _ _) _)).mono ?_); rintro e w' ⟨rfl, hb⟩)
    go_ret
    exact ⟨rfl, below_step (below_alloc (Below.refl _ _) _) hb⟩
   ·rw [if_neg h3] at h
    obtain rfl := Option.some.inj h
    clear h hr0_1 hT
    go_enter Tryd.func66, Tryd.ntmps66
    go_wp2
    go_ret
    exact ⟨rfl, below_alloc (Below.refl _ _) _⟩
  ·rw [if_neg h2] at h
   obtain rfl := Option.some.inj h
   clear h hr0_1 hT
   go_enter Tryd.func66, Tryd.ntmps66
   go_wp2
   go_ret
   exact ⟨rfl, below_alloc (Below.refl _ _) _⟩
 ·rw [if_neg h1] at h
  obtain rfl := Option.some.inj h
  clear h hr0_1 hT
  go_enter Tryd.func66, Tryd.ntmps66
  go_wp2
  go_ret
  exact ⟨rfl, below_alloc (Below.refl _ _) _⟩
end Go.Proofs.YtckkdaehmccjlaaDoor.P
namespace Go.Proofs.YtckkdaehmccjlaaDoor.P
open Go.RowKit Go.Proofs.YtckkdaehmccjlaaDoorW.PrintWords Go.Proofs.YtckkdaehmccjlaaDoorW.PrintLast Go.Proofs.YtckkdaehmccjlaaDoorW.PrintMore
attribute [local go_sem] Oper.semAt_some
set_option linter.unusedVariables false
set_option linter.unusedSimpArgs false
def piece (l : List S38) (j : Nat) : List S38 := (l.drop (40 * j)).take 40
def pieces (l : List S38) : Nat := (l.length + 39) / 40
def askN (k : Nat) (l : List S38) : Nat → Option Bool
 | 0 => some true
 | j + 1 => (askN k l j).bind fun a => (back_Right.f k 40 (piece l j)).bind fun b => some (a && b)
def flow_may.f (k : Nat) (l0 : List S38) : Option Bool := if l0.length ≤ 1000000000000 then (askN k l0 (pieces l0)).bind fun a => some (a && decide (l0.length ≤ 200)) else none
theorem askN_each {k : Nat} {l : List S38} : ∀ {n : Nat} {r : Bool}, askN k l n = some r → ∀ j, j < n → ∃ b, back_Right.f k 40 (piece l j) = some b
 | n + 1, r, h, j, hj => by
  obtain ⟨a, ha, h⟩ := Option.bind_eq_some_iff.1 h
  obtain ⟨b, hb, h⟩ := Option.bind_eq_some_iff.1 h
  by_cases e : j = n
  ·subst e; exact ⟨b, hb⟩
  ·exact askN_each ha j (by omega)
theorem askN_true {k : Nat} {l : List S38} : ∀ {n : Nat} {r : Bool}, askN k l n = some r → (∀ j, j < n → back_Right.f k 40 (piece l j) = some true) → r = true
 | 0, r, h, _ => (Option.some.inj h).symm
 | n + 1, r, h, hj => by
  obtain ⟨a, ha, h⟩ := Option.bind_eq_some_iff.1 h
  obtain ⟨b, hb, h⟩ := Option.bind_eq_some_iff.1 h
  rw [hj n (by omega)] at hb
  have := askN_true ha (fun j h => hj j (by omega))
  cases hb; subst this; exact (Option.some.inj h).symm
theorem askN_false {k : Nat} {l : List S38} : ∀ {n : Nat} {r : Bool}, askN k l n = some r → ∀ j, j < n → back_Right.f k 40 (piece l j) = some false → r = false
 | n + 1, r, h, j, hj, hf => by
  obtain ⟨a, ha, h⟩ := Option.bind_eq_some_iff.1 h
  obtain ⟨b, hb, h⟩ := Option.bind_eq_some_iff.1 h
  by_cases e : j = n
  ·subst e; rw [hf] at hb; cases hb; rw [← Option.some.inj h]; simp
  ·have := askN_false ha j (by omega) hf
   subst this; exact (Option.some.inj h).symm
theorem chunk_calls (A : Option Addr) (n c : Nat) (w : World) :
  Calls Tryd.prog 65 #[.slice A n c, .int .i64 40] w fun e w' => e = .returned (.func (.func 78) #[] #[.pointer (some ⟨w.heap.size, 0, none⟩), .pointer (some ⟨w.heap.size + 1, 0, none⟩)]) ∧ w' = (w.alloc (.cells #[.slice A n c] 22)).alloc (.cells #[.int .i64 40] 3) := by
 go_enter Tryd.func65, Tryd.ntmps65
 go_wp2
 go_ret
 exact ⟨rfl, rfl⟩
set_option maxRecDepth 100000 in
set_option maxHeartbeats 4000000 in
theorem chunk_iter (n : Nat) (hn : 1 ≤ n) (l Bs Bn n₀ len cap m : Nat) (A : Option Addr) (hcap : len ≤ cap) (hA : 0 < len → ∃ ad, A = some ad) (hlen : len ≤ 1000000000000) (hm : m = (len + 39) / 40) (hBs0 : Bs < n₀) (hBn0 : Bn < n₀)
  (J Jx : List { j : Nat // j < m } → World → Prop)
  (hJd : ∀ pre W q, J pre W → J pre (W.drewN q))
  (hY : ∀ pre (x : { j : Nat // j < m }) W, J pre W → pre.length < m → YieldAt Fence.wide (n - 1) Tryd.prog l #[.slice (A.map (·.add (40 * x.1 * 2))) (min 40 (len - 40 * x.1)) (min 40 (len - 40 * x.1))] W fun e W' =>
   (e = .returned (.bool true) ∧ J (pre ++ [x]) W' ∧ Below n₀ W W') ∨ (e = .returned (.bool false) ∧ Jx (pre ++ [x]) W'))
  (W : World) (hBs : W.cell? ⟨Bs, 0, none⟩ = some (.slice A len cap)) (hBn : W.cell? ⟨Bn, 0, none⟩ = some (.int .i64 40)) (h0 : J [] W) :
  CallsIn Fence.wide n Tryd.prog 78 #[.func (.yield l) #[] #[], .pointer (some ⟨Bs, 0, none⟩), .pointer (some ⟨Bn, 0, none⟩)] W fun e W' => (∃ v, e = .returned v) ∧
   ((∃ ys, ys.map (·.1) = List.range m ∧ J ys W') ∨ (∃ pre, (∃ k, k ≤ m ∧ pre.map (·.1) = List.range k) ∧ Jx pre W')) := by
 refine callsIn_of_wp Tryd.func78 rfl trivial ?_ rfl
 simp only [Tryd.ntmps78, List.size_toArray, List.length_cons, List.length_nil, Nat.reduceAdd, Nat.reduceSub, Array.replicate_succ, Array.replicate_zero, List.push_toArray, List.append_toArray, List.nil_append, List.cons_append]
 gi_wp2
 gi_loopw [4] (fun i wr => ∃ (k : Nat) (pre : List { j : Nat // j < m }), k ≤ m ∧ i = .int .i64 ((40 * k : Nat) : Int) ∧ Aside0 (pre.map (·.1) = List.range k) ∧ Aside0 (J pre wr) ∧ Aside0 (Below n₀ W wr))
  (fun i _ => 40 * m - (intOf i).toNat)
 case atStart => exact ⟨0, [], Nat.zero_le _, rfl, ⟨rfl⟩, ⟨h0⟩, ⟨Below.refl _ _⟩⟩
 case round =>
  obtain ⟨k, pre, hk, rfl, HP, HJ, HB⟩ := hrel
  have hxs := (HB.out.cell (p := ⟨Bs, 0, none⟩) hBs0).trans hBs
  have hxn := (HB.out.cell (p := ⟨Bn, 0, none⟩) hBn0).trans hBn
  by_cases hlt : 40 * k < len
  ·obtain ⟨ad, rfl⟩ := hA (by omega)
   have hkm : k < m := by omega
   have hmn : min (40 : Int) ((len : Int) - (40 * k : Nat)) = ((min 40 (len - 40 * k) : Nat) : Int) := by omega
   have h0 : (0 : Int) ≤ ((40 * k : Nat) : Int) := by omega
   have hle : ((40 * k : Nat) : Int) ≤ (len : Int) := by omega
   gi_wp2
   refine wpIn_wide.2 ?_
   go_quiet (fail)
   gi_wp2
   obtain ⟨fn, tmps, assign, body, hy, hR⟩ := hY pre ⟨k, hkm⟩ (wr.drewN nq) (hJd _ _ _ HJ.out) (by have := congrArg List.length HP.out; simp at this; omega)
   simp only [Option.map_some] at hy
   have hq : (40 * (k : Int) + min 40 ((len - 40 * k : Nat) : Int)).toNat - 40 * k = min 40 (len - 40 * k) := by omega
   rw [hq, hy]
   refine ⟨fun _ => hn, hR.mono ?_⟩
   rintro e W3 (⟨rfl, hJ3, hk3⟩ | ⟨rfl, hJx3⟩)
   ·have hn3 := (hk3.cell (p := ⟨Bn, 0, none⟩) hBn0).trans (show (wr.drewN nq).cell? ⟨Bn, 0, none⟩ = some (.int .i64 40) from hxn)
    have HK3 := Aside0.mk hk3
    clear hk3
    gi_wp2
    go_roundw
    case rel => exact ⟨k + 1, pre ++ [⟨k, hkm⟩], by omega, by go_num, ⟨by rw [List.map_append, HP.out, List.range_succ]; rfl⟩, ⟨hJ3⟩, ⟨(pw_below_drewN HB.out nq).trans HK3.out⟩⟩
    case measure => simp [intOf]; omega
   ·gi_wp2
    refine bodyPost_ret (results_none rfl _ _ _) rfl ?_
    exact ⟨⟨_, rfl⟩, .inr ⟨pre ++ [⟨k, hkm⟩], ⟨k + 1, by omega, by rw [List.map_append, HP.out, List.range_succ]; rfl⟩, hJx3⟩⟩
  ·gi_wp2
   go_end0
   exact ⟨⟨_, rfl⟩, .inl ⟨pre, by rw [HP.out, show k = m by omega], HJ.out⟩⟩
theorem chunk_stops (n : Nat) (hn : 1 ≤ n) (Bs Bn n₀ len cap m : Nat) (A : Option Addr) (hcap : len ≤ cap) (hA : 0 < len → ∃ ad, A = some ad) (hlen : len ≤ 1000000000000) (hm : m = (len + 39) / 40) (hBs0 : Bs < n₀) (hBn0 : Bn < n₀) (w : World) (hn₀ : n₀ ≤ w.heap.size)
  (hBs : w.cell? ⟨Bs, 0, none⟩ = some (.slice A len cap)) (hBn : w.cell? ⟨Bn, 0, none⟩ = some (.int .i64 40)) :
  SeqStopsK Fence.wide n Tryd.prog 78 #[.pointer (some ⟨Bs, 0, none⟩), .pointer (some ⟨Bn, 0, none⟩)] (fun x : { j : Nat // j < m } => #[.slice (A.map (·.add (40 * x.1 * 2))) (min 40 (len - 40 * x.1)) (min 40 (len - 40 * x.1))]) (Below n₀)
   (fun xs => xs.map (·.1) = List.range m) (fun pre => ∃ k, k ≤ m ∧ pre.map (·.1) = List.range k) m w := fun l J Jx W hW hJ _ hY h0 =>
 chunk_iter n hn l Bs Bn n₀ len cap m A hcap hA hlen hm hBs0 hBn0 J Jx (fun pre W q h => hJ _ _ _ none h ⟨rfl, rfl, rfl, Nat.le_refl _, fun _ _ _ => rfl⟩ (fun r e => by cases e)) hY W
  ((hW.cell (p := ⟨Bs, 0, none⟩) (show Bs < _ by omega)).trans hBs) ((hW.cell (p := ⟨Bn, 0, none⟩) (show Bn < _ by omega)).trans hBn) h0
set_option maxRecDepth 100000 in
set_option maxHeartbeats 4000000 in
theorem flow_may.calls (k : Nat) (A0 : Option Addr) (c0 : Nat) (l0 : List S38) (r : Bool) (w : World) (hr0 : Kd.C k38 w A0 l0.length l0) (hc0 : l0.length ≤ c0) (h : flow_may.f k l0 = some r) (hT : Tabs w := by first | exact Aside0.out (by with_reducible assumption) | exact Tabs.keepA (by with_reducible assumption) (by repeat (first | (with_reducible exact Aside0.out (by with_reducible assumption)) | (with_reducible apply below_alloc) | (with_reducible apply pw_below_drewN) | (with_reducible apply below_drew1) | (with_reducible refine below_set ?_ (Aside0.out (by with_reducible assumption)))))) :
  Calls Tryd.prog 43 #[.slice A0 l0.length c0] w fun e w' => e = .returned (.bool r) ∧ Below w.heap.size w w' := by
 unfold flow_may.f at h
 by_cases hlen : l0.length ≤ 1000000000000
 rotate_left
 ·rw [if_neg hlen] at h; cases h
 rw [if_pos hlen] at h
 obtain ⟨a, ha, h⟩ := Option.bind_eq_some_iff.1 h
 obtain rfl := Option.some.inj h
 clear h
 have hA : 0 < l0.length → ∃ ad, A0 = some ad := fun hp => by obtain ⟨ad, e, _⟩ := hr0.2.2 hp; exact ⟨ad, e⟩
 have cB : ∀ (x : Nat) (b : Bool), x < pieces l0 → back_Right.f k 40 (piece l0 x) = some b → ∀ W : World, Below w.heap.size w W → Calls Tryd.prog 66 #[.agg #[.int .i64 40, .slice (A0.map (·.add (40 * x * 2))) (min 40 (l0.length - 40 * x)) (min 40 (l0.length - 40 * x))]] W fun e w' => e = .returned (.bool b) ∧ Below W.heap.size W w' := fun x b hx hb W hW => by
  have hxl : 40 * x < l0.length := by unfold pieces at hx; omega
  have hC := Kd.C_drop (m := 40 * x) (Kd.C_below hr0 hW) (by omega) hc0
  rw [if_neg (by omega), show k38.sz = 2 from rfl] at hC
  have hC2 := Kd.C_take (m := min 40 (l0.length - 40 * x)) hC (by rw [List.length_drop]; omega)
  have hp : (l0.drop (40 * x)).take (min 40 (l0.length - 40 * x)) = piece l0 x := by
   unfold piece
   rcases Nat.le_total 40 (l0.length - 40 * x) with h' | h'
   ·rw [Nat.min_eq_left h']
   ·rw [Nat.min_eq_right h', List.take_of_length_le (by rw [List.length_drop]; omega), List.take_of_length_le (by rw [List.length_drop]; omega)]
  rw [hp] at hC2
  have hpl : (piece l0 x).length = min 40 (l0.length - 40 * x) := by rw [← hp, List.length_take, List.length_drop]; omega
  have := back_Right.calls k 40 (A0.map (·.add (40 * x * 2))) (min 40 (l0.length - 40 * x)) (piece l0 x) b W hC2 (by omega) hb (hT.below hW)
  rwa [hpl] at this
 have HCB := Aside0.mk cB
 have hea := fun j hj => askN_each ha j hj
 have HEA := Aside0.mk hea
 have HAT := Aside0.mk (fun h => askN_true ha h)
 have HAF := Aside0.mk (fun j hj h => askN_false ha j hj h)
 have hpc : pieces l0 = (l0.length + 39) / 40 := rfl
 have HPC := Aside0.mk hpc
 clear cB hr0 hT hea ha hpc
 refine (callsIn_wide (n := 6)).1 ?_
 refine callsIn_of_wp_marks Tryd.func43 rfl trivial ?_ rfl
 simp only [Tryd.ntmps43, List.size_toArray, List.length_cons, List.length_nil, Nat.reduceAdd, Nat.reduceSub, Array.replicate_succ, Array.replicate_zero, List.push_toArray, List.append_toArray, List.nil_append, List.cons_append]
 gi_wp2_with (refine ⟨trivial, ?_⟩; gi_at_call 65; refine (callsIn_wide.2 (chunk_calls _ _ _ _)).mono ?_; rintro e w' ⟨rfl, rfl⟩)
 have hs1 : (((w.alloc (.cells #[.bool false] 4)).alloc (.cells #[.slice A0 l0.length c0] 22)).alloc (.cells #[.int .i64 40] 3)).heap.size = w.heap.size + 3 := by simp
 have hbw : Below w.heap.size w (((w.alloc (.cells #[.bool false] 4)).alloc (.cells #[.slice A0 l0.length c0] 22)).alloc (.cells #[.int .i64 40] 3)) := below_alloc (below_alloc (below_alloc (Below.refl _ _) _) _) _
 have hbx : (((w.alloc (.cells #[.bool false] 4)).alloc (.cells #[.slice A0 l0.length c0] 22)).alloc (.cells #[.int .i64 40] 3)).heap[w.heap.size]? = some (.cells #[.bool false] 4 (0, 0)) := by
  rw [Below.heap_alloc _ _ _ (by simp only [World.size_alloc]; omega), Below.heap_alloc _ _ _ (by simp only [World.size_alloc]; omega)]; exact World.alloc_heap_new w _
 have hc1 : (((w.alloc (.cells #[.bool false] 4)).alloc (.cells #[.slice A0 l0.length c0] 22)).alloc (.cells #[.int .i64 40] 3)).cell? ⟨w.heap.size + 1, 0, none⟩ = some (.slice A0 l0.length c0) := by go_simp
 have hc2 : (((w.alloc (.cells #[.bool false] 4)).alloc (.cells #[.slice A0 l0.length c0] 22)).alloc (.cells #[.int .i64 40] 3)).cell? ⟨w.heap.size + 1 + 1, 0, none⟩ = some (.int .i64 40) := by go_simp
 refine wpIn_rangeFunc_ownF rfl (by decide) (gf := 78) (lb := #[.pointer (some ⟨w.heap.size + 1, 0, none⟩), .pointer (some ⟨w.heap.size + 1 + 1, 0, none⟩)]) rfl trivial (enters_of Tryd.func78 (by kernel_rfl) rfl)
  (chunk_stops 5 (by decide) (w.heap.size + 1) (w.heap.size + 1 + 1) (w.heap.size + 3) l0.length c0 (pieces l0) A0 hc0 hA hlen rfl (by omega) (by omega) _ (by rw [hs1]; exact Nat.le_refl _) hc1 hc2) belowK_t (belowK_b (by rw [hs1]; exact Nat.le_refl _)) (Below.refl _ _) (fun _ => rfl)
  (fun pre W => ((∀ x ∈ pre, back_Right.f k 40 (piece l0 x.1) = some true) ∧ (W.heap[w.heap.size]? = some (.cells #[.bool false] 4 (0, 0)) ∧ w.heap.size + 3 ≤ W.heap.size)) ∧ Below w.heap.size w W)
  (fun c pre W => (c = .ret ∧ (∃ x ∈ pre, back_Right.f k 40 (piece l0 x.1) = some false) ∧ (W.heap[w.heap.size]? = some (.cells #[.bool false] 4 (0, 0)) ∧ w.heap.size + 3 ≤ W.heap.size)) ∧ Below w.heap.size w W)
  ?hI ?hIx ⟨⟨fun x hx => by (cases hx), hbx, by rw [hs1]; exact Nat.le_refl _⟩, hbw⟩
  (fun x => { tmps := #[.slice A0 l0.length c0, undef, .pointer (some ⟨w.heap.size, 0, none⟩), .slice (A0.map (·.add (40 * x.1 * 2))) (min 40 (l0.length - 40 * x.1)) (min 40 (l0.length - 40 * x.1)), .slice A0 l0.length c0, .func (.func 78) #[] #[.pointer (some ⟨w.heap.size + 1, 0, none⟩), .pointer (some ⟨w.heap.size + 1 + 1, 0, none⟩)], .slice (A0.map (·.add (40 * x.1 * 2))) (min 40 (l0.length - 40 * x.1)) (min 40 (l0.length - 40 * x.1)), undef, undef, undef, undef, undef, undef, undef], defers := [] }) ?assign ?body ?done ?stop
 case hI =>
  refine OwnFrom.and (fun s W W' row hs hg hr => ⟨hs.1, ?_, Nat.le_trans hs.2.2 hg.size⟩) (ownFrom_below (Nat.le_refl _) (by rw [hs1]; omega))
  rw [hg.block _ (blk_lt hs.2.1) (fun e => by have := (hr _ e.symm).1; rw [hs1] at this; omega)]; exact hs.2.1
 case hIx =>
  intro c
  refine OwnFrom.and (fun s W W' row hs hg hr => ⟨hs.1, hs.2.1, ?_, Nat.le_trans hs.2.2.2 hg.size⟩) (ownFrom_below (Nat.le_refl _) (by rw [hs1]; omega))
  rw [hg.block _ (blk_lt hs.2.2.1) (fun e => by have := (hr _ e.symm).1; rw [hs1] at this; omega)]; exact hs.2.2.1
 case assign =>
  intro l x W K hK
  gi_wp2
  exact hK
 case body =>
  rintro l pre x W ⟨⟨hall, hblk, hsz⟩, hB⟩ _
  obtain ⟨b, hb⟩ := HEA.out x.1 x.2
  have cR := HCB.out x.1 b x.2 hb W hB
  have HALL := Aside0.mk hall
  have HBL := Aside0.mk hblk
  have HB := Aside0.mk hB
  have HBB := Aside0.mk hb
  clear hall hblk hB hb hbx hbw hc1 hc2
  cases b with
  | true =>
   gi_wp2_with (refine ⟨trivial, ?_⟩; gi_at_call 66; refine (CallsIn.inRound l (callsIn_wide.2 cR)).mono ?_; rintro e w1 ⟨rfl, hb1⟩; have HB1 := Aside0.mk hb1; clear hb1)
   refine ⟨KeepsOthers.of_grownBy (grown_of_below HB1.out none) (fun j o e => by cases e), HB1.out.mono hsz, ⟨fun y hy => ?_, ?_, Nat.le_trans hsz HB1.out.size⟩, below_step HB.out HB1.out⟩
   ·rcases List.mem_append.1 hy with h | h
    ·exact HALL.out y h
    ·rw [List.mem_singleton.1 h]; exact HBB.out
   ·exact (HB1.out.block _ (blk_lt HBL.out)).trans HBL.out
  | false =>
   gi_wp2_with (refine ⟨trivial, ?_⟩; gi_at_call 66; refine (CallsIn.inRound l (callsIn_wide.2 cR)).mono ?_; rintro e w1 ⟨rfl, hb1⟩; have hbl1 := (hb1.block _ (blk_lt HBL.out)).trans HBL.out; have hcz : w1.cell? ⟨w.heap.size, 0, none⟩ = some (.bool false) := (blk_cell hbl1 0).trans rfl; have hfz := blk_frozen hbl1 0; have HBL1 := Aside0.mk hbl1; have HB1 := Aside0.mk hb1; clear hb1 hbl1)
   refine ⟨(KeepsOthers.of_grownBy (grown_of_below HB1.out none) (fun j o e => by cases e)).trans (KeepsOthers.setCell _ _ _), ⟨rfl, ⟨x, by simp, HBB.out⟩, ?_, by rw [World.size_setCell]; exact Nat.le_trans hsz HB1.out.size⟩, (below_step HB.out HB1.out).setCell (p := ⟨w.heap.size, 0, none⟩) (Nat.le_refl _) _⟩
   exact blk_put (cs := #[.bool false]) HBL1.out 0 (.bool false) rfl
 case done =>
  rintro D xs W hD hxs ⟨⟨hall, hblk, hsz⟩, hB⟩ hK
  have HE : Aside0 (a = true) := ⟨HAT.out (fun j hj => by
   have hm : j ∈ xs.map (·.1) := by rw [hxs]; exact List.mem_range.2 hj
   obtain ⟨x, hx, rfl⟩ := List.mem_map.1 hm
   exact hall x hx)⟩
  have hcz : W.cell? ⟨w.heap.size, 0, none⟩ = some (.bool false) := (blk_cell hblk 0).trans rfl
  have hfz := blk_frozen hblk 0
  have HK := Aside0.mk hK
  have HBL := Aside0.mk hblk
  have HB := Aside0.mk hB
  clear hxs hall hblk hB hK hbx hbw hc1 hc2
  gi_wp2
  have hK2 := (KeepsOthers.setCell W ⟨w.heap.size, 0, none⟩ (.bool (decide ((l0.length : Int) ≤ 200)))).same D _ HK.out rfl
  have hb2 := blk_put (cs := #[.bool false]) HBL.out 0 (.bool (decide ((l0.length : Int) ≤ 200))) rfl
  have hc2 := cell_kept ((blk_cell hb2 0).trans rfl) (grownBy_putObj' _ D (.deferred none)) (fun r e => by cases e; exact ⟨_, hK2, rfl⟩)
  refine ⟨by simp, .inl ⟨_, _, rfl, run_takeDeferred hK2, ?_⟩⟩
  refine ⟨.bool (decide ((l0.length : Int) ≤ 200)), by simp [results, Tryd.results43, go_sem, hc2], by rw [HE.out, Bool.true_and]; congr 2; rw [decide_eq_decide]; omega, ?_⟩
  exact (HB.out.setCell (p := ⟨w.heap.size, 0, none⟩) (Nat.le_refl _) _).trans (belowK_b (w := w) (Nat.le_refl _) _ D _ _ (by rw [hs1] at hD; omega) hK2 rfl rfl)
 case stop =>
  rintro D c pre W hD ⟨q, hq, hpre⟩ ⟨⟨rfl, ⟨x, hx, hf⟩, hblk, hsz⟩, hB⟩ hK
  have HE : Aside0 (a = false) := ⟨HAF.out x.1 x.2 hf⟩
  gi_wp2
  have hc2 := cell_kept ((blk_cell hblk 0).trans rfl) (grownBy_putObj' _ D (.deferred none)) (fun r e => by cases e; exact ⟨_, hK, rfl⟩)
  refine ⟨by simp, .inl ⟨_, _, rfl, run_takeDeferred hK, ?_⟩⟩
  refine ⟨.bool false, by simp [results, Tryd.results43, go_sem, hc2], by rw [HE.out]; rfl, ?_⟩
  exact hB.trans (belowK_b (w := w) (Nat.le_refl _) _ D _ _ (by rw [hs1] at hD; omega) hK rfl rfl)
end Go.Proofs.YtckkdaehmccjlaaDoor.P
