/- Texts of this session put together by a program, part 0: Aids, Shelf, Px0, Tabs, Reads, Px37, Px38, Px1, Px44, Px46, Px47, Px48, Px42, Px43, Px49, Px6, Px3, Px4, Utf, Px50, Width. -/
import Derived.Test.YtckkdaehmccjlaaDoorWMore
import Derived.Shelf.Strings.Builder1
import Derived.Shelf.Strings.Builder2
import Derived.Shelf.Strings.OnBuilder
import Derived.Shelf.Strings.Trim
import Derived.Shelf.Small.Utf8
import Derived.Shelf.Small.Strs
import Derived.Shelf.Small.Wraps
import Derived.Shelf.Strings.BuilderF
import Derived.Shelf.Strings.BuilderK
import Derived.Shelf.Strings.Search1
import Derived.Shelf.Strings.Prefix
import Derived.Shelf.Strings.Runes
import Derived.Shelf.Strings.AsciiSet
import Derived.Shelf.Bits.Mul64
import Derived.Shelf.Unicode.DecodeSlow
import Derived.Shelf.Unicode.DecodeAny
import Derived.Test.YtckkdaehmccjlaaDoorProg
import Derived.Below
import Derived.Deep.Draws
import Derived.Deep.AppendLies
import Derived.Maps.AppendAt
import Derived.OwnWalk
import Derived.Laws.BytesArg
import Derived.Laws.MakeOwn
import Derived.Laws.OwnMore
import Derived.Deep.OwnRows
import Derived.Tactics
import Derived.Lib.ConvBytes
import Derived.Laws.Slices
import Derived.WalkKit
import Derived.KernelRfl
import Derived.RowKit3
import Derived.Deep.LoopGhost
import Derived.Deep.QuietTactic
import Derived.BigQuiet
import Derived.WideLaws
import Derived.Deep.DeepCutAuto
import Derived.Deep.CutBlock
import Derived.Deep.RegionHeld3
import Derived.Laws.Rows
import Derived.Lib.AppendStr
import Derived.ArgAppend
import Derived.Laws.IdiomCopy
import Derived.OrdersHeld
import Derived.Laws.BitsLemmas
import Derived.RowKit
import Derived.Test.YtckkdaehmccjlaaDoorWWords
import Derived.Test.YtckkdaehmccjlaaDoorWLast
import Derived.Test.YtckkdaehmccjlaaDoorWTab
import Derived.Test.YtckkdaehmccjlaaDoorWQPut
import Derived.Test.YtckkdaehmccjlaaDoorWApart
import Derived.Test.YtckkdaehmccjlaaDoorWArr
import Derived.Test.YtckkdaehmccjlaaDoorWZeros
import Derived.Test.YtckkdaehmccjlaaDoorWFoot
import Derived.Test.YtckkdaehmccjlaaDoorWKept
import Derived.Test.YtckkdaehmccjlaaDoorWShare
import Derived.Test.YtckkdaehmccjlaaDoorWN
import Derived.Test.YtckkdaehmccjlaaDoorWEqStruct
import Derived.Test.YtckkdaehmccjlaaDoorWRepsOne
import Derived.Test.YtckkdaehmccjlaaDoorWGuard
import Derived.Test.YtckkdaehmccjlaaDoorWNEv
import Derived.ProofKit
import Derived.OpenShut
import Derived.ShutString
import Derived.ChangeArms
import Derived.ChangeSame
import Derived.Deep.Slices
import Derived.Deep.Strs
import Derived.Lib.SliceRun
namespace Go.Proofs.YtckkdaehmccjlaaDoor.P
open Go.RowKit Go.Proofs.YtckkdaehmccjlaaDoorW.PrintWords Go.Proofs.YtckkdaehmccjlaaDoorW.PrintLast Go.Proofs.YtckkdaehmccjlaaDoorW.PrintMore
set_option linter.unusedVariables false
theorem zb {b : Nat} {w W : World} (h : Below b w W := by repeat first | (with_reducible first | exact HB.out | apply below_alloc | apply pw_below_drewN | apply below_drew1 | refine below_set ?_ (Aside0.out (by with_reducible assumption))) | exact HB.out) : Below b w W := h
theorem zg {b g : Nat} {w W : World} (hg : g = W.heap.size) (h : Below b w W := by repeat first | (with_reducible first | exact HB.out | apply below_alloc | apply pw_below_drewN | apply below_drew1 | refine below_set ?_ (Aside0.out (by with_reducible assumption))) | exact HB.out) : w.heap.size ≤ g := hg ▸ h.size
theorem zs {w w0 W W1 : World} (H : Aside0 (Below w.heap.size w w0)) (hb : Below W.heap.size W W1) (h : Below w.heap.size w W := by repeat first | (with_reducible first | exact HB.out | apply below_alloc | apply pw_below_drewN | apply below_drew1 | refine below_set ?_ (Aside0.out (by with_reducible assumption))) | exact HB.out) : Aside0 (Below w.heap.size w W1) := ⟨below_step h hb⟩
theorem zk {w W W1 : World} {g : Nat} {o : Obj} (H : Aside0 (w.heap[g]? = some o)) (hb : Below W.heap.size W W1) (h : w.heap[g]? = some o → W.heap[g]? = some o := by (intro h; exact h)) : Aside0 (W1.heap[g]? = some o) := ⟨blk_below (h H.out) hb⟩
theorem zR {α : Type} {d : Kd α} {e base : Nat} {w W W1 : World} {ok : Nat → Prop} {v : Value} {xs : List α} (H : Aside0 (d.R e w base ok v xs)) (hb : Below W.heap.size W W1) (h : d.R e w base ok v xs → d.R e W base ok v xs := by (intro h; (with_reducible repeat (first | apply Kd.R_alloc | apply Kd.R_drewN | apply Kd.R_drew)); exact h)) : Aside0 (d.R e W1 base ok v xs) := ⟨Kd.R_below (h H.out) hb⟩
theorem zN {α : Type} {d : Kd α} {e base : Nat} {w W W1 : World} {ok : Nat → Prop} {v : Value} {xs : List α} (H : Aside0 (Kd.N d e w base ok v xs)) (hb : Below W.heap.size W W1) (h : Kd.N d e w base ok v xs → Kd.N d e W base ok v xs := by (intro h; (with_reducible repeat (first | apply Kd.N_alloc | apply Kd.N_drewN | apply Kd.N_drew)); exact h)) : Aside0 (Kd.N d e W1 base ok v xs) := ⟨Kd.N_below (h H.out) hb⟩
theorem zRa {α : Type} {d : Kd α} {e base : Nat} {w W : World} {ok : Nat → Prop} {v : Value} {xs : List α} (H : Aside0 (d.R e w base ok v xs)) (h : d.R e w base ok v xs → d.R e W base ok v xs := by (intro h; (with_reducible repeat (first | apply Kd.R_alloc | apply Kd.R_drewN | apply Kd.R_drew)); exact h)) : d.R e W base ok v xs := h H.out
theorem zSa {α : Type} {d : Kd α} {e base : Nat} {w W : World} {ok : Nat → Prop} {v : Value} {xs : List α} (H : Aside0 (Kd.S d e w base ok v xs)) (h : Kd.S d e w base ok v xs → Kd.S d e W base ok v xs := by (intro h; (with_reducible repeat (first | apply Kd.S_alloc | apply Kd.S_drewN | apply Kd.S_drew)); exact h)) : Kd.S d e W base ok v xs := h H.out
theorem zNa {α : Type} {d : Kd α} {e base : Nat} {w W : World} {ok : Nat → Prop} {v : Value} {xs : List α} (H : Aside0 (Kd.N d e w base ok v xs)) (h : Kd.N d e w base ok v xs → Kd.N d e W base ok v xs := by (intro h; (with_reducible repeat (first | apply Kd.N_alloc | apply Kd.N_drewN | apply Kd.N_drew)); exact h)) : Kd.N d e W base ok v xs := h H.out
theorem zl {p : Prop} (h : p := by (try simp only [List.map_toArray, List.map_cons, List.map_nil]); first | done | rfl | (simp only [List.length_drop, List.length_take]; rfl)) : p := h
theorem za {p : Prop} (h : p := by first | (with_reducible assumption) | assumption) : p := h
theorem zf {p : Prop} (h : p := by first | rfl | (simp; done) | (simp [*]; done)) : p := h
theorem ze {p : Prop} (h : p := by first | rfl | (simp [errW_none, errW_some] <;> rfl) | (simp [*, errW_none, errW_some] <;> rfl)) : p := h
theorem zm {p : Prop} (h : p := by simp only [List.map_toArray, List.map_cons, List.map_nil]; rfl) : p := h
theorem zr {p : Prop} (h : p := by (simp only [Act.put, List.setIfInBounds_toArray, List.set_cons_zero, List.set_cons_succ, i64_w, i32_w]; rfl)) : p := h
theorem zo {p : Prop} (h : p := by first | (go_simp; done) | (go_simp; rfl)) : p := h
theorem zc {w W : World} {a : Addr} {v : Value} (H : Aside0 (Below w.heap.size w W)) (h : w.cell? a = some v) : W.cell? a = some v := (H.out.cell (World.block_lt_of_cell? w _ h)).trans h
section
variable {w w0 : World} {g : Nat} {t : TypeId} {a b c d e f k : Value}
theorem zq2 (H : Aside0 (w0.heap[g]? = some (.cells #[a, b] t (0, 0)))) (h : w0.heap[g]? = some (.cells #[a, b] t (0, 0)) → w.heap[g]? = some (.cells #[a, b] t (0, 0)) := by exact id) : w.cell? ⟨g, 0, none⟩ = some a ∧ w.cell? ⟨g, 1, none⟩ = some b ∧ w.frozen? ⟨g, 0, none⟩ = false ∧ w.frozen? ⟨g, 1, none⟩ = false := ⟨blk_cell (h H.out) 0, blk_cell (h H.out) 1, blk_frozen (h H.out) 0, blk_frozen (h H.out) 1⟩
theorem zq3 (H : Aside0 (w0.heap[g]? = some (.cells #[a, b, c] t (0, 0)))) (h : w0.heap[g]? = some (.cells #[a, b, c] t (0, 0)) → w.heap[g]? = some (.cells #[a, b, c] t (0, 0)) := by exact id) : w.cell? ⟨g, 0, none⟩ = some a ∧ w.cell? ⟨g, 1, none⟩ = some b ∧ w.cell? ⟨g, 2, none⟩ = some c ∧ w.frozen? ⟨g, 0, none⟩ = false ∧ w.frozen? ⟨g, 1, none⟩ = false ∧ w.frozen? ⟨g, 2, none⟩ = false := ⟨blk_cell (h H.out) 0, blk_cell (h H.out) 1, blk_cell (h H.out) 2, blk_frozen (h H.out) 0, blk_frozen (h H.out) 1, blk_frozen (h H.out) 2⟩
theorem zq5 (H : Aside0 (w0.heap[g]? = some (.cells #[a, b, c, d, e] t (0, 0)))) (h : w0.heap[g]? = some (.cells #[a, b, c, d, e] t (0, 0)) → w.heap[g]? = some (.cells #[a, b, c, d, e] t (0, 0)) := by exact id) : w.cell? ⟨g, 0, none⟩ = some a ∧ w.cell? ⟨g, 1, none⟩ = some b ∧ w.cell? ⟨g, 2, none⟩ = some c ∧ w.cell? ⟨g, 3, none⟩ = some d ∧ w.cell? ⟨g, 4, none⟩ = some e ∧ w.frozen? ⟨g, 0, none⟩ = false ∧ w.frozen? ⟨g, 1, none⟩ = false ∧ w.frozen? ⟨g, 2, none⟩ = false ∧ w.frozen? ⟨g, 3, none⟩ = false ∧ w.frozen? ⟨g, 4, none⟩ = false := ⟨blk_cell (h H.out) 0, blk_cell (h H.out) 1, blk_cell (h H.out) 2, blk_cell (h H.out) 3, blk_cell (h H.out) 4, blk_frozen (h H.out) 0, blk_frozen (h H.out) 1, blk_frozen (h H.out) 2, blk_frozen (h H.out) 3, blk_frozen (h H.out) 4⟩
end
end Go.Proofs.YtckkdaehmccjlaaDoor.P
namespace Go.Proofs
open Go.Shelf
def Tryd.lays169_ren : Go.Shelf.Ren := ⟨fun | 169 => 48 | n => n, fun | 70 => 74 | 9 => 9 | 0 => 0 | 72 => 77 | 37 => 75 | 127 => 103 | 3 => 3 | 5 => 5 | n => n, fun | n => n⟩
theorem Tryd.lays169 : Go.Proofs.Lays.n169 Tryd.prog Tryd.lays169_ren := {
 mixed := by kernel_rfl
 f169 := Tryd.func48.trans (congrArg some (by kernel_rfl))
 t0 := Tryd.underlying0
 a0 := Tryd.isAgg0
 z0 := Tryd.sizeOf0
 v0 := Tryd.zeroValue0
 t3 := Tryd.underlying3
 a3 := Tryd.isAgg3
 z3 := Tryd.sizeOf3
 v3 := Tryd.zeroValue3
 t9 := Tryd.underlying9
 a9 := Tryd.isAgg9
 z9 := Tryd.sizeOf9
 v9 := Tryd.zeroValue9
 t37 := Tryd.underlying75
 a37 := Tryd.isAgg75
 z37 := Tryd.sizeOf75
 v37 := Tryd.zeroValue75
 t70 := Tryd.underlying74
 a70 := Tryd.isAgg74
 z70 := Tryd.sizeOf74
 v70 := Tryd.zeroValue74
 t72 := Tryd.underlying77
 a72 := Tryd.isAgg77
 z72 := Tryd.sizeOf77
 v72 := Tryd.zeroValue77
 t127 := Tryd.underlying103
 a127 := Tryd.isAgg103
 z127 := Tryd.sizeOf103
 v127 := Tryd.zeroValue103 }
theorem Tryd.Builder_Extra_169 : Builder.Extra Tryd.prog Tryd.lays169_ren := {
 sizeBuilder := by kernel_rfl
 liesBuilder := by kernel_rfl
 t5 := Tryd.underlying5
 a5 := Tryd.isAgg5
 z5 := Tryd.sizeOf5
 v5 := Tryd.zeroValue5
 infoByte := by kernel_rfl
 cellsByte := by kernel_rfl
 sizeByte := by kernel_rfl
 neB5 := by decide }
def Tryd.lays119_ren : Go.Shelf.Ren := ⟨fun | 119 => 104 | n => n, fun | 21 => 21 | 4 => 4 | n => n, fun | n => n⟩
theorem Tryd.lays119 : Go.Proofs.Lays.n119 Tryd.prog Tryd.lays119_ren := {
 mixed := by kernel_rfl
 f119 := Tryd.func104.trans (congrArg some (by kernel_rfl))
 t4 := Tryd.underlying4
 a4 := Tryd.isAgg4
 z4 := Tryd.sizeOf4
 v4 := Tryd.zeroValue4
 t21 := Tryd.underlying21
 a21 := Tryd.isAgg21
 z21 := Tryd.sizeOf21
 v21 := Tryd.zeroValue21 }
theorem Tryd.utf8_ValidRune (r : Int) (w : World) :
  Calls Tryd.prog 104 #[.int .i32 r] w fun e w' => e = .returned (.bool (Lib.validRune r)) ∧ w' = w := Any.utf8_ValidRune Tryd.lays119 r w
open Go.RowKit in
theorem Tryd.Builder_String_any_k (B b : Nat) (l : List UInt8) (w : World) (h : Lib.IsBuilderF 77 5 B b (Lib.byteCells l) w) (hBw : B ≤ w.heap.size) :
  Calls Tryd.prog 48 #[.pointer (some ⟨b, 0, none⟩)] w fun e w' => e = .returned (.string ⟨l.toArray⟩) ∧ (Lib.IsBuilderF 77 5 B b (Lib.byteCells l) w' ∧ Below B w w' ∧ Lib.OthersKept 5 (some b) w w') := Any.Builder_String_any_k Tryd.lays169 Tryd.Builder_Extra_169 B b l w h hBw
def Tryd.lays212_ren : Go.Shelf.Ren := ⟨fun | 212 => 108 | 263 => 116 | 264 => 117 | n => n, fun | 46 => 139 | 51 => 153 | 146 => 154 | 53 => 156 | 148 => 157 | n => n, fun | n => n⟩
theorem Tryd.lays212 : Go.Proofs.Lays.n212 Tryd.prog Tryd.lays212_ren := {
 mixed := by kernel_rfl
 f212 := Tryd.func108.trans (congrArg some (by kernel_rfl))
 f263 := Tryd.func116.trans (congrArg some (by kernel_rfl))
 f264 := Tryd.func117.trans (congrArg some (by kernel_rfl))
 t46 := Tryd.underlying139
 a46 := Tryd.isAgg139
 z46 := Tryd.sizeOf139
 v46 := Tryd.zeroValue139
 t51 := Tryd.underlying153
 a51 := Tryd.isAgg153
 z51 := Tryd.sizeOf153
 v51 := Tryd.zeroValue153
 t53 := Tryd.underlying156
 a53 := Tryd.isAgg156
 z53 := Tryd.sizeOf156
 v53 := Tryd.zeroValue156
 t146 := Tryd.underlying154
 a146 := Tryd.isAgg154
 z146 := Tryd.sizeOf154
 v146 := Tryd.zeroValue154
 t148 := Tryd.underlying157
 a148 := Tryd.isAgg157
 z148 := Tryd.sizeOf157
 v148 := Tryd.zeroValue157 }
open Go.RowKit Go.Lib in
theorem Tryd.bits_Mul (x y : Nat) (hx : x < 18446744073709551616) (hy : y < 18446744073709551616) (w : World) :
  Calls Tryd.prog 108 #[.int .u64 x, .int .u64 y] w fun e w' => e = .returned (.tuple #[.int .u64 ((x * y / 18446744073709551616 : Nat) : Int), .int .u64 ((x * y % 18446744073709551616 : Nat) : Int)]) ∧ w' = w := Any.bits_Mul Tryd.lays212 x y hx hy w
def Tryd.lays197_ren : Go.Shelf.Ren := ⟨fun | 197 => 103 | 260 => 113 | n => n, fun | 9 => 9 | 21 => 21 | 3 => 3 | 4 => 4 | 5 => 5 | 105 => 134 | 119 => 146 | 0 => 0 | 46 => 139 | 139 => 149 | 138 => 148 | n => n, fun | 3 => 0 | 4 => 1 | n => n⟩
theorem Tryd.lays197 : Go.Proofs.Lays.n197 Tryd.prog Tryd.lays197_ren := {
 mixed := by kernel_rfl
 f197 := Tryd.func103.trans (congrArg some (by kernel_rfl))
 f260 := Tryd.func113.trans (congrArg some (by kernel_rfl))
 t0 := Tryd.underlying0
 a0 := Tryd.isAgg0
 z0 := Tryd.sizeOf0
 v0 := Tryd.zeroValue0
 t3 := Tryd.underlying3
 a3 := Tryd.isAgg3
 z3 := Tryd.sizeOf3
 v3 := Tryd.zeroValue3
 t4 := Tryd.underlying4
 a4 := Tryd.isAgg4
 z4 := Tryd.sizeOf4
 v4 := Tryd.zeroValue4
 t5 := Tryd.underlying5
 a5 := Tryd.isAgg5
 z5 := Tryd.sizeOf5
 v5 := Tryd.zeroValue5
 t9 := Tryd.underlying9
 a9 := Tryd.isAgg9
 z9 := Tryd.sizeOf9
 v9 := Tryd.zeroValue9
 t21 := Tryd.underlying21
 a21 := Tryd.isAgg21
 z21 := Tryd.sizeOf21
 v21 := Tryd.zeroValue21
 t46 := Tryd.underlying139
 a46 := Tryd.isAgg139
 z46 := Tryd.sizeOf139
 v46 := Tryd.zeroValue139
 t105 := Tryd.underlying134
 a105 := Tryd.isAgg134
 z105 := Tryd.sizeOf134
 v105 := Tryd.zeroValue134
 t119 := Tryd.underlying146
 a119 := Tryd.isAgg146
 z119 := Tryd.sizeOf146
 t138 := Tryd.underlying148
 a138 := Tryd.isAgg148
 z138 := Tryd.sizeOf148
 v138 := Tryd.zeroValue148
 t139 := Tryd.underlying149
 a139 := Tryd.isAgg149
 z139 := Tryd.sizeOf149
 v139 := Tryd.zeroValue149
 g3 := by kernel_rfl
 g4 := by kernel_rfl }
open Go.RowKit Go.Lib in
theorem Tryd.utf8_DecodeRuneInString (s : ByteArray) (w : World) (hT : Lib.Utf8Tabs 0 1 w) :
  Calls Tryd.prog 103 #[.string s] w fun e w' => e = .returned (.tuple #[.int .i32 (Lib.decodeGo s).1, .int .i64 (Lib.decodeGo s).2]) ∧ Below w.heap.size w w' := Any.utf8_DecodeRuneInString Tryd.lays197 s w hT
end Go.Proofs
namespace Go.Proofs.YtckkdaehmccjlaaDoor.P
open Go.RowKit Go.Proofs.YtckkdaehmccjlaaDoorW.PrintWords Go.Proofs.YtckkdaehmccjlaaDoorW.PrintLast Go.Proofs.YtckkdaehmccjlaaDoorW.PrintMore
attribute [local go_sem] max2_int min2_int max_two min_two max_three min_three max_four min_four   -- for this text's walks alone
set_option linter.unusedVariables false
set_option linter.unusedSimpArgs false
def errW : Option Int → Value
 | none => .nilIface
 | some c => .iface 0 (.int .i64 c)
theorem errW_none : errW none = .nilIface := rfl
theorem errW_some (c : Int) : errW (some c) = .iface 0 (.int .i64 c) := rfl
theorem info36 : (Tryd.prog.info? 36).map (fun i => (i.zero, i.size, i.bytes)) = some (some (.slice none 0 0), 1, 24) := by kernel_rfl
theorem info38 : (Tryd.prog.info? 38).map (fun i => (i.zero, i.size, i.bytes)) = some (some (.agg #[(.slice none 0 0), (.bool false)]), 2, 32) := by kernel_rfl
theorem info60 : (Tryd.prog.info? 60).map (fun i => (i.zero, i.size, i.bytes)) = some (some (.agg #[(.string ⟨#[]⟩), (.int .i64 0), (.int .i64 0), (.int .i64 0), (.int .i64 0)]), 5, 48) := by kernel_rfl
structure S58 where
 f0 : Int
 f1 : Int
 f2 : Int
def z58 : S58 := ⟨(0 : Int), (0 : Int), (0 : Int)⟩
def k58 : Kd S58 := Kd.iso (Kd.pair (Kd.int .i64) (Kd.pair (Kd.int .i64) (Kd.int .i64))) (fun x : S58 => (x.f0, x.f1, x.f2))
theorem k58_open {w : World} {x : S58} {cs : List Value} (h : k58.K w x cs) : cs = [.int .i64 x.f0, .int .i64 x.f1, .int .i64 x.f2] := by
 obtain ⟨_, _, rfl, rfl, ⟨_, _, rfl, rfl, rfl⟩⟩ := h
 exact rfl
theorem k58_openM {w : World} {base : Nat} {ok : Nat → Prop} {x : S58} {cs : List Value} (h : k58.M w base ok x cs) : cs = [.int .i64 x.f0, .int .i64 x.f1, .int .i64 x.f2] := by
 obtain ⟨_, _, rfl, rfl, ⟨_, _, rfl, rfl, rfl⟩⟩ := h
 exact rfl
theorem k58_mk (w : World) (x : S58)  : k58.K w x [.int .i64 x.f0, .int .i64 x.f1, .int .i64 x.f2] := ⟨[.int .i64 x.f0], [.int .i64 x.f1, .int .i64 x.f2], rfl, rfl, ⟨[.int .i64 x.f1], [.int .i64 x.f2], rfl, rfl, rfl⟩⟩
theorem k58_mkM (w : World) (base : Nat) (ok : Nat → Prop) (x : S58)  : k58.M w base ok x [.int .i64 x.f0, .int .i64 x.f1, .int .i64 x.f2] := ⟨[.int .i64 x.f0], [.int .i64 x.f1, .int .i64 x.f2], rfl, rfl, ⟨[.int .i64 x.f1], [.int .i64 x.f2], rfl, rfl, rfl⟩⟩
def rd_T58 (xs : List S58) (i : Int) : S58 := xs.getD i.toNat z58
structure S60 where
 f0 : ByteArray
 f1 : Int
 f2 : S58
def z60 : S60 := ⟨(⟨#[]⟩ : ByteArray), (0 : Int), z58⟩
def k60 : Kd S60 := Kd.iso (Kd.pair Kd.string (Kd.pair (Kd.int .i64) k58)) (fun x : S60 => (x.f0, x.f1, x.f2))
theorem k60_open {w : World} {x : S60} {cs : List Value} (h : k60.K w x cs) : cs = [.string x.f0, .int .i64 x.f1, .int .i64 x.f2.f0, .int .i64 x.f2.f1, .int .i64 x.f2.f2] := by
 obtain ⟨_, _, rfl, rfl, ⟨_, _, rfl, rfl, s2⟩⟩ := h
 obtain rfl := k58_open s2
 exact rfl
theorem k60_openM {w : World} {base : Nat} {ok : Nat → Prop} {x : S60} {cs : List Value} (h : k60.M w base ok x cs) : cs = [.string x.f0, .int .i64 x.f1, .int .i64 x.f2.f0, .int .i64 x.f2.f1, .int .i64 x.f2.f2] := by
 obtain ⟨_, _, rfl, rfl, ⟨_, _, rfl, rfl, s2⟩⟩ := h
 obtain rfl := k58_openM s2
 exact rfl
theorem k60_mk (w : World) (x : S60)  : k60.K w x [.string x.f0, .int .i64 x.f1, .int .i64 x.f2.f0, .int .i64 x.f2.f1, .int .i64 x.f2.f2] := ⟨[.string x.f0], [.int .i64 x.f1, .int .i64 x.f2.f0, .int .i64 x.f2.f1, .int .i64 x.f2.f2], rfl, rfl, ⟨[.int .i64 x.f1], [.int .i64 x.f2.f0, .int .i64 x.f2.f1, .int .i64 x.f2.f2], rfl, rfl, (k58_mk w x.f2 )⟩⟩
theorem k60_mkM (w : World) (base : Nat) (ok : Nat → Prop) (x : S60)  : k60.M w base ok x [.string x.f0, .int .i64 x.f1, .int .i64 x.f2.f0, .int .i64 x.f2.f1, .int .i64 x.f2.f2] := ⟨[.string x.f0], [.int .i64 x.f1, .int .i64 x.f2.f0, .int .i64 x.f2.f1, .int .i64 x.f2.f2], rfl, rfl, ⟨[.int .i64 x.f1], [.int .i64 x.f2.f0, .int .i64 x.f2.f1, .int .i64 x.f2.f2], rfl, rfl, (k58_mkM w base ok x.f2 )⟩⟩
def rd_T60 (xs : List S60) (i : Int) : S60 := xs.getD i.toNat z60
theorem at_T60 {w : World} {A : Option Addr} {n : Nat} {xs : List S60} (h : Kd.C k60 w A n xs) (i : Int) (h0 : 0 ≤ i) (h1 : i < n) : ∃ ad , A = some ad ∧ w.cell? (ad.add (i.toNat * 5)) = some (.string (rd_T60 xs i).f0) ∧ w.cell? ⟨(ad.add (i.toNat * 5)).block, (ad.add (i.toNat * 5)).off + 1, none⟩ = some (.int .i64 (rd_T60 xs i).f1) ∧ w.cell? ⟨(ad.add (i.toNat * 5)).block, (ad.add (i.toNat * 5)).off + 2, none⟩ = some (.int .i64 (rd_T60 xs i).f2.f0) ∧ w.cell? ⟨(ad.add (i.toNat * 5)).block, (ad.add (i.toNat * 5)).off + 3, none⟩ = some (.int .i64 (rd_T60 xs i).f2.f1) ∧ w.cell? ⟨(ad.add (i.toNat * 5)).block, (ad.add (i.toNat * 5)).off + 4, none⟩ = some (.int .i64 (rd_T60 xs i).f2.f2) := by
 obtain ⟨ad, c, e, _, hK, hc0⟩ := Kd.C_get h z60 i h0 h1
 have hc : ∀ j u, c[j]? = some u → w.cell? (ad.add (i.toNat * 5 + j)) = some u := hc0
 obtain rfl := k60_open hK
 exact ⟨ad, e, hc 0 _ rfl, by rw [← add_field _ _ 1 (by omega)]; exact hc 1 _ rfl, by rw [← add_field _ _ 2 (by omega)]; exact hc 2 _ rfl, by rw [← add_field _ _ 3 (by omega)]; exact hc 3 _ rfl, by rw [← add_field _ _ 4 (by omega)]; exact hc 4 _ rfl⟩
def rd_L4 (xs : List (List S60)) (i : Int) : (List S60) := xs.getD i.toNat ([] : List S60)
theorem at_L4 {w : World} {A : Option Addr} {n : Nat} {xs : List (List S60)} (h : Kd.C (Kd.slice 60 k60) w A n xs) (i : Int) (h0 : 0 ≤ i) (h1 : i < n) : ∃ ad A0 c0, A = some ad ∧ w.cell? (ad.add i.toNat) = some (.slice A0 (rd_L4 xs i).length c0) ∧ (rd_L4 xs i).length ≤ c0 ∧ k60.C w A0 (rd_L4 xs i).length (rd_L4 xs i) := by
 obtain ⟨ad, c, e, _, hK, hc0⟩ := Kd.C_get h ([] : List S60) i h0 h1
 have hc : ∀ j u, c[j]? = some u → w.cell? (ad.add (i.toNat * 1 + j)) = some u := hc0
 obtain ⟨A0, c0, rfl, l0, g0⟩ := hK
 exact ⟨ad, A0, c0, e, by have hq := hc 0 _ rfl; rwa [Nat.mul_one, Nat.add_zero] at hq, l0, g0⟩
structure S38 where
 f0 : (List S60)
 f1 : Bool
def z38 : S38 := ⟨([] : List S60), false⟩
def k38 : Kd S38 := Kd.iso (Kd.pair (Kd.slice 60 k60) Kd.bool) (fun x : S38 => (x.f0, x.f1))
theorem k38_open {w : World} {x : S38} {cs : List Value} (h : k38.K w x cs) : ∃ A0 c0, cs = [.slice A0 x.f0.length c0, .bool x.f1] ∧ x.f0.length ≤ c0 ∧ k60.C w A0 x.f0.length x.f0 := by
 obtain ⟨_, _, rfl, ⟨A0, c0, rfl, l0, g0⟩, rfl⟩ := h
 exact ⟨A0, c0, rfl, l0, g0⟩
theorem k38_mk (w : World) (x : S38) {A0 : Option Addr} {c0 : Nat} (l0 : x.f0.length ≤ c0) (g0 : k60.C w A0 x.f0.length x.f0) : k38.K w x [.slice A0 x.f0.length c0, .bool x.f1] := ⟨[.slice A0 x.f0.length c0], [.bool x.f1], rfl, ⟨A0, c0, rfl, l0, g0⟩, rfl⟩
theorem k38_mkM (w : World) (base : Nat) (ok : Nat → Prop) (x : S38) {v0 : Value} (g0 : k60.R 60 w base ok v0 x.f0) : k38.M w base ok x [v0, .bool x.f1] := ⟨[v0], [.bool x.f1], rfl, ⟨v0, rfl, g0⟩, rfl⟩
theorem k38_openF {W : World} {ok : Nat → Prop} {x : S38} {cs : List Value} (h : Kd.FK k38 W ok x cs) : ∃ A0 c0, cs = [.slice A0 x.f0.length c0, .bool x.f1] ∧ x.f0.length ≤ c0 ∧ Kd.F k60 W ok A0 x.f0.length x.f0 := by
 obtain ⟨A0, c0, rfl, l0, _⟩ := k38_open (Kd.FK_now h)
 exact ⟨A0, c0, rfl, l0, (fun W' hW => by obtain ⟨A0_, c0_, he, l0_, g0_⟩ := k38_open (h W' hW); injection (Option.some.inj (show some (Value.slice A0 x.f0.length c0) = some (Value.slice A0_ x.f0.length c0_) from congrArg (fun l => l[0]?) he)) with ha_ _ _; rw [ha_]; exact g0_)⟩
theorem k38_mkF (W : World) (ok : Nat → Prop) (x : S38) {A0 : Option Addr} {c0 : Nat} (l0 : x.f0.length ≤ c0) (g0 : Kd.F k60 W ok A0 x.f0.length x.f0) : Kd.FK k38 W ok x [.slice A0 x.f0.length c0, .bool x.f1] := fun W2 hW => k38_mk W2 x l0 (g0 W2 hW)
def rd_T38 (xs : List S38) (i : Int) : S38 := xs.getD i.toNat z38
theorem at_T38 {w : World} {A : Option Addr} {n : Nat} {xs : List S38} (h : Kd.C k38 w A n xs) (i : Int) (h0 : 0 ≤ i) (h1 : i < n) : ∃ ad A0 c0, A = some ad ∧ w.cell? (ad.add (i.toNat * 2)) = some (.slice A0 (rd_T38 xs i).f0.length c0) ∧ w.cell? ⟨(ad.add (i.toNat * 2)).block, (ad.add (i.toNat * 2)).off + 1, none⟩ = some (.bool (rd_T38 xs i).f1) ∧ (rd_T38 xs i).f0.length ≤ c0 ∧ k60.C w A0 (rd_T38 xs i).f0.length (rd_T38 xs i).f0 := by
 obtain ⟨ad, c, e, _, hK, hc0⟩ := Kd.C_get h z38 i h0 h1
 have hc : ∀ j u, c[j]? = some u → w.cell? (ad.add (i.toNat * 2 + j)) = some u := hc0
 obtain ⟨A0, c0, rfl, l0, g0⟩ := k38_open hK
 exact ⟨ad, A0, c0, e, hc 0 _ rfl, by rw [← add_field _ _ 1 (by omega)]; exact hc 1 _ rfl, l0, g0⟩
def rd_L7 (xs : List (List S38)) (i : Int) : (List S38) := xs.getD i.toNat ([] : List S38)
structure S100 where
 f0 : Int
 f1 : (List S38)
def z100 : S100 := ⟨(0 : Int), ([] : List S38)⟩
def k100 : Kd S100 := Kd.iso (Kd.pair (Kd.int .i64) (Kd.slice 38 k38)) (fun x : S100 => (x.f0, x.f1))
def rd_T100 (xs : List S100) (i : Int) : S100 := xs.getD i.toNat z100
def rd_L9 (xs : List (List ByteArray)) (i : Int) : (List ByteArray) := xs.getD i.toNat ([] : List ByteArray)
end Go.Proofs.YtckkdaehmccjlaaDoor.P
namespace Go.Proofs.YtckkdaehmccjlaaDoor.P
open Go.RowKit Go.Proofs.YtckkdaehmccjlaaDoorW.PrintWords Go.Proofs.YtckkdaehmccjlaaDoorW.PrintLast Go.Proofs.YtckkdaehmccjlaaDoorW.PrintMore
structure Tabs (w : World) : Prop where
 utf8 : Lib.Utf8Tabs 0 1 w
theorem Tabs.below {w W : World} (h : Tabs w) (hb : Below w.heap.size w W) : Tabs W :=
 ⟨⟨fun c hc => pw_cell_below hb (h.utf8.1 c hc), fun i hi => ⟨pw_cell_below hb (h.utf8.2 i hi).1, pw_cell_below hb (h.utf8.2 i hi).2⟩⟩⟩
theorem Tabs.keepA {w W : World} (h : Aside0 (Tabs w)) (hb : Below w.heap.size w W) : Tabs W := h.out.below hb
end Go.Proofs.YtckkdaehmccjlaaDoor.P
namespace Go.Proofs.YtckkdaehmccjlaaDoor.P
open Go.RowKit Go.Proofs.YtckkdaehmccjlaaDoorW.PrintWords Go.Proofs.YtckkdaehmccjlaaDoorW.PrintLast Go.Proofs.YtckkdaehmccjlaaDoorW.PrintMore
set_option linter.unusedVariables false
section
variable {H : Type} {enc : TypeId × Value → H} {P : Program} {w : World} {base : Nat} {spare : Nat → Bool} {held : Bool}
theorem list_of {α : Type} {p : Nat → α → Prop} : ∀ (n : Nat), (∀ i, i < n → ∃ x, p i x) → ∃ xs : List α, xs.length = n ∧ ∀ j x, xs[j]? = some x → p j x
 | 0, _ => ⟨[], rfl, fun j x h => by simp at h⟩
 | n + 1, h => by
  obtain ⟨xs, hl, hx⟩ := list_of n (fun i hi => h i (by omega))
  obtain ⟨z, hz⟩ := h n (by omega)
  refine ⟨xs ++ [z], by simp [hl], fun j x hj => ?_⟩
  rcases Nat.lt_or_ge j xs.length with h' | h'
  ·rw [List.getElem?_append_left h'] at hj; exact hx j x hj
  ·have hj' : j = n := by have := (List.getElem?_eq_some_iff.1 hj).1; simp at this; omega
   subst hj'
   rw [← hl] at hj
   simp at hj
   subst hj; exact hz
theorem C_of_trod {α : Type} {d : Kd α} {t e : TypeId} {fuel : Nat} {A : Option Addr} {n c : Nat} {y : DataW H × List MemPlace} (ht : P.underlying t = some (.slice e)) (hs : P.cellsOf e = d.sz)
  (hK : ∀ fuel cs y, DataW.trod enc P w base spare held fuel e cs = some y → ∃ x, d.K w x cs) (h : DataW.trod enc P w base spare held fuel t [.slice A n c] = some y) :
  ∃ xs : List α, xs.length = n ∧ n ≤ c ∧ d.C w A n xs := by
 rcases Go.Deep.open_slice ht h with ⟨h0, _⟩ | ⟨a, len, cap, m, f, D, Pl, h0, _, hl, hm, hmm, _, hx⟩
 ·cases h0
  exact ⟨[], rfl, Nat.le_refl _, rfl, by omega, fun h => absurd h (by omega)⟩
 ·cases h0
  have hle : n ≤ m := by rw [hmm]; split <;> omega
  obtain ⟨xs, hlen, hxs⟩ := list_of (p := fun i (x : α) => ∃ cs, w.cells? base (a.add (i * P.cellsOf e)) (P.cellsOf e) = some cs ∧ d.K w x cs) n (fun i hi => by
   obtain ⟨cs, h1, h2⟩ := hx i (by omega)
   obtain ⟨x, hk⟩ := hK _ _ _ h2
   exact ⟨x, cs, h1, hk⟩)
  refine ⟨xs, hlen, hl, hlen, by have : maxLen = 9223372036854775807 := rfl; omega, fun _ => ⟨a, rfl, fun j x hj => ?_⟩⟩
  obtain ⟨cs, h1, hk⟩ := hxs j x hj
  obtain ⟨_, h2, h3⟩ := World.cells?_some h1
  refine ⟨cs, by rw [← hs]; exact h2, hk, fun i u hu => ?_⟩
  have hi : i < P.cellsOf e := by rw [← h2]; exact (List.getElem?_eq_some_iff.1 hu).1
  have := h3 i hi
  rw [Go.Deep.add_add, hs] at this
  rw [this, hu]
end
section
variable {H : Type} {enc : TypeId × Value → H} {w : World} {base : Nat} {spare : Nat → Bool} {held : Bool}
theorem cells1_of {cs : List Value} {o n : Nat} {v : Value} (h : (cs.drop o).take n = [v]) : cs[o]? = some v := by
 have := congrArg (fun l => l[0]?) h
 simp only [List.getElem?_cons_zero, List.getElem?_take] at this
 split at this
 ·rw [List.getElem?_drop] at this; simpa using this
 ·cases this
theorem cells3_of {cs : List Value} {o n : Nat} {a b c : Value} (h : (cs.drop o).take n = [a, b, c]) : cs[o]? = some a ∧ cs[o + 1]? = some b ∧ cs[o + 2]? = some c := by
 have h3 : 3 ≤ n := by have := congrArg List.length h; simp at this; omega
 refine ⟨?_, ?_, ?_⟩
 ·have := congrArg (fun l => l[0]?) h
  simp only [List.getElem?_take, List.getElem?_drop] at this
  rw [if_pos (by omega)] at this; simpa using this
 ·have := congrArg (fun l => l[1]?) h
  simp only [List.getElem?_take, List.getElem?_drop] at this
  rw [if_pos (by omega)] at this; simpa using this
 ·have := congrArg (fun l => l[2]?) h
  simp only [List.getElem?_take, List.getElem?_drop] at this
  rw [if_pos (by omega)] at this; simpa using this
theorem len_two {cs : List Value} (h : cs.length = 2) : ∃ a b, cs = [a, b] := by
 match cs, h with
 | [a, b], _ => exact ⟨a, b, rfl⟩
theorem cs_five {cs : List Value} {a b c d e : Value} (hl : cs.length = 5) (h0 : cs[0]? = some a) (h1 : cs[1]? = some b) (h2 : cs[2]? = some c) (h3 : cs[2 + 1]? = some d) (h4 : cs[2 + 2]? = some e) : cs = [a, b, c, d, e] := by
 match cs, hl with
 | [x, y, z, u, v], _ => cases h0; cases h1; cases h2; cases h3; cases h4; rfl
theorem cs_three {cs : List Value} {a b c : Value} (hl : cs.length = 3) (h0 : cs[0]? = some a) (h1 : cs[1]? = some b) (h2 : cs[2]? = some c) : cs = [a, b, c] := by
 match cs, hl with
 | [x, y, z], _ => cases h0; cases h1; cases h2; rfl
theorem attr_of_trod (fuel : Nat) (cs : List Value) (y : DataW H × List MemPlace) (h : DataW.trod enc Tryd.prog w base spare held fuel 58 cs = some y) : ∃ x, k58.K w x cs := by
 obtain ⟨y0, y1, y2, n, _, hl, h0, h1, h2⟩ := Go.Deep.trod_struct3 Tryd.underlying58 h
 obtain ⟨a, e0, _⟩ := DataW.trod_int Tryd.underlying3 h0
 obtain ⟨b, e1, _⟩ := DataW.trod_int Tryd.underlying3 h1
 obtain ⟨c, e2, _⟩ := DataW.trod_int Tryd.underlying3 h2
 have hl : cs.length = 3 := hl.trans (by kernel_rfl)
 rw [cs_three hl (cells1_of e0) (cells1_of e1) (cells1_of e2)]
 exact ⟨⟨a, b, c⟩, k58_mk w ⟨a, b, c⟩⟩
theorem cell_of_trod (fuel : Nat) (cs : List Value) (y : DataW H × List MemPlace) (h : DataW.trod enc Tryd.prog w base spare held fuel 60 cs = some y) : ∃ x, k60.K w x cs := by
 obtain ⟨y0, y1, y2, n, _, hl, h0, h1, h2⟩ := Go.Deep.trod_struct3 Tryd.underlying60 h
 obtain ⟨s, e0, _⟩ := DataW.trod_string Tryd.underlying9 h0
 obtain ⟨b, e1, _⟩ := DataW.trod_int Tryd.underlying3 h1
 obtain ⟨x, hk⟩ := attr_of_trod _ _ _ h2
 have hl : cs.length = 5 := hl.trans (by kernel_rfl)
 have c0 := cells1_of e0
 have c1 := cells1_of e1
 obtain ⟨d0, d1, d2⟩ := cells3_of (k58_open hk)
 rw [cs_five hl c0 c1 d0 d1 d2]
 exact ⟨⟨s, b, x⟩, k60_mk w ⟨s, b, x⟩⟩
set_option maxRecDepth 100000 in
theorem line_of_trod (fuel : Nat) (cs : List Value) (y : DataW H × List MemPlace) (h : DataW.trod enc Tryd.prog w base spare held fuel 38 cs = some y) : ∃ x, k38.K w x cs := by
 obtain ⟨y0, y1, n, _, hl, h0, h1⟩ := Go.ChangeShapes.trod_struct2 Tryd.underlying38 h
 obtain ⟨b, e1, _⟩ := DataW.trod_bool Tryd.underlying4 h1
 have hl : cs.length = 2 := hl.trans (by kernel_rfl)
 obtain ⟨v0, v1, rfl⟩ := len_two hl
 ·have e2 : v1 = .bool b := by have := cells1_of e1; exact Option.some.inj this
  subst e2
  have hv : ∃ A n c, v0 = .slice A n c := by
   rcases Go.Deep.open_slice Tryd.underlying36 h0 with ⟨e, _⟩ | ⟨a, len, cap, m, f, D, Pl, e, _⟩
   ·exact ⟨_, _, _, by have := cells1_of e; simpa using this⟩
   ·exact ⟨_, _, _, by have := cells1_of e; simpa using this⟩
  obtain ⟨A, n, c, rfl⟩ := hv
  obtain ⟨xs, hx, hc, hC⟩ := C_of_trod (d := k60) Tryd.underlying36 (by kernel_rfl) (fun f cs y h => cell_of_trod f cs y h) (show DataW.trod enc Tryd.prog w base spare held _ 36 [.slice A n c] = _ from h0)
  subst hx
  exact ⟨⟨xs, b⟩, [.slice A xs.length c], [.bool b], rfl, ⟨A, c, rfl, hc, hC⟩, rfl⟩
set_option maxRecDepth 100000 in
theorem lines_of_trod {fuel : Nat} {A : Option Addr} {n c : Nat} {y : DataW H × List MemPlace} (h : DataW.trod enc Tryd.prog w base spare held fuel 22 [.slice A n c] = some y) : ∃ xs : List S38, xs.length = n ∧ n ≤ c ∧ Kd.C k38 w A n xs :=
 C_of_trod (d := k38) Tryd.underlying22 (by kernel_rfl) (fun f cs y h => line_of_trod f cs y h) h
theorem cells_of_trod {fuel : Nat} {A : Option Addr} {n c : Nat} {y : DataW H × List MemPlace} (h : DataW.trod enc Tryd.prog w base spare held fuel 36 [.slice A n c] = some y) : ∃ xs : List S60, xs.length = n ∧ n ≤ c ∧ Kd.C k60 w A n xs :=
 C_of_trod (d := k60) Tryd.underlying36 (by kernel_rfl) (fun f cs y h => cell_of_trod f cs y h) h
end
end Go.Proofs.YtckkdaehmccjlaaDoor.P
namespace Go.Proofs.YtckkdaehmccjlaaDoor.P
open Go.RowKit Go.Proofs.YtckkdaehmccjlaaDoorW.PrintWords Go.Proofs.YtckkdaehmccjlaaDoorW.PrintLast Go.Proofs.YtckkdaehmccjlaaDoorW.PrintMore
attribute [local go_sem] max2_int min2_int max_two min_two max_three min_three max_four min_four   -- for this text's walks alone
set_option linter.unusedVariables false
set_option linter.unusedSimpArgs false
def backseatlaw08_cells.l0 : Nat → List (S60) → List (S60) → Int → Int → Option ((List (S60)))
 | 0, _, _, _, _ => none
 | k + 1, x5, x13, x14, x15 => if x15 < x14 then (if 0 ≤ x15 then (if x15 < (x13.length : Int) then (if 0 ≤ (mn (((rd_T60 x13 x15).f0).size : Int) 20) then (if (mn (((rd_T60 x13 x15).f0).size : Int) 20) ≤ (((rd_T60 x13 x15).f0).size : Int) then (if x5.length < 2932031007402 then (backseatlaw08_cells.l0 k (x5 ++ [(⟨((rd_T60 x13 x15).f0).extract 0 ((mn (((rd_T60 x13 x15).f0).size : Int) 20) : Int).toNat, (rd_T60 x13 x15).f1, (⟨(rd_T60 x13 x15).f2.f0, (rd_T60 x13 x15).f2.f1, (rd_T60 x13 x15).f2.f2⟩ : S58)⟩ : S60)]) x13 x14 (wrap64 (x15 + 1))) else (none)) else (none)) else (none)) else (none)) else (none)) else (some x5)
def backseatlaw08_cells.f (k : Nat) (l0 : List (S60)) (a1 : Int) : Option ((List (S60))) := if 0 ≤ (mn (l0.length : Int) a1) then (if (mn (l0.length : Int) a1) ≤ (l0.length : Int) then ((some (l0.take ((mn (l0.length : Int) a1) : Int).toNat : List (S60))).bind fun y421 => (backseatlaw08_cells.l0 k ([] : List (S60)) y421 (y421.length : Int) 0)) else (none)) else (none)
set_option maxHeartbeats 8000000 in
set_option maxRecDepth 100000 in
theorem backseatlaw08_cells.calls (k : Nat) (A0 : Option Addr) (c0 : Nat) (l0 : List (S60)) (a1 : Int) (r : List (S60)) (w : World) (hr0 : Kd.C k60 w A0 l0.length l0) (hc0 : l0.length ≤ c0) (h : backseatlaw08_cells.f k l0 a1 = some r) :
  Calls Tryd.prog 24 #[.slice A0 l0.length c0, .int .i64 a1] w fun e w' => ∃ v0_ : Value, e = .returned (v0_) ∧ Kd.R k60 60 w' w.heap.size (fun _ => True) v0_ r ∧ Below w.heap.size w w' := by
 have hu60 := Tryd.underlying60
 have HR0 := Aside0.mk hr0
 have HC0 := Aside0.mk hc0
 clear hr0 hc0
 have HB := Aside0.mk (Below.refl w.heap.size w)
 have H : (if 0 ≤ (mn (l0.length : Int) a1) then (if (mn (l0.length : Int) a1) ≤ (l0.length : Int) then ((some (l0.take ((mn (l0.length : Int) a1) : Int).toNat : List (S60))).bind fun y421 => (backseatlaw08_cells.l0 k ([] : List (S60)) y421 (y421.length : Int) 0)) else (none)) else (none)) = some r := h
 clear h
 obtain ⟨ji3, hji3⟩ : ∃ j_ : Int, (mn (l0.length : Int) a1) = j_ := ⟨_, rfl⟩
 replace H : (if 0 ≤ (ji3) then (if (ji3) ≤ (l0.length : Int) then ((some (l0.take ((ji3) : Int).toNat : List (S60))).bind fun y421 => (backseatlaw08_cells.l0 k ([] : List (S60)) y421 (y421.length : Int) 0)) else (none)) else (none)) = some r := by first | (rw [hji3] at H; exact H) | (simp only [hji3] at H ⊢; exact H)
 have hji3_ : (if a1 < (l0.length : Int) then a1 else (l0.length : Int)) = ji3 := hji3
 by_cases c4 : 0 ≤ (ji3)
 ·rw [if_pos c4] at H
  have c4b0 := eq_true c4
  have c4b1 : decide (0 ≤ (ji3)) = true := decide_eq_true c4
  clear c4
  by_cases c5 : (ji3) ≤ (l0.length : Int)
  ·rw [if_pos c5] at H
   have c5b0 := eq_true c5
   have c5b1 : decide ((ji3) ≤ (l0.length : Int)) = true := decide_eq_true c5
   clear c5
   obtain ⟨y421, hy421⟩ : ∃ y_ : List (S60), y_ = (l0.take ((ji3) : Int).toNat) := ⟨_, rfl⟩
   replace H : (backseatlaw08_cells.l0 k ([] : List (S60)) y421 (y421.length : Int) 0) = some r := by first | (rw [hy421]; with_reducible exact H) | (have H2_ := (Option.bind_some _ _).symm.trans H; rw [hy421]; with_reducible exact H2_) | (have H2_ := (Option.bind_some _ _).symm.trans H; with_reducible exact H2_) | with_reducible exact H | (rw [hy421]; exact H) | exact H
   have Ny421 := Aside0.mk hy421
   clear hy421
   have H' := Aside0.mk H
   clear H
   have q6 : ((ji3) : Int) ≤ ((l0.length : Int) : Int) := of_decide_eq_true za
   obtain ⟨i06, hi06, _, hsz6, _⟩ := info_parts info60
   have hroom6 : l0.length ≤ c0 := HC0.out
   have hC6 : Kd.C k60 _ A0 l0.length l0 := HR0.out
   have hcut6 := cut_to (P := Tryd.prog) 36 60 .i64 Tryd.underlying36 hi06 A0 l0.length c0 (ji3) (of_decide_eq_true za) q6 hroom6
   have hr6 := Kd.C_take (m := ((ji3) : Int).toNat) hC6 (by omega)
   have hy6 : y421.length = ((ji3) : Int).toNat := (by rw [Ny421.out, List.length_take]; omega)
   rw [← Ny421.out] at hr6
   rw [← hy6] at hcut6
   have HR424 := Aside0.mk hr6
   have HC424 := Aside0.mk (show y421.length ≤ c0 from by omega)
   clear hr6 hC6 hroom6 hi06 hsz6
   have KY6 := Aside0.mk hy6
   clear hy6
   replace q6 := eq_true q6
   go_enter Tryd.func24, Tryd.ntmps24
   go_wp2
   go_loopg [5, 15] k (fun kq v5 v15 w' => ∃ (x5_1 : List (S60)) (x15_1 : Int), v15 = .int .i64 x15_1 ∧ Aside0 (backseatlaw08_cells.l0 kq x5_1 y421 (y421.length : Int) x15_1 = some r) ∧ Aside0 (kq ≤ k) ∧ Aside0 (Kd.R k60 60 w' w.heap.size (fun _ => True) v5 x5_1) ∧ Aside0 (Below w.heap.size w w'))
   case atStart => exact ⟨(([] : List (S60))), (0), zf, H', ⟨Nat.le_refl _⟩, ⟨by first | exact Kd.R_nil _ _ _ _ _ | exact Kd.N_nil _ _ _ _ _ | exact Kd.V_nil _ _ _ _ _ | exact Kd.Q_nil _ _ _ _ _ | exact Kd.S_nil _ _ _ _ _⟩, ⟨zb⟩⟩
   case round =>
    clear H'
    try clear c4
    try clear c4b0
    try clear c4b1
    try clear c5
    try clear c5b0
    try clear c5b1
    try clear q6
    try clear q6
    obtain ⟨x5_1, x15_1, rfl, HA, HK1, HO_5, HB⟩ := hrel
    cases gk with
    | zero => exact absurd HA.out (by simp [backseatlaw08_cells.l0])
    | succ k1 =>
     have H := HA.out
     clear HA
     simp only [backseatlaw08_cells.l0] at H
     by_cases c7 : x15_1 < (y421.length : Int)
     ·rw [if_pos c7] at H
      have c7b0 : decide (x15_1 < (y421.length : Int)) = true := decide_eq_true c7
      clear c7
      by_cases c8 : 0 ≤ x15_1
      ·rw [if_pos c8] at H
       have c8b0 : decide (0 ≤ x15_1) = true := decide_eq_true c8
       clear c8
       by_cases c9 : x15_1 < (y421.length : Int)
       ·rw [if_pos c9] at H
        have c9b0 : decide (x15_1 < (y421.length : Int)) = true := decide_eq_true c9
        clear c9
        obtain ⟨ji10, hji10⟩ : ∃ j_ : Int, (mn (((rd_T60 y421 x15_1).f0).size : Int) 20) = j_ := ⟨_, rfl⟩
        replace H : (if 0 ≤ (ji10) then (if (ji10) ≤ (((rd_T60 y421 x15_1).f0).size : Int) then (if x5_1.length < 2932031007402 then (backseatlaw08_cells.l0 k1 (x5_1 ++ [(⟨((rd_T60 y421 x15_1).f0).extract 0 ((ji10) : Int).toNat, (rd_T60 y421 x15_1).f1, (⟨(rd_T60 y421 x15_1).f2.f0, (rd_T60 y421 x15_1).f2.f1, (rd_T60 y421 x15_1).f2.f2⟩ : S58)⟩ : S60)]) y421 (y421.length : Int) (wrap64 (x15_1 + 1))) else (none)) else (none)) else (none)) = some r := by first | (rw [hji10] at H; exact H) | (simp only [hji10] at H ⊢; exact H)
        have hji10_ : (if 20 < (((rd_T60 y421 x15_1).f0).size : Int) then 20 else (((rd_T60 y421 x15_1).f0).size : Int)) = ji10 := hji10
        by_cases c11 : 0 ≤ (ji10)
        ·rw [if_pos c11] at H
         have c11b0 := eq_true c11
         have c11b1 : decide (0 ≤ (ji10)) = true := decide_eq_true c11
         clear c11
         by_cases c12 : (ji10) ≤ (((rd_T60 y421 x15_1).f0).size : Int)
         ·rw [if_pos c12] at H
          have c12b0 := eq_true c12
          have c12b1 : decide ((ji10) ≤ (((rd_T60 y421 x15_1).f0).size : Int)) = true := decide_eq_true c12
          clear c12
          by_cases c13 : x5_1.length < 2932031007402
          ·rw [if_pos c13] at H
           have LMc13 := Aside0.mk c13
           clear c13
           obtain ⟨y427, hy427⟩ : ∃ y_ : List (S60), y_ = (x5_1 ++ [(⟨((rd_T60 y421 x15_1).f0).extract 0 ((ji10) : Int).toNat, (rd_T60 y421 x15_1).f1, (⟨(rd_T60 y421 x15_1).f2.f0, (rd_T60 y421 x15_1).f2.f1, (rd_T60 y421 x15_1).f2.f2⟩ : S58)⟩ : S60)]) := ⟨_, rfl⟩
           replace H : (backseatlaw08_cells.l0 k1 y427 y421 (y421.length : Int) (wrap64 (x15_1 + 1))) = some r := by first | (rw [hy427]; with_reducible exact H) | (have H2_ := (Option.bind_some _ _).symm.trans H; rw [hy427]; with_reducible exact H2_) | (have H2_ := (Option.bind_some _ _).symm.trans H; with_reducible exact H2_) | with_reducible exact H | (rw [hy427]; exact H) | exact H
           have Ny427 := Aside0.mk hy427
           clear hy427
           have H' := Aside0.mk H
           clear H
           have p425 : 0 ≤ (x15_1 : Int) := of_decide_eq_true za
           have q425 : x15_1 < (y421.length : Int) := of_decide_eq_true za
           obtain ⟨ad425, e425, hx425_0, hx425_1, hx425_2, hx425_3, hx425_4⟩ := at_T60 HR424.out x15_1 p425 q425
           cases e425
           replace hx425_0 := zc HB hx425_0
           replace hx425_1 := zc HB hx425_1
           replace hx425_2 := zc HB hx425_2
           replace hx425_3 := zc HB hx425_3
           replace hx425_4 := zc HB hx425_4
           replace p425 := eq_true p425
           replace q425 := eq_true q425
           go_wp2_with (first | ((with_reducible refine gate_dst (N := 7) rfl ?_); refine box_event ?hg (N := 7) ?hd (cs := #[.string (⟨#[]⟩ : ByteArray), .int .i64 0, .int .i64 0, .int .i64 0, .int .i64 0]) (t := 60) ?hr ?_; (case hd => rfl); (case hg => rfl); (case hr => exact zo); intro gb426 hg w14 hbox hb; replace HO_5 := Aside0.mk (Kd.R_below (Kd.R_elderB (zRa HO_5) gb426 (Nat.le_of_eq hg.symm)) hb); have BK426 := Aside0.mk (hbox); have GW426 := Aside0.mk ((zg hg : w.heap.size ≤ gb426)); have GE426 := Aside0.mk ((zg hg : w.heap.size ≤ gb426)); replace HB := (zs HB hb); clear hb hbox hg; obtain ⟨hcz15_0, hcz15_1, hcz15_2, hcz15_3, hcz15_4, hfz15_0, hfz15_1, hfz15_2, hfz15_3, hfz15_4⟩ := zq5 (w := w14) BK426) | ((with_reducible refine gate_builtin (b := .append) (xs := #[.tmp 27, .tmp 29]) rfl ?_); at_builtin; refine Kd.R_append k60 (w0 := w) w.heap.size rfl (.tmp 27) (.tmp 29) 36 60 (.agg #[(.string ⟨#[]⟩), (.int .i64 0), (.int .i64 0), (.int .i64 0), (.int .i64 0)]) 48 rfl Tryd.underlying36 info60 rfl (by decide) (by omega) u5 x5_1 (⟨((rd_T60 y421 x15_1).f0).extract 0 ((ji10) : Int).toNat, (rd_T60 y421 x15_1).f1, (⟨(rd_T60 y421 x15_1).f2.f0, (rd_T60 y421 x15_1).f2.f1, (rd_T60 y421 x15_1).f2.f2⟩ : S58)⟩ : S60) [.string (((rd_T60 y421 x15_1).f0).extract 0 ((ji10) : Int).toNat), .int .i64 ((rd_T60 y421 x15_1).f1), .int .i64 ((rd_T60 y421 x15_1).f2.f0), .int .i64 ((rd_T60 y421 x15_1).f2.f1), .int .i64 ((rd_T60 y421 x15_1).f2.f2)] (fun k_ => k_ ≠ gb426) (fun _ => False) rfl (by first | (go_simp; done) | (go_simp; rfl)) ?aP (fun _ hk => hk.elim) ?aF ?aO ?aB ?aS ?aL ?_; (case aP => exact k60_mkM _ _ _ (⟨((rd_T60 y421 x15_1).f0).extract 0 ((ji10) : Int).toNat, (rd_T60 y421 x15_1).f1, (⟨(rd_T60 y421 x15_1).f2.f0, (rd_T60 y421 x15_1).f2.f1, (rd_T60 y421 x15_1).f2.f2⟩ : S58)⟩ : S60)); (case aB => exact zb); (case aF => exact (fun k_ hk => Kd.freshB (g := gb426) (o := .cells #[.string (((rd_T60 y421 x15_1).f0).extract 0 ((ji10) : Int).toNat), .int .i64 ((rd_T60 y421 x15_1).f1), .int .i64 ((rd_T60 y421 x15_1).f2.f0), .int .i64 ((rd_T60 y421 x15_1).f2.f1), .int .i64 ((rd_T60 y421 x15_1).f2.f2)] 60 (0, 0)) (by refine blk_put (cs := #[.string ((rd_T60 y421 x15_1).f0), .int .i64 ((rd_T60 y421 x15_1).f1), .int .i64 ((rd_T60 y421 x15_1).f2.f0), .int .i64 ((rd_T60 y421 x15_1).f2.f1), .int .i64 ((rd_T60 y421 x15_1).f2.f2)]) ?_ 0 _ rfl; refine blk_put (cs := #[.string ((rd_T60 y421 x15_1).f0), .int .i64 ((rd_T60 y421 x15_1).f1), .int .i64 ((rd_T60 y421 x15_1).f2.f0), .int .i64 ((rd_T60 y421 x15_1).f2.f1), .int .i64 0]) ?_ 4 _ rfl; refine blk_put (cs := #[.string ((rd_T60 y421 x15_1).f0), .int .i64 ((rd_T60 y421 x15_1).f1), .int .i64 ((rd_T60 y421 x15_1).f2.f0), .int .i64 0, .int .i64 0]) ?_ 3 _ rfl; refine blk_put (cs := #[.string ((rd_T60 y421 x15_1).f0), .int .i64 ((rd_T60 y421 x15_1).f1), .int .i64 0, .int .i64 0, .int .i64 0]) ?_ 2 _ rfl; refine blk_put (cs := #[.string ((rd_T60 y421 x15_1).f0), .int .i64 0, .int .i64 0, .int .i64 0, .int .i64 0]) ?_ 1 _ rfl; refine blk_put (cs := #[.string (⟨#[]⟩ : ByteArray), .int .i64 0, .int .i64 0, .int .i64 0, .int .i64 0]) ?_ 0 _ rfl; exact BK426.out) k_ hk)); (case aO => exact (by (with_reducible repeat (first | apply Kd.R_alloc | apply Kd.R_drewN | apply Kd.R_drew)); exact Kd.R_mono (Kd.R_far (p := ⟨gb426, 0, none⟩) (Kd.R_far (p := ⟨gb426, 4, none⟩) (Kd.R_far (p := ⟨gb426, 3, none⟩) (Kd.R_far (p := ⟨gb426, 2, none⟩) (Kd.R_far (p := ⟨gb426, 1, none⟩) (Kd.R_far (p := ⟨gb426, 0, none⟩) (Kd.R_mono HO_5.out (fun k_ hk => (⟨hk, hk.2⟩ : _ ∧ k_ ≠ gb426))) (fun _ hk => hk.2) (.string ((rd_T60 y421 x15_1).f0))) (fun _ hk => hk.2) (.int .i64 ((rd_T60 y421 x15_1).f1))) (fun _ hk => hk.2) (.int .i64 ((rd_T60 y421 x15_1).f2.f0))) (fun _ hk => hk.2) (.int .i64 ((rd_T60 y421 x15_1).f2.f1))) (fun _ hk => hk.2) (.int .i64 ((rd_T60 y421 x15_1).f2.f2))) (fun _ hk => hk.2) (.string (((rd_T60 y421 x15_1).f0).extract 0 ((ji10) : Int).toNat))) (fun _ hk => hk.1.2))); (case aS => exact (below_size zb)); (case aL => have := LMc13.out; omega); intro v428 w16 ho hb hg hat; rw [← Ny427.out] at ho; have n0_ := Aside0.mk (blk_grown (g := gb426) (o := .cells #[.string (((rd_T60 y421 x15_1).f0).extract 0 ((ji10) : Int).toNat), .int .i64 ((rd_T60 y421 x15_1).f1), .int .i64 ((rd_T60 y421 x15_1).f2.f0), .int .i64 ((rd_T60 y421 x15_1).f2.f1), .int .i64 ((rd_T60 y421 x15_1).f2.f2)] 60 (0, 0)) (by refine blk_put (cs := #[.string ((rd_T60 y421 x15_1).f0), .int .i64 ((rd_T60 y421 x15_1).f1), .int .i64 ((rd_T60 y421 x15_1).f2.f0), .int .i64 ((rd_T60 y421 x15_1).f2.f1), .int .i64 ((rd_T60 y421 x15_1).f2.f2)]) ?_ 0 _ rfl; refine blk_put (cs := #[.string ((rd_T60 y421 x15_1).f0), .int .i64 ((rd_T60 y421 x15_1).f1), .int .i64 ((rd_T60 y421 x15_1).f2.f0), .int .i64 ((rd_T60 y421 x15_1).f2.f1), .int .i64 0]) ?_ 4 _ rfl; refine blk_put (cs := #[.string ((rd_T60 y421 x15_1).f0), .int .i64 ((rd_T60 y421 x15_1).f1), .int .i64 ((rd_T60 y421 x15_1).f2.f0), .int .i64 0, .int .i64 0]) ?_ 3 _ rfl; refine blk_put (cs := #[.string ((rd_T60 y421 x15_1).f0), .int .i64 ((rd_T60 y421 x15_1).f1), .int .i64 0, .int .i64 0, .int .i64 0]) ?_ 2 _ rfl; refine blk_put (cs := #[.string ((rd_T60 y421 x15_1).f0), .int .i64 0, .int .i64 0, .int .i64 0, .int .i64 0]) ?_ 1 _ rfl; refine blk_put (cs := #[.string (⟨#[]⟩ : ByteArray), .int .i64 0, .int .i64 0, .int .i64 0, .int .i64 0]) ?_ 0 _ rfl; exact BK426.out) hg (Kd.R_away HO_5.out (fun _ hk => hk.2))); have n1_ := Aside0.mk (hb); have n2_ := Aside0.mk (ho); clear BK426; clear HB; clear HO_5; have BK426 := n0_; have HB := n1_; have HO429 := n2_; clear n0_ n1_ n2_; clear ho hb hg hat))
           go_roundg k1
           case measure => have := HK1.out; omega
           case rel => exact ⟨(y427), (wrap64 (x15_1 + 1)), zf, H', ⟨by have := HK1.out; omega⟩, ⟨by (with_reducible repeat (first | apply Kd.R_alloc | apply Kd.R_drewN | apply Kd.R_drew)); exact Kd.R_mono HO429.out (fun _ hk => trivial)⟩, ⟨zb⟩⟩
          ·rw [if_neg c13] at H
           exact absurd H (by simp)
         ·rw [if_neg c12] at H
          exact absurd H (by simp)
        ·rw [if_neg c11] at H
         exact absurd H (by simp)
       ·rw [if_neg c9] at H
        exact absurd H (by simp)
      ·rw [if_neg c8] at H
       exact absurd H (by simp)
     ·rw [if_neg c7] at H
      have c7b0 : decide (x15_1 < (y421.length : Int)) = false := decide_eq_false c7
      clear c7
      obtain rfl := Option.some.inj H
      go_wp2
      go_ret
      exact ⟨_, by first | rfl | (simp [errW_none, errW_some] <;> rfl) | (simp only [← hji3]; first | rfl | (simp [errW_none, errW_some] <;> rfl)) | (simp [*, errW_none, errW_some] <;> rfl), by (with_reducible repeat (first | apply Kd.R_alloc | apply Kd.R_drewN | apply Kd.R_drew)); exact HO_5.out, zb⟩
  ·rw [if_neg c5] at H
   exact absurd H (by simp)
 ·rw [if_neg c4] at H
  exact absurd H (by simp)
def backseatlaw08_few.l0 : Nat → List (S38) → List (S38) → Int → Int → Option ((List (S38)))
 | 0, _, _, _, _ => none
 | k + 1, x3, x10, x11, x12 => if x12 < x11 then (if 0 ≤ x12 then (if x12 < (x10.length : Int) then ((backseatlaw08_cells.f k ((rd_T38 x10 x12).f0) 82).bind fun t436 => (if x3.length < 4398046511104 then (backseatlaw08_few.l0 k (x3 ++ [(⟨t436, (rd_T38 x10 x12).f1⟩ : S38)]) x10 x11 (wrap64 (x12 + 1))) else (none))) else (none)) else (none)) else (some x3)
def backseatlaw08_few.f (k : Nat) (l0 : List (S38)) : Option ((List (S38))) := if 0 ≤ (mn (l0.length : Int) 30) then (if (mn (l0.length : Int) 30) ≤ (l0.length : Int) then ((some (l0.take ((mn (l0.length : Int) 30) : Int).toNat : List (S38))).bind fun y430 => (backseatlaw08_few.l0 k ([] : List (S38)) y430 (y430.length : Int) 0)) else (none)) else (none)
def backseatlaw08_few.T5 : Bool × List (List Nat × List Nat) := (true, [([], []), ([], []), ([1], [1]), ([2], [2]), ([], []), ([4], [4]), ([3, 5], [3, 5]), ([6], [6]), ([0, 7, 3], [0, 7]), ([8, 8, 0, 1, 2, 3, 4, 5, 6, 7, 8], [0, 8])])
def backseatlaw08_few.B5 : List Nat := [0, 0, 2, 6, 0, 16, 62, 126, 255, 511]
theorem backseatlaw08_few.tab5 : rtab .any (opsOf Tryd.f17 5) = backseatlaw08_few.T5 := by kernel_rfl
theorem backseatlaw08_few.bits5 : waitsOk backseatlaw08_few.T5.2 backseatlaw08_few.B5 = true := by kernel_rfl
set_option maxHeartbeats 8000000 in
set_option maxRecDepth 100000 in
theorem backseatlaw08_few.calls (k : Nat) (A0 : Option Addr) (c0 : Nat) (l0 : List (S38)) (r : List (S38)) (w : World) (hr0 : Kd.C k38 w A0 l0.length l0) (hc0 : l0.length ≤ c0) (h : backseatlaw08_few.f k l0 = some r) :
  Calls Tryd.prog 17 #[.slice A0 l0.length c0] w fun e w' => ∃ v0_ : Value, e = .returned (v0_) ∧ Kd.S k38 38 w' w.heap.size (fun _ => True) v0_ r ∧ Below w.heap.size w w' := by
 have hu38 := Tryd.underlying38
 have HR0 := Aside0.mk hr0
 have HC0 := Aside0.mk hc0
 clear hr0 hc0
 have HB := Aside0.mk (Below.refl w.heap.size w)
 have H : (if 0 ≤ (mn (l0.length : Int) 30) then (if (mn (l0.length : Int) 30) ≤ (l0.length : Int) then ((some (l0.take ((mn (l0.length : Int) 30) : Int).toNat : List (S38))).bind fun y430 => (backseatlaw08_few.l0 k ([] : List (S38)) y430 (y430.length : Int) 0)) else (none)) else (none)) = some r := h
 clear h
 obtain ⟨ji2, hji2⟩ : ∃ j_ : Int, (mn (l0.length : Int) 30) = j_ := ⟨_, rfl⟩
 replace H : (if 0 ≤ (ji2) then (if (ji2) ≤ (l0.length : Int) then ((some (l0.take ((ji2) : Int).toNat : List (S38))).bind fun y430 => (backseatlaw08_few.l0 k ([] : List (S38)) y430 (y430.length : Int) 0)) else (none)) else (none)) = some r := by first | (rw [hji2] at H; exact H) | (simp only [hji2] at H ⊢; exact H)
 (try (have hji2h : ji2 ≤ 30 := by (rw [← hji2]; unfold mn; (repeat' split) <;> omega)))
 (try (have hji2g : ji2 ≤ 64 := by omega))
 (try (have hji2l : 0 ≤ ji2 := by (rw [← hji2]; unfold mn; (repeat' split) <;> omega)))
 (try (have hji2m : 0 ≤ ji2 := by omega))
 have hji2_ : (if 30 < (l0.length : Int) then 30 else (l0.length : Int)) = ji2 := hji2
 by_cases c3 : 0 ≤ (ji2)
 ·rw [if_pos c3] at H
  have c3b0 := eq_true c3
  have c3b1 : decide (0 ≤ (ji2)) = true := decide_eq_true c3
  clear c3
  by_cases c4 : (ji2) ≤ (l0.length : Int)
  ·rw [if_pos c4] at H
   have c4b0 := eq_true c4
   have c4b1 : decide ((ji2) ≤ (l0.length : Int)) = true := decide_eq_true c4
   clear c4
   obtain ⟨y430, hy430⟩ : ∃ y_ : List (S38), y_ = (l0.take ((ji2) : Int).toNat) := ⟨_, rfl⟩
   replace H : (backseatlaw08_few.l0 k ([] : List (S38)) y430 (y430.length : Int) 0) = some r := by first | (rw [hy430]; with_reducible exact H) | (have H2_ := (Option.bind_some _ _).symm.trans H; rw [hy430]; with_reducible exact H2_) | (have H2_ := (Option.bind_some _ _).symm.trans H; with_reducible exact H2_) | with_reducible exact H | (rw [hy430]; exact H) | exact H
   have Ny430 := Aside0.mk hy430
   clear hy430
   have H' := Aside0.mk H
   clear H
   have q5 : ((ji2) : Int) ≤ ((l0.length : Int) : Int) := of_decide_eq_true za
   obtain ⟨i05, hi05, _, hsz5, _⟩ := info_parts info38
   have hroom5 : l0.length ≤ c0 := HC0.out
   have hC5 : Kd.C k38 _ A0 l0.length l0 := HR0.out
   have hcut5 := cut_to (P := Tryd.prog) 22 38 .i64 Tryd.underlying22 hi05 A0 l0.length c0 (ji2) (of_decide_eq_true za) q5 hroom5
   have hr5 := Kd.C_take (m := ((ji2) : Int).toNat) hC5 (by omega)
   have hy5 : y430.length = ((ji2) : Int).toNat := (by rw [Ny430.out, List.length_take]; omega)
   rw [← Ny430.out] at hr5
   rw [← hy5] at hcut5
   have HR433 := Aside0.mk hr5
   have HC433 := Aside0.mk (show y430.length ≤ c0 from by omega)
   clear hr5 hC5 hroom5 hi05 hsz5
   have KY5 := Aside0.mk hy5
   clear hy5
   replace q5 := eq_true q5
   go_enter Tryd.func17, Tryd.ntmps17
   go_wp2
   go_loopg [3, 12] k (fun kq v3 v12 w' => ∃ (x3_1 : List (S38)) (x12_1 : Int), v12 = .int .i64 x12_1 ∧ Aside0 (backseatlaw08_few.l0 kq x3_1 y430 (y430.length : Int) x12_1 = some r) ∧ Aside0 (kq ≤ k) ∧ Aside0 (Kd.S k38 38 w' w.heap.size (fun _ => True) v3 x3_1) ∧ Aside0 (Below w.heap.size w w'))
   case atStart => exact ⟨(([] : List (S38))), (0), zf, H', ⟨Nat.le_refl _⟩, ⟨by first | exact Kd.S_nil _ _ _ _ _ | exact Kd.N_nil _ _ _ _ _ | exact Kd.V_nil _ _ _ _ _ | exact Kd.Q_nil _ _ _ _ _ | exact Kd.R_nil _ _ _ _ _⟩, ⟨zb⟩⟩
   case round =>
    clear H'
    try clear c3
    try clear c3b0
    try clear c3b1
    try clear c4
    try clear c4b0
    try clear c4b1
    try clear q5
    try clear q5
    obtain ⟨x3_1, x12_1, rfl, HA, HK1, HO_3, HB⟩ := hrel
    cases gk with
    | zero => exact absurd HA.out (by simp [backseatlaw08_few.l0])
    | succ k1 =>
     have H := HA.out
     clear HA
     simp only [backseatlaw08_few.l0] at H
     by_cases c6 : x12_1 < (y430.length : Int)
     ·rw [if_pos c6] at H
      have c6b0 : decide (x12_1 < (y430.length : Int)) = true := decide_eq_true c6
      clear c6
      by_cases c7 : 0 ≤ x12_1
      ·rw [if_pos c7] at H
       have c7b0 : decide (0 ≤ x12_1) = true := decide_eq_true c7
       clear c7
       by_cases c8 : x12_1 < (y430.length : Int)
       ·rw [if_pos c8] at H
        have c8b0 : decide (x12_1 < (y430.length : Int)) = true := decide_eq_true c8
        clear c8
        replace H := Option.bind_eq_some_iff.mp H
        obtain ⟨t436, A90, H⟩ := H
        replace H : (if x3_1.length < 4398046511104 then (backseatlaw08_few.l0 k1 (x3_1 ++ [(⟨t436, (rd_T38 y430 x12_1).f1⟩ : S38)]) y430 (y430.length : Int) (wrap64 (x12_1 + 1))) else (none)) = some r := H
        have A9 := Aside0.mk A90
        clear A90
        by_cases c10 : x3_1.length < 4398046511104
        ·rw [if_pos c10] at H
         have LMc10 := Aside0.mk c10
         clear c10
         obtain ⟨y439, hy439⟩ : ∃ y_ : List (S38), y_ = (x3_1 ++ [(⟨t436, (rd_T38 y430 x12_1).f1⟩ : S38)]) := ⟨_, rfl⟩
         replace H : (backseatlaw08_few.l0 k1 y439 y430 (y430.length : Int) (wrap64 (x12_1 + 1))) = some r := by first | (rw [hy439]; with_reducible exact H) | (have H2_ := (Option.bind_some _ _).symm.trans H; rw [hy439]; with_reducible exact H2_) | (have H2_ := (Option.bind_some _ _).symm.trans H; with_reducible exact H2_) | with_reducible exact H | (rw [hy439]; exact H) | exact H
         have Ny439 := Aside0.mk hy439
         clear hy439
         have H' := Aside0.mk H
         clear H
         have p434 : 0 ≤ (x12_1 : Int) := of_decide_eq_true za
         have q434 : x12_1 < (y430.length : Int) := of_decide_eq_true za
         obtain ⟨ad434, A434_0, c434_0, e434, hx434_0, hx434_1, hl434_0, hi434_0⟩ := at_T38 HR433.out x12_1 p434 q434
         cases e434
         replace hx434_0 := zc HB hx434_0
         replace hx434_1 := zc HB hx434_1
         have HR434_0 := Aside0.mk hi434_0
         have HC434_0 := Aside0.mk hl434_0
         clear hi434_0 hl434_0
         replace p434 := eq_true p434
         replace q434 := eq_true q434
         try go_wp2_with (first | ((with_reducible refine gate_dst (N := 5) rfl ?_); refine box_event ?hg (N := 5) ?hd (cs := #[.slice none 0 0, .bool false]) (t := 38) ?hr ?_; (case hd => rfl); (case hg => rfl); (case hr => exact zo); intro gb435 hg w11 hbox hb; replace HO_3 := Aside0.mk (Kd.S_below (Kd.S_elderB (zSa HO_3) gb435 (Nat.le_of_eq hg.symm)) hb); have BK435 := Aside0.mk (hbox); have GW435 := Aside0.mk ((zg hg : w.heap.size ≤ gb435)); have GE435 := Aside0.mk ((zg hg : w.heap.size ≤ gb435)); replace HB := (zs HB hb); clear hb hbox hg; obtain ⟨hcz12_0, hcz12_1, hfz12_0, hfz12_1⟩ := zq2 (w := w11) BK435))
         have n0_ : Aside0 (Kd.S k38 38 ((w11.setCell ⟨gb435, 0, none⟩ (.slice A434_0 ((rd_T38 y430 x12_1).f0).length c434_0)).setCell ⟨gb435, 1, none⟩ (.bool ((rd_T38 y430 x12_1).f1))) w.heap.size (fun k_ => k_ ≠ gb435) u3 x3_1) := ⟨by (with_reducible repeat (first | apply Kd.S_alloc | apply Kd.S_drewN | apply Kd.S_drew)); exact Kd.S_mono (Kd.S_far (p := ⟨gb435, 1, none⟩) (Kd.S_far (p := ⟨gb435, 0, none⟩) (Kd.S_mono HO_3.out (fun k_ hk => (⟨hk, hk.2⟩ : _ ∧ k_ ≠ gb435))) (fun _ hk => hk.2) (.slice A434_0 ((rd_T38 y430 x12_1).f0).length c434_0)) (fun _ hk => hk.2) (.bool ((rd_T38 y430 x12_1).f1))) (fun _ hk => hk.1.2)⟩
         have n1_ : Aside0 (((w11.setCell ⟨gb435, 0, none⟩ (.slice A434_0 ((rd_T38 y430 x12_1).f0).length c434_0)).setCell ⟨gb435, 1, none⟩ (.bool ((rd_T38 y430 x12_1).f1))).heap[gb435]? = some (.cells #[.slice A434_0 ((rd_T38 y430 x12_1).f0).length c434_0, .bool ((rd_T38 y430 x12_1).f1)] 38 (0, 0))) := ⟨by refine blk_put (cs := #[.slice A434_0 ((rd_T38 y430 x12_1).f0).length c434_0, .bool false]) ?_ 1 _ rfl; refine blk_put (cs := #[.slice none 0 0, .bool false]) ?_ 0 _ rfl; exact BK435.out⟩
         have n2_ : Aside0 (Below w.heap.size w ((w11.setCell ⟨gb435, 0, none⟩ (.slice A434_0 ((rd_T38 y430 x12_1).f0).length c434_0)).setCell ⟨gb435, 1, none⟩ (.bool ((rd_T38 y430 x12_1).f1)))) := ⟨zb⟩
         (try clear HO_3)
         (try clear BK435)
         (try clear HB)
         generalize ((w11.setCell ⟨gb435, 0, none⟩ (.slice A434_0 ((rd_T38 y430 x12_1).f0).length c434_0)).setCell ⟨gb435, 1, none⟩ (.bool ((rd_T38 y430 x12_1).f1))) = w13 at n0_ n1_ n2_ ⊢
         have HO_3 := n0_
         have BK435 := n1_
         have HB := n2_
         clear n0_ n1_ n2_
         have n0_ := Aside0.mk (Kd.S_drew HO_3.out)
         have n1_ := Aside0.mk (blk_drew BK435.out)
         have n2_ := Aside0.mk (below_drew1 HB.out)
         clear HO_3
         clear BK435
         clear HB
         have HO_3 := n0_
         have BK435 := n1_
         have HB := n2_
         clear n0_ n1_ n2_
         refine start_ (n := 10) (S := fun w' => w'.cell? ⟨gb435, 0, none⟩ = some (.slice A434_0 ((rd_T38 y430 x12_1).f0).length c434_0) ∧ w'.cell? ⟨gb435, 1, none⟩ = some (.bool ((rd_T38 y430 x12_1).f1))) (ds := []) #[false, false, false, false, false, false, false, false, false, false] (by kernel_rfl) rfl rfl ⟨(blk_cell BK435.out 0).trans rfl, (blk_cell BK435.out 1).trans rfl⟩ (fun hHeld => ?_); refine with_tabW backseatlaw08_few.tab5 backseatlaw08_few.bits5 (fun HT_ HW_ => ?_)
         generalize w13.drew = w14 at HO_3 BK435 HB hHeld ⊢
         refine pure_ (i := 0) (N := some 16) (v := ?_) (a' := ?_) #[true, false, false, false, false, false, false, false, false, false] rfl rfl (any_of HT_.out (by kernel_rfl)) (fun _ _ _ h => h) (Or.inl ⟨by rfl, ?_⟩) ?_ ?_
         rotate_left
         ·intro w'
          go_simp
          with_reducible rfl
         rotate_left
         ·exact zr
         refine pure_ (i := 1) (N := some 17) (v := ?_) (a' := ?_) #[true, true, false, false, false, false, false, false, false, false] rfl rfl (any_of HT_.out (by kernel_rfl)) (fun _ _ _ h => h) (Or.inl ⟨by rfl, ?_⟩) ?_ ?_
         rotate_left
         ·intro w'
          go_simp
          with_reducible rfl
         rotate_left
         ·exact zr
         refine pure_ (i := 4) (N := some 20) (v := ?_) (a' := ?_) #[true, true, false, false, true, false, false, false, false, false] rfl rfl (any_of HT_.out (by kernel_rfl)) (fun _ _ _ h => h) (Or.inl ⟨by rfl, ?_⟩) ?_ ?_
         rotate_left
         ·intro w'
          go_simp
          with_reducible rfl
         rotate_left
         ·exact zr
         refine take_ (i := 2) (N := some 18) (v := ?_) (a' := ?_) #[true, true, true, false, true, false, false, false, false, false] rfl rfl (take_ofW HT_.out HW_.out (by kernel_rfl)) (fun _ _ _ h => h) (Or.inl ⟨by rfl, ?_⟩) hHeld ?_ ?_
         rotate_left
         ·rintro w' ⟨s0, s1⟩
          go_simp
          with_reducible rfl
         rotate_left
         ·exact zr
         refine take_ (i := 5) (N := some 21) (v := ?_) (a' := ?_) #[true, true, true, false, true, true, false, false, false, false] rfl rfl (take_ofW HT_.out HW_.out (by kernel_rfl)) (fun _ _ _ h => h) (Or.inl ⟨by rfl, ?_⟩) hHeld ?_ ?_
         rotate_left
         ·rintro w' ⟨s0, s1⟩
          go_simp
          with_reducible rfl
         rotate_left
         ·exact zr
         refine one_ (i := 3) (N := some 19) #[true, true, true, true, true, true, false, false, false, false] rfl rfl (one_of HT_.out (by kernel_rfl)) (by decide) (fun K hK => ?_)
         refine goes_ Tryd.func24 (by kernel_rfl) rfl #[.slice A434_0 ((rd_T38 y430 x12_1).f0).length c434_0, .int .i64 82] (by rfl) rfl rfl zl ?_
         with_reducible refine (backseatlaw08_cells.calls k1 _ _ ((rd_T38 y430 x12_1).f0) 82 t436 _ ?side1 ?side2 A9.out).mono ?_
         (case side1 => repeat (first | exact (Kd.C_below HR434_0.out HB.out) | (with_reducible refine Kd.C_alloc ?_ _) | (with_reducible refine Kd.C_drewN ?_ _) | (with_reducible refine Kd.C_drew ?_)))
         (case side2 => exact HC434_0.out)
         rintro e w15 ⟨v437, rfl, ho0, hb⟩
         refine ⟨_, rfl, ?_⟩
         have n0_ := Aside0.mk (Kd.S_elder' (zSa HO_3) (Kd.R_base ho0) hb)
         have n1_ := Aside0.mk (Kd.R_lower ho0 (below_size zb))
         have n2_ := (zk BK435 hb)
         have n3_ := (zs HB hb)
         clear HO_3
         clear BK435
         clear HB
         have HO_3 := n0_
         have HO438 := n1_
         have BK435 := n2_
         have HB := n3_
         clear n0_ n1_ n2_ n3_
         (try clear hb)
         (try clear hb2)
         (try clear hk)
         (try clear hi)
         (try clear ho0)
         obtain ⟨Ao16, co16, eo16⟩ := Kd.R_slice HO438.out
         (first | subst eo16 | (injection eo16 with f1_ f2_ f3_; have f4_ := f1_.symm; have f5_ := f3_.symm; clear f1_ f2_ f3_; subst f4_; subst f5_))
         refine hK.out _ _ ⟨(blk_cell BK435.out 0).trans rfl, (blk_cell BK435.out 1).trans rfl⟩ (fun hHeld => ?_)
         clear hK K
         refine norm_ (a' := ?_) ?_ ?_
         rotate_left
         ·show Act.put _ (some 19) _ = _
          simp only [Act.put, List.setIfInBounds_toArray, List.set_cons_zero, List.set_cons_succ, i64_w, i32_w]
          rfl
         refine pure_ (i := 6) (N := some 22) (v := ?_) (a' := ?_) #[true, true, true, true, true, true, true, false, false, false] rfl rfl (any_of HT_.out (by kernel_rfl)) (fun _ _ _ h => h) (Or.inl ⟨by rfl, ?_⟩) ?_ ?_
         rotate_left
         ·intro w'
          go_simp
          with_reducible rfl
         rotate_left
         ·exact zr
         refine one_ (i := 7) (N := some 23) #[true, true, true, true, true, true, true, true, false, false] rfl rfl (one_of HT_.out (by kernel_rfl)) (by decide) (fun K hK => ?_)
         refine value_ (w1 := ?_) (v := ?_) (by rfl) rfl ?_ ?_
         rotate_left 2
         ·go_simp
          constructor
          ·rfl
          ·rfl
         refine hK.out _ _ ⟨(blk_cell (blk_alloc BK435.out _) 0).trans rfl, (blk_cell (blk_alloc BK435.out _) 1).trans rfl⟩ (fun hHeld => ?_)
         clear hK K
         refine norm_ (a' := ?_) ?_ ?_
         rotate_left
         ·show Act.put _ (some 23) _ = _
          simp only [Act.put, List.setIfInBounds_toArray, List.set_cons_zero, List.set_cons_succ, i64_w, i32_w]
          rfl
         refine one_ (i := 8) (N := some 24) #[true, true, true, true, true, true, true, true, true, false] rfl rfl (one_of HT_.out (by kernel_rfl)) (by decide) (fun K hK => ?_)
         refine Kd.S_append_step k38 (w0 := w) w.heap.size (by rfl) (.tmp 16) (.tmp 23) 22 38 (.agg #[(.slice none 0 0), (.bool false)]) 32 rfl Tryd.underlying22 info38 rfl (by decide) (by omega) u3 x3_1 (⟨t436, (rd_T38 y430 x12_1).f1⟩ : S38) [.slice Ao16 t436.length co16, .bool ((rd_T38 y430 x12_1).f1)] (fun k_ => k_ ≠ gb435) (fun k_ => some k_ = (.slice Ao16 t436.length co16 : Value).ownBlock) rfl rfl ?aP (fun k_ hk_ => ((Kd.R_mono (ok' := fun k_ => ((fun k_ => k_ ≠ gb435)) k_ ∧ some k_ ≠ (u3 : Value).ownBlock) (Kd.R_types (Kd.R_apart' (HO438.out) (Kd.S_typed HO_3.out) (by decide)) BK435.out (by decide)) (fun k_ hk => ⟨hk.2, hk.1.2⟩))).1 k_ hk_.symm) ?aF ?aO ?aB ?aS ?aL ?_
         (case aP => exact k38_mkM _ _ _ (⟨t436, (rd_T38 y430 x12_1).f1⟩ : S38) (Kd.R_mono (Kd.R_tight rfl (Kd.R_mono (ok' := fun k_ => ((fun k_ => k_ ≠ gb435)) k_ ∧ some k_ ≠ (u3 : Value).ownBlock) (Kd.R_types (Kd.R_apart' (HO438.out) (Kd.S_typed HO_3.out) (by decide)) BK435.out (by decide)) (fun k_ hk => ⟨hk.2, hk.1.2⟩))) (fun _ h_ => h_)))
         (case aB => exact zb)
         (case aF => exact (fun k_ hk => Kd.freshB (g := gb435) (o := .cells #[.slice A434_0 ((rd_T38 y430 x12_1).f0).length c434_0, .bool ((rd_T38 y430 x12_1).f1)] 38 (0, 0)) (by exact BK435.out) k_ hk))
         (case aO => exact (by (with_reducible repeat (first | apply Kd.S_alloc | apply Kd.S_drewN | apply Kd.S_drew)); exact Kd.S_mono HO_3.out (fun k_ hk => ⟨hk.1, fun e_ => hk.2 e_⟩)))
         (case aS => exact (below_size zb))
         (case aL => have := LMc10.out; omega)
         intro v440 w17 ho hb hg hat
         rw [← Ny439.out] at ho
         have n0_ := Aside0.mk (blk_grown (g := gb435) (o := .cells #[.slice A434_0 ((rd_T38 y430 x12_1).f0).length c434_0, .bool ((rd_T38 y430 x12_1).f1)] 38 (0, 0)) (by exact BK435.out) hg (Kd.S_away HO_3.out (fun _ hk => hk.1)))
         have n1_ := Aside0.mk (hb)
         have n2_ := Aside0.mk (ho)
         clear BK435
         clear HB
         clear HO_3
         clear HO438
         have BK435 := n0_
         have HB := n1_
         have HO441 := n2_
         clear n0_ n1_ n2_
         clear ho hb hg hat
         refine hK.out _ _ ⟨(blk_cell BK435.out 0).trans rfl, (blk_cell BK435.out 1).trans rfl⟩ (fun hHeld => ?_)
         clear hK K
         refine norm_ (a' := ?_) ?_ ?_
         rotate_left
         ·show Act.put _ (some 24) _ = _
          simp only [Act.put, List.setIfInBounds_toArray, List.set_cons_zero, List.set_cons_succ, i64_w, i32_w]
          rfl
         refine pure_ (i := 9) (N := some 3) (v := ?_) (a' := ?_) #[true, true, true, true, true, true, true, true, true, true] rfl rfl (any_of HT_.out (by kernel_rfl)) (fun _ _ _ h => h) (Or.inl ⟨by rfl, ?_⟩) ?_ ?_
         rotate_left
         ·intro w'
          go_simp
          with_reducible rfl
         rotate_left
         ·exact zr
         refine done_ (done_of HT_.out (by kernel_rfl)) ?_
         try go_wp2
         go_roundg k1
         case measure => have := HK1.out; omega
         case rel => exact ⟨(y439), (wrap64 (x12_1 + 1)), zf, H', ⟨by have := HK1.out; omega⟩, ⟨by (with_reducible repeat (first | apply Kd.S_alloc | apply Kd.S_drewN | apply Kd.S_drew)); exact Kd.S_mono HO441.out (fun _ hk => trivial)⟩, ⟨zb⟩⟩
        ·rw [if_neg c10] at H
         exact absurd H (by simp)
       ·rw [if_neg c8] at H
        exact absurd H (by simp)
      ·rw [if_neg c7] at H
       exact absurd H (by simp)
     ·rw [if_neg c6] at H
      have c6b0 : decide (x12_1 < (y430.length : Int)) = false := decide_eq_false c6
      clear c6
      obtain rfl := Option.some.inj H
      go_wp2
      go_ret
      exact ⟨_, by first | rfl | (simp [errW_none, errW_some] <;> rfl) | (simp only [← hji2]; first | rfl | (simp [errW_none, errW_some] <;> rfl)) | (simp [*, errW_none, errW_some] <;> rfl), by (with_reducible repeat (first | apply Kd.S_alloc | apply Kd.S_drewN | apply Kd.S_drew)); exact HO_3.out, zb⟩
  ·rw [if_neg c4] at H
   exact absurd H (by simp)
 ·rw [if_neg c3] at H
  exact absurd H (by simp)
theorem eqA58 (d : Nat) (w : World) (x0 y0 : Int) (x1 y1 : Int) (x2 y2 : Int) :
  (Op.equalIn (d + 2) 58 (.agg #[.int .i64 x0, .int .i64 x1, .int .i64 x2]) (.agg #[.int .i64 y0, .int .i64 y1, .int .i64 y2])).run Tryd.prog w = .ok (x0 == y0 && (x1 == y1 && (x2 == y2))) w := by
 refine eqA_of Tryd.underlying58 (by kernel_rfl) ?_
 refine eqf_cons (by rfl) (by go_simp; rfl) (by go_simp; rfl) (by go_simp) ?_
 refine eqf_cons (by rfl) (by go_simp; rfl) (by go_simp; rfl) (by go_simp) ?_
 exact eqf_last (by rfl) (by go_simp; rfl) (by go_simp; rfl) (by go_simp)
theorem eqA60 (d : Nat) (w : World) (x0 y0 : ByteArray) (x1 y1 : Int) (x2 y2 : Int) (x3 y3 : Int) (x4 y4 : Int) :
  (Op.equalIn (d + 3) 60 (.agg #[.string x0, .int .i64 x1, .int .i64 x2, .int .i64 x3, .int .i64 x4]) (.agg #[.string y0, .int .i64 y1, .int .i64 y2, .int .i64 y3, .int .i64 y4])).run Tryd.prog w = .ok (x0.toList == y0.toList && (x1 == y1 && ((x2 == y2 && (x3 == y3 && (x4 == y4)))))) w := by
 refine eqA_of Tryd.underlying60 (by kernel_rfl) ?_
 refine eqf_cons (by rfl) (by go_simp; rfl) (by go_simp; rfl) (by go_simp) ?_
 refine eqf_cons (by rfl) (by go_simp; rfl) (by go_simp; rfl) (by go_simp) ?_
 exact eqf_last (by rfl) (by go_simp) (by go_simp) (eqA58 (d + 0) w _ _ _ _ _ _)
end Go.Proofs.YtckkdaehmccjlaaDoor.P
namespace Go.Proofs.YtckkdaehmccjlaaDoor.P
open Go.RowKit Go.Proofs.YtckkdaehmccjlaaDoorW.PrintWords Go.Proofs.YtckkdaehmccjlaaDoorW.PrintLast Go.Proofs.YtckkdaehmccjlaaDoorW.PrintMore
attribute [local go_sem] max2_int min2_int max_two min_two max_three min_three max_four min_four   -- for this text's walks alone
set_option linter.unusedVariables false
set_option linter.unusedSimpArgs false
attribute [local go_sem high] eqA60
mutual
def backseatref06_SameLine.j0 : Nat → Bool → List (S60) → Bool → List (S60) → Bool → Option (Bool)
 | 0, _, _, _, _, _ => none
 | k + 1, x19, x500000, x500001, x501000, x501001 => if x19 = true then (some false) else (backseatref06_SameLine.l0 k (x500000.length : Int) 0 x500000 x500001 x501000 x501001)
def backseatref06_SameLine.l0 : Nat → Int → Int → List (S60) → Bool → List (S60) → Bool → Option (Bool)
 | 0, _, _, _, _, _, _ => none
 | k + 1, x22, x23, x500000, x500001, x501000, x501001 => if x23 < x22 then (if 0 ≤ x23 then (if x23 < (x500000.length : Int) then (if x23 < (x501000.length : Int) then (if (!((((rd_T60 x500000 x23).f0).toList) == (((rd_T60 x501000 x23).f0).toList)) || (!(((rd_T60 x500000 x23).f1) == ((rd_T60 x501000 x23).f1)) || ((!(((rd_T60 x500000 x23).f2.f0) == ((rd_T60 x501000 x23).f2.f0)) || (!(((rd_T60 x500000 x23).f2.f1) == ((rd_T60 x501000 x23).f2.f1)) || (!(((rd_T60 x500000 x23).f2.f2) == ((rd_T60 x501000 x23).f2.f2)))))))) = true then (some false) else (backseatref06_SameLine.l0 k x22 (wrap64 (x23 + 1)) x500000 x500001 x501000 x501001)) else (none)) else (none)) else (none)) else (some true)
end
def backseatref06_SameLine.f (k : Nat) (l0_0 : List (S60)) (a0_1 : Bool) (l1_0 : List (S60)) (a1_1 : Bool) : Option (Bool) := if (l0_0.length : Int) = (l1_0.length : Int) then (backseatref06_SameLine.j0 k (a0_1 != a1_1) l0_0 a0_1 l1_0 a1_1) else (backseatref06_SameLine.j0 k true l0_0 a0_1 l1_0 a1_1)
set_option maxHeartbeats 8000000 in
set_option maxRecDepth 100000 in
theorem backseatref06_SameLine.calls (k : Nat) (A0_0 : Option Addr) (c0_0 : Nat) (l0_0 : List (S60)) (a0_1 : Bool) (A1_0 : Option Addr) (c1_0 : Nat) (l1_0 : List (S60)) (a1_1 : Bool) (r : Bool) (w : World) (hr0_0 : Kd.C k60 w A0_0 l0_0.length l0_0) (hc0_0 : l0_0.length ≤ c0_0) (hr1_0 : Kd.C k60 w A1_0 l1_0.length l1_0) (hc1_0 : l1_0.length ≤ c1_0) (h : backseatref06_SameLine.f k l0_0 a0_1 l1_0 a1_1 = some r) :
  Calls Tryd.prog 50 #[.agg #[.slice A0_0 l0_0.length c0_0, .bool a0_1], .agg #[.slice A1_0 l1_0.length c1_0, .bool a1_1]] w fun e w' => e = .returned (.bool r) ∧ Below w.heap.size w w' := by
 have hu38 := Tryd.underlying38
 have hu60 := Tryd.underlying60
 have HR0_0 := Aside0.mk hr0_0
 have HC0_0 := Aside0.mk hc0_0
 clear hr0_0 hc0_0
 have HR1_0 := Aside0.mk hr1_0
 have HC1_0 := Aside0.mk hc1_0
 clear hr1_0 hc1_0
 have HB := Aside0.mk (Below.refl w.heap.size w)
 have H : (if (l0_0.length : Int) = (l1_0.length : Int) then (backseatref06_SameLine.j0 k (a0_1 != a1_1) l0_0 a0_1 l1_0 a1_1) else (backseatref06_SameLine.j0 k true l0_0 a0_1 l1_0 a1_1)) = some r := h
 clear h
 have HC3 := Aside0.mk H
 clear H
 go_enter Tryd.func50, Tryd.ntmps50
 go_upto_region 1 with (first | ((with_reducible refine gate_dst (N := 2) rfl ?_); refine box_event ?hg (N := 2) ?hd (cs := #[.slice A0_0 l0_0.length c0_0, .bool a0_1]) (t := 38) ?hr ?_; (case hd => rfl); (case hg => rfl); (case hr => exact zo); intro gb499 hg w4 hbox hb; have BK499 := Aside0.mk (hbox); have GW499 := Aside0.mk ((zg hg : w.heap.size ≤ gb499)); have GE499 := Aside0.mk ((zg hg : w.heap.size ≤ gb499)); replace HB := (zs HB hb); clear hb hbox hg) | ((with_reducible refine gate_dst (N := 3) rfl ?_); refine box_event ?hg (N := 3) ?hd (cs := #[.slice A1_0 l1_0.length c1_0, .bool a1_1]) (t := 38) ?hr ?_; (case hd => rfl); (case hg => rfl); (case hr => exact zo); intro gb500 hg w5 hbox hb; have n0_ := (zk BK499 hb); have n1_ := (zs HB hb); have n2_ := Aside0.mk (hbox); have n3_ := Aside0.mk ((zg hg : w.heap.size ≤ gb500)); have n4_ := Aside0.mk ((zg hg : w.heap.size ≤ gb500)); have n5_ := Aside0.mk ((by rw [hg]; exact Nat.ne_of_lt (blk_lt (g := gb499) (o := .cells #[.slice A0_0 l0_0.length c0_0, .bool a0_1] 38 (0, 0)) (by exact BK499.out)) : gb499 ≠ gb500)); have n6_ := Aside0.mk ((by rw [hg]; exact Nat.ne_of_gt (blk_lt (g := gb499) (o := .cells #[.slice A0_0 l0_0.length c0_0, .bool a0_1] 38 (0, 0)) (by exact BK499.out)) : gb500 ≠ gb499)); clear BK499; clear HB; have BK499 := n0_; have HB := n1_; have BK500 := n2_; have GW500 := n3_; have GE500 := n4_; have NB499_500 := n5_; have NB500_499 := n6_; clear n0_ n1_ n2_ n3_ n4_ n5_ n6_; clear hb hbox hg))
 repeat (go_quiet (first | ((with_reducible refine gate_dst (N := 2) rfl ?_); refine box_event ?hg (N := 2) ?hd (cs := #[.slice A0_0 l0_0.length c0_0, .bool a0_1]) (t := 38) ?hr ?_; (case hd => rfl); (case hg => rfl); (case hr => exact zo); intro gb499 hg w4 hbox hb; have BK499 := Aside0.mk (hbox); have GW499 := Aside0.mk ((zg hg : w.heap.size ≤ gb499)); have GE499 := Aside0.mk ((zg hg : w.heap.size ≤ gb499)); replace HB := (zs HB hb); clear hb hbox hg) | ((with_reducible refine gate_dst (N := 3) rfl ?_); refine box_event ?hg (N := 3) ?hd (cs := #[.slice A1_0 l1_0.length c1_0, .bool a1_1]) (t := 38) ?hr ?_; (case hd => rfl); (case hg => rfl); (case hr => exact zo); intro gb500 hg w5 hbox hb; have n0_ := (zk BK499 hb); have n1_ := (zs HB hb); have n2_ := Aside0.mk (hbox); have n3_ := Aside0.mk ((zg hg : w.heap.size ≤ gb500)); have n4_ := Aside0.mk ((zg hg : w.heap.size ≤ gb500)); have n5_ := Aside0.mk ((by rw [hg]; exact Nat.ne_of_lt (blk_lt (g := gb499) (o := .cells #[.slice A0_0 l0_0.length c0_0, .bool a0_1] 38 (0, 0)) (by exact BK499.out)) : gb499 ≠ gb500)); have n6_ := Aside0.mk ((by rw [hg]; exact Nat.ne_of_gt (blk_lt (g := gb499) (o := .cells #[.slice A0_0 l0_0.length c0_0, .bool a0_1] 38 (0, 0)) (by exact BK499.out)) : gb500 ≠ gb499)); clear BK499; clear HB; have BK499 := n0_; have HB := n1_; have BK500 := n2_; have GW500 := n3_; have GE500 := n4_; have NB499_500 := n5_; have NB500_499 := n6_; clear n0_ n1_ n2_ n3_ n4_ n5_ n6_; clear hb hbox hg)); go_upto_region 1 with (first | ((with_reducible refine gate_dst (N := 2) rfl ?_); refine box_event ?hg (N := 2) ?hd (cs := #[.slice A0_0 l0_0.length c0_0, .bool a0_1]) (t := 38) ?hr ?_; (case hd => rfl); (case hg => rfl); (case hr => exact zo); intro gb499 hg w4 hbox hb; have BK499 := Aside0.mk (hbox); have GW499 := Aside0.mk ((zg hg : w.heap.size ≤ gb499)); have GE499 := Aside0.mk ((zg hg : w.heap.size ≤ gb499)); replace HB := (zs HB hb); clear hb hbox hg) | ((with_reducible refine gate_dst (N := 3) rfl ?_); refine box_event ?hg (N := 3) ?hd (cs := #[.slice A1_0 l1_0.length c1_0, .bool a1_1]) (t := 38) ?hr ?_; (case hd => rfl); (case hg => rfl); (case hr => exact zo); intro gb500 hg w5 hbox hb; have n0_ := (zk BK499 hb); have n1_ := (zs HB hb); have n2_ := Aside0.mk (hbox); have n3_ := Aside0.mk ((zg hg : w.heap.size ≤ gb500)); have n4_ := Aside0.mk ((zg hg : w.heap.size ≤ gb500)); have n5_ := Aside0.mk ((by rw [hg]; exact Nat.ne_of_lt (blk_lt (g := gb499) (o := .cells #[.slice A0_0 l0_0.length c0_0, .bool a0_1] 38 (0, 0)) (by exact BK499.out)) : gb499 ≠ gb500)); have n6_ := Aside0.mk ((by rw [hg]; exact Nat.ne_of_gt (blk_lt (g := gb499) (o := .cells #[.slice A0_0 l0_0.length c0_0, .bool a0_1] 38 (0, 0)) (by exact BK499.out)) : gb500 ≠ gb499)); clear BK499; clear HB; have BK499 := n0_; have HB := n1_; have BK500 := n2_; have GW500 := n3_; have GE500 := n4_; have NB499_500 := n5_; have NB500_499 := n6_; clear n0_ n1_ n2_ n3_ n4_ n5_ n6_; clear hb hbox hg)))
 (try simp only [Act.put, List.setIfInBounds_toArray, List.set_cons_zero, List.set_cons_succ])
 go_cut [19] (fun v19 wc => ∃ (kq : Nat) (x19_2 : Bool), v19 = .bool x19_2 ∧ Aside0 (backseatref06_SameLine.j0 kq x19_2 l0_0 a0_1 l1_0 a1_1 = some r) ∧ Aside0 (kq ≤ k) ∧ Aside0 (wc.heap[gb499]? = some (.cells #[(.slice A0_0 l0_0.length c0_0), .bool a0_1] 38 (0, 0))) ∧ Aside0 (wc.heap[gb500]? = some (.cells #[(.slice A1_0 l1_0.length c1_0), .bool a1_1] 38 (0, 0))) ∧ Aside0 (Below w.heap.size w wc))
 case first =>
  have H := HC3.out
  clear HC3
  by_cases c6 : (l0_0.length : Int) = (l1_0.length : Int)
  ·rw [if_pos c6] at H
   have c6b0 : ((l0_0.length : Int) == (l1_0.length : Int)) = true := beq_iff_eq.mpr c6
   have c6b1 : ((l0_0.length : Int) != (l1_0.length : Int)) = false := bne_eq_false_iff_eq.mpr c6
   have c6b2 : (l0_0.length == l1_0.length) = true := by first | simpa using c6 | (simp at c6 ⊢; omega)
   clear c6
   (first | rw [c6b0] | (simp only [i64_w, i32_w]; rw [c6b0]) | skip)
   have H' := Aside0.mk H
   clear H
   have hnb7 := NB499_500.out
   have hnc7 := NB500_499.out
   obtain ⟨hcz8_0, hcz8_1, hfz8_0, hfz8_1⟩ := zq2 (w := w5) BK499
   obtain ⟨hcz9_0, hcz9_1, hfz9_0, hfz9_1⟩ := zq2 (w := w5) BK500
   go_wp2
   repeat (go_quiet (fail); try go_wp2)
   go_meet
   case rel => exact ⟨_, ((a0_1 != a1_1)), zf, H', ⟨by first | omega | exact Nat.le_refl _⟩, ⟨by exact BK499.out⟩, ⟨by exact BK500.out⟩, ⟨zb⟩⟩
  ·rw [if_neg c6] at H
   have c6b0 : ((l0_0.length : Int) == (l1_0.length : Int)) = false := beq_eq_false_iff_ne.mpr c6
   have c6b1 : ((l0_0.length : Int) != (l1_0.length : Int)) = true := bne_iff_ne.mpr c6
   have c6b2 : (l0_0.length == l1_0.length) = false := by first | simpa using c6 | (simp at c6 ⊢; omega)
   (first | rw [c6b0] | (simp only [i64_w, i32_w]; rw [c6b0]) | skip)
   have H' := Aside0.mk H
   clear H
   have hnb10 := NB499_500.out
   have hnc10 := NB500_499.out
   obtain ⟨hcz11_0, hcz11_1, hfz11_0, hfz11_1⟩ := zq2 (w := w5) BK499
   obtain ⟨hcz12_0, hcz12_1, hfz12_0, hfz12_1⟩ := zq2 (w := w5) BK500
   go_wp2
   repeat (go_quiet (fail); try go_wp2)
   go_meet
   case rel => exact ⟨_, (true), zf, H', ⟨by first | omega | exact Nat.le_refl _⟩, ⟨by exact BK499.out⟩, ⟨by exact BK500.out⟩, ⟨zb⟩⟩
 case rest =>
  clear HC3
  obtain ⟨kq, x19_2, rfl, HA, HJ2, BK499, BK500, HB⟩ := hcut
  cases kq with
  | zero => exact absurd HA.out (by simp [backseatref06_SameLine.j0])
  | succ kj2 =>
   have H := HA.out
   clear HA
   simp only [backseatref06_SameLine.j0] at H
   by_cases c13 : x19_2 = true
   ·subst c13
    have H1 : (some false) = some r := by rw [if_pos rfl] at H; exact H
    clear H
    have H := H1
    clear H1
    obtain rfl := Option.some.inj H
    go_wp2
    repeat (go_quiet (fail); try go_wp2)
    go_ret
    exact ⟨ze, zb⟩
   ·replace c13 := Bool.eq_false_iff.mpr c13
    subst c13
    have H1 : (backseatref06_SameLine.l0 kj2 (l0_0.length : Int) 0 l0_0 a0_1 l1_0 a1_1) = some r := by rw [if_neg (show ¬ (false = true) by decide)] at H; exact H
    clear H
    have H := H1
    clear H1
    have H' := Aside0.mk H
    clear H
    have hnb14 := NB499_500.out
    have hnc14 := NB500_499.out
    obtain ⟨hcz15_0, hcz15_1, hfz15_0, hfz15_1⟩ := zq2 (w := wc) BK499
    go_wp2
    repeat (go_quiet (fail); try go_wp2)
    go_loopg [23] kj2 (fun kq v23 w' => ∃ (x23_2 : Int), v23 = .int .i64 x23_2 ∧ Aside0 (backseatref06_SameLine.l0 kq (l0_0.length : Int) x23_2 l0_0 a0_1 l1_0 a1_1 = some r) ∧ Aside0 (kq ≤ kj2) ∧ Aside0 (w'.heap[gb499]? = some (.cells #[(.slice A0_0 l0_0.length c0_0), .bool a0_1] 38 (0, 0))) ∧ Aside0 (w'.heap[gb500]? = some (.cells #[(.slice A1_0 l1_0.length c1_0), .bool a1_1] 38 (0, 0))) ∧ Aside0 (Below w.heap.size w w'))
    case atStart => exact ⟨(0), zf, H', ⟨Nat.le_refl _⟩, ⟨by exact BK499.out⟩, ⟨by exact BK500.out⟩, ⟨zb⟩⟩
    case round =>
     clear H'
     try clear c13
     try clear hcz15_0
     try clear hcz15_1
     try clear hfz15_0
     try clear hfz15_1
     obtain ⟨x23_2, rfl, HA, HK2, BK499, BK500, HB⟩ := hrel
     cases gk with
     | zero => exact absurd HA.out (by simp [backseatref06_SameLine.l0])
     | succ k2 =>
      have H := HA.out
      clear HA
      simp only [backseatref06_SameLine.l0] at H
      by_cases c16 : x23_2 < (l0_0.length : Int)
      ·rw [if_pos c16] at H
       have c16b0 : decide (x23_2 < (l0_0.length : Int)) = true := decide_eq_true c16
       clear c16
       by_cases c17 : 0 ≤ x23_2
       ·rw [if_pos c17] at H
        have c17b0 : decide (0 ≤ x23_2) = true := decide_eq_true c17
        clear c17
        by_cases c18 : x23_2 < (l0_0.length : Int)
        ·rw [if_pos c18] at H
         have c18b0 : decide (x23_2 < (l0_0.length : Int)) = true := decide_eq_true c18
         clear c18
         by_cases c19 : x23_2 < (l1_0.length : Int)
         ·rw [if_pos c19] at H
          have c19b0 : decide (x23_2 < (l1_0.length : Int)) = true := decide_eq_true c19
          clear c19
          by_cases c20 : (!((((rd_T60 l0_0 x23_2).f0).toList) == (((rd_T60 l1_0 x23_2).f0).toList)) || (!(((rd_T60 l0_0 x23_2).f1) == ((rd_T60 l1_0 x23_2).f1)) || ((!(((rd_T60 l0_0 x23_2).f2.f0) == ((rd_T60 l1_0 x23_2).f2.f0)) || (!(((rd_T60 l0_0 x23_2).f2.f1) == ((rd_T60 l1_0 x23_2).f2.f1)) || (!(((rd_T60 l0_0 x23_2).f2.f2) == ((rd_T60 l1_0 x23_2).f2.f2)))))))) = true
          ·rw [if_pos c20] at H
           have c20b0 : (!((((rd_T60 l0_0 x23_2).f0).toList) == (((rd_T60 l1_0 x23_2).f0).toList)) || (!(((rd_T60 l0_0 x23_2).f1) == ((rd_T60 l1_0 x23_2).f1)) || ((!(((rd_T60 l0_0 x23_2).f2.f0) == ((rd_T60 l1_0 x23_2).f2.f0)) || (!(((rd_T60 l0_0 x23_2).f2.f1) == ((rd_T60 l1_0 x23_2).f2.f1)) || (!(((rd_T60 l0_0 x23_2).f2.f2) == ((rd_T60 l1_0 x23_2).f2.f2)))))))) = true := c20
           clear c20
           obtain rfl := Option.some.inj H
           have hnb21 := NB499_500.out
           have hnc21 := NB500_499.out
           obtain ⟨hcz22_0, hcz22_1, hfz22_0, hfz22_1⟩ := zq2 (w := wr) BK499
           have p501 : 0 ≤ (x23_2 : Int) := of_decide_eq_true za
           have q501 : x23_2 < (l0_0.length : Int) := of_decide_eq_true za
           obtain ⟨ad501, e501, hx501_0, hx501_1, hx501_2, hx501_3, hx501_4⟩ := at_T60 HR0_0.out x23_2 p501 q501
           cases e501
           replace hx501_0 := zc HB hx501_0
           replace hx501_1 := zc HB hx501_1
           replace hx501_2 := zc HB hx501_2
           replace hx501_3 := zc HB hx501_3
           replace hx501_4 := zc HB hx501_4
           replace p501 := eq_true p501
           replace q501 := eq_true q501
           obtain ⟨hcz23_0, hcz23_1, hfz23_0, hfz23_1⟩ := zq2 (w := wr) BK500
           have p502 : 0 ≤ (x23_2 : Int) := of_decide_eq_true za
           have q502 : x23_2 < (l1_0.length : Int) := of_decide_eq_true za
           obtain ⟨ad502, e502, hx502_0, hx502_1, hx502_2, hx502_3, hx502_4⟩ := at_T60 HR1_0.out x23_2 p502 q502
           cases e502
           replace hx502_0 := zc HB hx502_0
           replace hx502_1 := zc HB hx502_1
           replace hx502_2 := zc HB hx502_2
           replace hx502_3 := zc HB hx502_3
           replace hx502_4 := zc HB hx502_4
           replace p502 := eq_true p502
           replace q502 := eq_true q502
           go_wp2
           repeat (go_quiet (fail); try go_wp2)
           go_ret
           exact ⟨ze, zb⟩
          ·rw [if_neg c20] at H
           have c20b0 : (!((((rd_T60 l0_0 x23_2).f0).toList) == (((rd_T60 l1_0 x23_2).f0).toList)) || (!(((rd_T60 l0_0 x23_2).f1) == ((rd_T60 l1_0 x23_2).f1)) || ((!(((rd_T60 l0_0 x23_2).f2.f0) == ((rd_T60 l1_0 x23_2).f2.f0)) || (!(((rd_T60 l0_0 x23_2).f2.f1) == ((rd_T60 l1_0 x23_2).f2.f1)) || (!(((rd_T60 l0_0 x23_2).f2.f2) == ((rd_T60 l1_0 x23_2).f2.f2)))))))) = false := by simpa using c20
           clear c20
           have H' := Aside0.mk H
           clear H
           have hnb24 := NB499_500.out
           have hnc24 := NB500_499.out
           obtain ⟨hcz25_0, hcz25_1, hfz25_0, hfz25_1⟩ := zq2 (w := wr) BK499
           have p501 : 0 ≤ (x23_2 : Int) := of_decide_eq_true za
           have q501 : x23_2 < (l0_0.length : Int) := of_decide_eq_true za
           obtain ⟨ad501, e501, hx501_0, hx501_1, hx501_2, hx501_3, hx501_4⟩ := at_T60 HR0_0.out x23_2 p501 q501
           cases e501
           replace hx501_0 := zc HB hx501_0
           replace hx501_1 := zc HB hx501_1
           replace hx501_2 := zc HB hx501_2
           replace hx501_3 := zc HB hx501_3
           replace hx501_4 := zc HB hx501_4
           replace p501 := eq_true p501
           replace q501 := eq_true q501
           obtain ⟨hcz26_0, hcz26_1, hfz26_0, hfz26_1⟩ := zq2 (w := wr) BK500
           have p502 : 0 ≤ (x23_2 : Int) := of_decide_eq_true za
           have q502 : x23_2 < (l1_0.length : Int) := of_decide_eq_true za
           obtain ⟨ad502, e502, hx502_0, hx502_1, hx502_2, hx502_3, hx502_4⟩ := at_T60 HR1_0.out x23_2 p502 q502
           cases e502
           replace hx502_0 := zc HB hx502_0
           replace hx502_1 := zc HB hx502_1
           replace hx502_2 := zc HB hx502_2
           replace hx502_3 := zc HB hx502_3
           replace hx502_4 := zc HB hx502_4
           replace p502 := eq_true p502
           replace q502 := eq_true q502
           go_wp2
           repeat (go_quiet (fail); try go_wp2)
           go_roundg k2
           case measure => have := HJ2.out; have := HK2.out; omega
           case rel => exact ⟨(wrap64 (x23_2 + 1)), zf, H', ⟨by have := HJ2.out; have := HK2.out; omega⟩, ⟨by exact BK499.out⟩, ⟨by exact BK500.out⟩, ⟨zb⟩⟩
         ·rw [if_neg c19] at H
          exact absurd H (by simp)
        ·rw [if_neg c18] at H
         exact absurd H (by simp)
       ·rw [if_neg c17] at H
        exact absurd H (by simp)
      ·rw [if_neg c16] at H
       have c16b0 : decide (x23_2 < (l0_0.length : Int)) = false := decide_eq_false c16
       clear c16
       obtain rfl := Option.some.inj H
       go_wp2
       repeat (go_quiet (fail); try go_wp2)
       go_ret
       exact ⟨ze, zb⟩
end Go.Proofs.YtckkdaehmccjlaaDoor.P
namespace Go.Proofs.YtckkdaehmccjlaaDoor.P
open Go.RowKit Go.Proofs.YtckkdaehmccjlaaDoorW.PrintWords Go.Proofs.YtckkdaehmccjlaaDoorW.PrintLast Go.Proofs.YtckkdaehmccjlaaDoorW.PrintMore
attribute [local go_sem] max2_int min2_int max_two min_two max_three min_three max_four min_four   -- for this text's walks alone
set_option linter.unusedVariables false
set_option linter.unusedSimpArgs false
def backseatref06_Same.l0 : Nat → List (S38) → List (S38) → Int → Int → Option (Bool)
 | 0, _, _, _, _ => none
 | k + 1, x0, x1, x12, x13 => if x13 < x12 then (if 0 ≤ x13 then (if x13 < (x0.length : Int) then (if x13 < (x1.length : Int) then ((backseatref06_SameLine.f k ((rd_T38 x0 x13).f0) ((rd_T38 x0 x13).f1) ((rd_T38 x1 x13).f0) ((rd_T38 x1 x13).f1)).bind fun t539 => (if t539 = true then (backseatref06_Same.l0 k x0 x1 x12 (wrap64 (x13 + 1))) else (some false))) else (none)) else (none)) else (none)) else (some true)
def backseatref06_Same.f (k : Nat) (l0 : List (S38)) (l1 : List (S38)) : Option (Bool) := if (l0.length : Int) = (l1.length : Int) then (backseatref06_Same.l0 k l0 l1 (l0.length : Int) 0) else (some false)
def backseatref06_Same.T6 : Bool × List (List Nat × List Nat) := (true, [([], []), ([], []), ([0, 1], [0, 1]), ([2], [2]), ([], []), ([], []), ([4, 5], [4, 5]), ([6], [6]), ([3, 7], [3, 7]), ([8], [8])])
def backseatref06_Same.B6 : List Nat := [0, 0, 3, 7, 0, 0, 48, 112, 255, 511]
theorem backseatref06_Same.tab6 : rtab .any (opsOf Tryd.f28 6) = backseatref06_Same.T6 := by kernel_rfl
theorem backseatref06_Same.bits6 : waitsOk backseatref06_Same.T6.2 backseatref06_Same.B6 = true := by kernel_rfl
set_option maxHeartbeats 8000000 in
set_option maxRecDepth 100000 in
theorem backseatref06_Same.calls (k : Nat) (A0 : Option Addr) (c0 : Nat) (l0 : List (S38)) (A1 : Option Addr) (c1 : Nat) (l1 : List (S38)) (r : Bool) (w : World) (hr0 : Kd.C k38 w A0 l0.length l0) (hc0 : l0.length ≤ c0) (hr1 : Kd.C k38 w A1 l1.length l1) (hc1 : l1.length ≤ c1) (h : backseatref06_Same.f k l0 l1 = some r) :
  Calls Tryd.prog 28 #[.slice A0 l0.length c0, .slice A1 l1.length c1] w fun e w' => e = .returned (.bool r) ∧ Below w.heap.size w w' := by
 have hu38 := Tryd.underlying38
 have HR0 := Aside0.mk hr0
 have HC0 := Aside0.mk hc0
 clear hr0 hc0
 have HR1 := Aside0.mk hr1
 have HC1 := Aside0.mk hc1
 clear hr1 hc1
 have HB := Aside0.mk (Below.refl w.heap.size w)
 have H : (if (l0.length : Int) = (l1.length : Int) then (backseatref06_Same.l0 k l0 l1 (l0.length : Int) 0) else (some false)) = some r := h
 clear h
 by_cases c3 : (l0.length : Int) = (l1.length : Int)
 ·rw [if_pos c3] at H
  have c3b0 : ((l0.length : Int) == (l1.length : Int)) = true := beq_iff_eq.mpr c3
  have c3b1 : ((l0.length : Int) != (l1.length : Int)) = false := bne_eq_false_iff_eq.mpr c3
  have c3b2 : (l0.length == l1.length) = true := by first | simpa using c3 | (simp at c3 ⊢; omega)
  clear c3
  have H' := Aside0.mk H
  clear H
  go_enter Tryd.func28, Tryd.ntmps28
  go_wp2
  go_loopg [13] k (fun kq v13 w' => ∃ (x13_1 : Int), v13 = .int .i64 x13_1 ∧ Aside0 (backseatref06_Same.l0 kq l0 l1 (l0.length : Int) x13_1 = some r) ∧ Aside0 (kq ≤ k) ∧ Aside0 (Below w.heap.size w w'))
  case atStart => exact ⟨(0), zf, H', ⟨Nat.le_refl _⟩, ⟨zb⟩⟩
  case round =>
   clear H'
   try clear c1
   try clear c3
   try clear c3b0
   try clear c3b1
   try clear c3b2
   obtain ⟨x13_1, rfl, HA, HK1, HB⟩ := hrel
   cases gk with
   | zero => exact absurd HA.out (by simp [backseatref06_Same.l0])
   | succ k1 =>
    have H := HA.out
    clear HA
    simp only [backseatref06_Same.l0] at H
    by_cases c4 : x13_1 < (l0.length : Int)
    ·rw [if_pos c4] at H
     have c4b0 : decide (x13_1 < (l0.length : Int)) = true := decide_eq_true c4
     clear c4
     by_cases c5 : 0 ≤ x13_1
     ·rw [if_pos c5] at H
      have c5b0 : decide (0 ≤ x13_1) = true := decide_eq_true c5
      clear c5
      by_cases c6 : x13_1 < (l0.length : Int)
      ·rw [if_pos c6] at H
       have c6b0 : decide (x13_1 < (l0.length : Int)) = true := decide_eq_true c6
       clear c6
       by_cases c7 : x13_1 < (l1.length : Int)
       ·rw [if_pos c7] at H
        have c7b0 : decide (x13_1 < (l1.length : Int)) = true := decide_eq_true c7
        clear c7
        replace H := Option.bind_eq_some_iff.mp H
        obtain ⟨t539, A80, H⟩ := H
        replace H : (if t539 = true then (backseatref06_Same.l0 k1 l0 l1 (l0.length : Int) (wrap64 (x13_1 + 1))) else (some false)) = some r := H
        have A8 := Aside0.mk A80
        clear A80
        by_cases c9 : t539 = true
        ·subst c9
         have H1 : (backseatref06_Same.l0 k1 l0 l1 (l0.length : Int) (wrap64 (x13_1 + 1))) = some r := by rw [if_pos rfl] at H; exact H
         clear H
         have H := H1
         clear H1
         have H' := Aside0.mk H
         clear H
         try go_wp2
         have n0_ := Aside0.mk (below_drew1 HB.out)
         clear HB
         have HB := n0_
         clear n0_
         have p537 : 0 ≤ (x13_1 : Int) := of_decide_eq_true za
         have q537 : x13_1 < (l0.length : Int) := of_decide_eq_true za
         obtain ⟨ad537, A537_0, c537_0, e537, hx537_0, hx537_1, hl537_0, hi537_0⟩ := at_T38 HR0.out x13_1 p537 q537
         have hw537_1 := hx537_1
         have hw537_0 := hx537_0
         cases e537
         replace hx537_0 := zc HB hx537_0
         replace hx537_1 := zc HB hx537_1
         have HR537_0 := Aside0.mk hi537_0
         have HC537_0 := Aside0.mk hl537_0
         clear hi537_0 hl537_0
         replace p537 := eq_true p537
         replace q537 := eq_true q537
         have p538 : 0 ≤ (x13_1 : Int) := of_decide_eq_true za
         have q538 : x13_1 < (l1.length : Int) := of_decide_eq_true za
         obtain ⟨ad538, A538_0, c538_0, e538, hx538_0, hx538_1, hl538_0, hi538_0⟩ := at_T38 HR1.out x13_1 p538 q538
         have hw538_1 := hx538_1
         have hw538_0 := hx538_0
         cases e538
         replace hx538_0 := zc HB hx538_0
         replace hx538_1 := zc HB hx538_1
         have HR538_0 := Aside0.mk hi538_0
         have HC538_0 := Aside0.mk hl538_0
         clear hi538_0 hl538_0
         replace p538 := eq_true p538
         replace q538 := eq_true q538
         refine start_ (n := 10) (S := fun w' => w'.cell? (ad537.add ((x13_1).toNat * 2)) = some (.slice A537_0 ((rd_T38 l0 x13_1).f0).length c537_0) ∧ w'.cell? ⟨(ad537.add ((x13_1).toNat * 2)).block, (ad537.add ((x13_1).toNat * 2)).off + 1, none⟩ = some (.bool ((rd_T38 l0 x13_1).f1)) ∧ w'.cell? (ad538.add ((x13_1).toNat * 2)) = some (.slice A538_0 ((rd_T38 l1 x13_1).f0).length c538_0) ∧ w'.cell? ⟨(ad538.add ((x13_1).toNat * 2)).block, (ad538.add ((x13_1).toNat * 2)).off + 1, none⟩ = some (.bool ((rd_T38 l1 x13_1).f1))) (ds := []) #[false, false, false, false, false, false, false, false, false, false] (by kernel_rfl) rfl rfl ⟨((HB.out.cell (World.block_lt_of_cell? w _ hw537_0)).trans hw537_0), ((HB.out.cell (World.block_lt_of_cell? w _ hw537_1)).trans hw537_1), ((HB.out.cell (World.block_lt_of_cell? w _ hw538_0)).trans hw538_0), ((HB.out.cell (World.block_lt_of_cell? w _ hw538_1)).trans hw538_1)⟩ (fun hHeld => ?_); refine with_tabW backseatref06_Same.tab6 backseatref06_Same.bits6 (fun HT_ HW_ => ?_)
         generalize wr.drew = w10 at HB HR537_0 HR538_0 hx537_0 hx537_1 hx538_0 hx538_1 hHeld ⊢
         refine pure_ (i := 0) (N := some 16) (v := ?_) (a' := ?_) #[true, false, false, false, false, false, false, false, false, false] rfl rfl (any_of HT_.out (by kernel_rfl)) (fun _ _ _ h => h) (Or.inl ⟨by rfl, ?_⟩) ?_ ?_
         rotate_left
         ·intro w'
          go_simp
          with_reducible rfl
         rotate_left
         ·exact zr
         refine pure_ (i := 1) (N := some 17) (v := ?_) (a' := ?_) #[true, true, false, false, false, false, false, false, false, false] rfl rfl (any_of HT_.out (by kernel_rfl)) (fun _ _ _ h => h) (Or.inl ⟨by rfl, ?_⟩) ?_ ?_
         rotate_left
         ·intro w'
          go_simp
          with_reducible rfl
         rotate_left
         ·exact zr
         refine pure_ (i := 2) (N := some 18) (v := ?_) (a' := ?_) #[true, true, true, false, false, false, false, false, false, false] rfl rfl (any_of HT_.out (by kernel_rfl)) (fun _ _ _ h => h) (Or.inl ⟨by rfl, ?_⟩) ?_ ?_
         rotate_left
         ·intro w'
          go_simp
          with_reducible rfl
         rotate_left
         ·exact zr
         refine pure_ (i := 4) (N := some 20) (v := ?_) (a' := ?_) #[true, true, true, false, true, false, false, false, false, false] rfl rfl (any_of HT_.out (by kernel_rfl)) (fun _ _ _ h => h) (Or.inl ⟨by rfl, ?_⟩) ?_ ?_
         rotate_left
         ·intro w'
          go_simp
          with_reducible rfl
         rotate_left
         ·exact zr
         refine pure_ (i := 5) (N := some 21) (v := ?_) (a' := ?_) #[true, true, true, false, true, true, false, false, false, false] rfl rfl (any_of HT_.out (by kernel_rfl)) (fun _ _ _ h => h) (Or.inl ⟨by rfl, ?_⟩) ?_ ?_
         rotate_left
         ·intro w'
          go_simp
          with_reducible rfl
         rotate_left
         ·exact zr
         refine pure_ (i := 6) (N := some 22) (v := ?_) (a' := ?_) #[true, true, true, false, true, true, true, false, false, false] rfl rfl (any_of HT_.out (by kernel_rfl)) (fun _ _ _ h => h) (Or.inl ⟨by rfl, ?_⟩) ?_ ?_
         rotate_left
         ·intro w'
          go_simp
          with_reducible rfl
         rotate_left
         ·exact zr
         refine take_ (i := 3) (N := some 19) (v := ?_) (a' := ?_) #[true, true, true, true, true, true, true, false, false, false] rfl rfl (take_ofW HT_.out HW_.out (by kernel_rfl)) (fun _ _ _ h => h) (Or.inl ⟨by rfl, ?_⟩) hHeld ?_ ?_
         rotate_left
         ·rintro w' ⟨s0, s1, s2, s3⟩
          go_simp
          with_reducible rfl
         rotate_left
         ·exact zr
         refine take_ (i := 7) (N := some 23) (v := ?_) (a' := ?_) #[true, true, true, true, true, true, true, true, false, false] rfl rfl (take_ofW HT_.out HW_.out (by kernel_rfl)) (fun _ _ _ h => h) (Or.inl ⟨by rfl, ?_⟩) hHeld ?_ ?_
         rotate_left
         ·rintro w' ⟨s0, s1, s2, s3⟩
          go_simp
          with_reducible rfl
         rotate_left
         ·exact zr
         refine one_ (i := 8) (N := some 24) #[true, true, true, true, true, true, true, true, true, false] rfl rfl (one_of HT_.out (by kernel_rfl)) (by decide) (fun K hK => ?_)
         refine goes_ Tryd.func50 (by kernel_rfl) rfl #[.agg #[.slice A537_0 ((rd_T38 l0 x13_1).f0).length c537_0, .bool ((rd_T38 l0 x13_1).f1)], .agg #[.slice A538_0 ((rd_T38 l1 x13_1).f0).length c538_0, .bool ((rd_T38 l1 x13_1).f1)]] (by rfl) rfl rfl zl ?_
         with_reducible refine (backseatref06_SameLine.calls k1 _ _ ((rd_T38 l0 x13_1).f0) ((rd_T38 l0 x13_1).f1) _ _ ((rd_T38 l1 x13_1).f0) ((rd_T38 l1 x13_1).f1) true _ ?side1 ?side2 ?side3 ?side4 A8.out).mono ?_
         (case side1 => repeat (first | exact (Kd.C_below HR537_0.out HB.out) | (with_reducible refine Kd.C_alloc ?_ _) | (with_reducible refine Kd.C_drewN ?_ _) | (with_reducible refine Kd.C_drew ?_)))
         (case side2 => exact HC537_0.out)
         (case side3 => repeat (first | exact (Kd.C_below HR538_0.out HB.out) | (with_reducible refine Kd.C_alloc ?_ _) | (with_reducible refine Kd.C_drewN ?_ _) | (with_reducible refine Kd.C_drew ?_)))
         (case side4 => exact HC538_0.out)
         rintro e w11 ⟨rfl, hb⟩
         refine ⟨_, rfl, ?_⟩
         have n0_ := (zs HB hb)
         clear HB
         have HB := n0_
         clear n0_
         (try clear hb)
         (try clear hb2)
         (try clear hk)
         (try clear hi)
         refine hK.out _ _ ⟨((HB.out.cell (World.block_lt_of_cell? w _ hw537_0)).trans hw537_0), ((HB.out.cell (World.block_lt_of_cell? w _ hw537_1)).trans hw537_1), ((HB.out.cell (World.block_lt_of_cell? w _ hw538_0)).trans hw538_0), ((HB.out.cell (World.block_lt_of_cell? w _ hw538_1)).trans hw538_1)⟩ (fun hHeld => ?_)
         clear hK K
         refine norm_ (a' := ?_) ?_ ?_
         rotate_left
         ·show Act.put _ (some 24) _ = _
          simp only [Act.put, List.setIfInBounds_toArray, List.set_cons_zero, List.set_cons_succ, i64_w, i32_w]
          rfl
         refine pure_ (i := 9) (N := some 25) (v := ?_) (a' := ?_) #[true, true, true, true, true, true, true, true, true, true] rfl rfl (any_of HT_.out (by kernel_rfl)) (fun _ _ _ h => h) (Or.inl ⟨by rfl, ?_⟩) ?_ ?_
         rotate_left
         ·intro w'
          go_simp
          with_reducible rfl
         rotate_left
         ·exact zr
         refine done_ (done_of HT_.out (by kernel_rfl)) ?_
         try go_wp2
         go_roundg k1
         case measure => have := HK1.out; omega
         case rel => exact ⟨(wrap64 (x13_1 + 1)), zf, H', ⟨by have := HK1.out; omega⟩, ⟨zb⟩⟩
        ·replace c9 := Bool.eq_false_iff.mpr c9
         subst c9
         have H1 : (some false) = some r := by rw [if_neg (show ¬ (false = true) by decide)] at H; exact H
         clear H
         have H := H1
         clear H1
         obtain rfl := Option.some.inj H
         try go_wp2
         have n0_ := Aside0.mk (below_drew1 HB.out)
         clear HB
         have HB := n0_
         clear n0_
         have p537 : 0 ≤ (x13_1 : Int) := of_decide_eq_true za
         have q537 : x13_1 < (l0.length : Int) := of_decide_eq_true za
         obtain ⟨ad537, A537_0, c537_0, e537, hx537_0, hx537_1, hl537_0, hi537_0⟩ := at_T38 HR0.out x13_1 p537 q537
         have hw537_1 := hx537_1
         have hw537_0 := hx537_0
         cases e537
         replace hx537_0 := zc HB hx537_0
         replace hx537_1 := zc HB hx537_1
         have HR537_0 := Aside0.mk hi537_0
         have HC537_0 := Aside0.mk hl537_0
         clear hi537_0 hl537_0
         replace p537 := eq_true p537
         replace q537 := eq_true q537
         have p538 : 0 ≤ (x13_1 : Int) := of_decide_eq_true za
         have q538 : x13_1 < (l1.length : Int) := of_decide_eq_true za
         obtain ⟨ad538, A538_0, c538_0, e538, hx538_0, hx538_1, hl538_0, hi538_0⟩ := at_T38 HR1.out x13_1 p538 q538
         have hw538_1 := hx538_1
         have hw538_0 := hx538_0
         cases e538
         replace hx538_0 := zc HB hx538_0
         replace hx538_1 := zc HB hx538_1
         have HR538_0 := Aside0.mk hi538_0
         have HC538_0 := Aside0.mk hl538_0
         clear hi538_0 hl538_0
         replace p538 := eq_true p538
         replace q538 := eq_true q538
         refine start_ (n := 10) (S := fun w' => w'.cell? (ad537.add ((x13_1).toNat * 2)) = some (.slice A537_0 ((rd_T38 l0 x13_1).f0).length c537_0) ∧ w'.cell? ⟨(ad537.add ((x13_1).toNat * 2)).block, (ad537.add ((x13_1).toNat * 2)).off + 1, none⟩ = some (.bool ((rd_T38 l0 x13_1).f1)) ∧ w'.cell? (ad538.add ((x13_1).toNat * 2)) = some (.slice A538_0 ((rd_T38 l1 x13_1).f0).length c538_0) ∧ w'.cell? ⟨(ad538.add ((x13_1).toNat * 2)).block, (ad538.add ((x13_1).toNat * 2)).off + 1, none⟩ = some (.bool ((rd_T38 l1 x13_1).f1))) (ds := []) #[false, false, false, false, false, false, false, false, false, false] (by kernel_rfl) rfl rfl ⟨((HB.out.cell (World.block_lt_of_cell? w _ hw537_0)).trans hw537_0), ((HB.out.cell (World.block_lt_of_cell? w _ hw537_1)).trans hw537_1), ((HB.out.cell (World.block_lt_of_cell? w _ hw538_0)).trans hw538_0), ((HB.out.cell (World.block_lt_of_cell? w _ hw538_1)).trans hw538_1)⟩ (fun hHeld => ?_); refine with_tabW backseatref06_Same.tab6 backseatref06_Same.bits6 (fun HT_ HW_ => ?_)
         generalize wr.drew = w12 at HB HR537_0 HR538_0 hx537_0 hx537_1 hx538_0 hx538_1 hHeld ⊢
         refine pure_ (i := 0) (N := some 16) (v := ?_) (a' := ?_) #[true, false, false, false, false, false, false, false, false, false] rfl rfl (any_of HT_.out (by kernel_rfl)) (fun _ _ _ h => h) (Or.inl ⟨by rfl, ?_⟩) ?_ ?_
         rotate_left
         ·intro w'
          go_simp
          with_reducible rfl
         rotate_left
         ·exact zr
         refine pure_ (i := 1) (N := some 17) (v := ?_) (a' := ?_) #[true, true, false, false, false, false, false, false, false, false] rfl rfl (any_of HT_.out (by kernel_rfl)) (fun _ _ _ h => h) (Or.inl ⟨by rfl, ?_⟩) ?_ ?_
         rotate_left
         ·intro w'
          go_simp
          with_reducible rfl
         rotate_left
         ·exact zr
         refine pure_ (i := 2) (N := some 18) (v := ?_) (a' := ?_) #[true, true, true, false, false, false, false, false, false, false] rfl rfl (any_of HT_.out (by kernel_rfl)) (fun _ _ _ h => h) (Or.inl ⟨by rfl, ?_⟩) ?_ ?_
         rotate_left
         ·intro w'
          go_simp
          with_reducible rfl
         rotate_left
         ·exact zr
         refine pure_ (i := 4) (N := some 20) (v := ?_) (a' := ?_) #[true, true, true, false, true, false, false, false, false, false] rfl rfl (any_of HT_.out (by kernel_rfl)) (fun _ _ _ h => h) (Or.inl ⟨by rfl, ?_⟩) ?_ ?_
         rotate_left
         ·intro w'
          go_simp
          with_reducible rfl
         rotate_left
         ·exact zr
         refine pure_ (i := 5) (N := some 21) (v := ?_) (a' := ?_) #[true, true, true, false, true, true, false, false, false, false] rfl rfl (any_of HT_.out (by kernel_rfl)) (fun _ _ _ h => h) (Or.inl ⟨by rfl, ?_⟩) ?_ ?_
         rotate_left
         ·intro w'
          go_simp
          with_reducible rfl
         rotate_left
         ·exact zr
         refine pure_ (i := 6) (N := some 22) (v := ?_) (a' := ?_) #[true, true, true, false, true, true, true, false, false, false] rfl rfl (any_of HT_.out (by kernel_rfl)) (fun _ _ _ h => h) (Or.inl ⟨by rfl, ?_⟩) ?_ ?_
         rotate_left
         ·intro w'
          go_simp
          with_reducible rfl
         rotate_left
         ·exact zr
         refine take_ (i := 3) (N := some 19) (v := ?_) (a' := ?_) #[true, true, true, true, true, true, true, false, false, false] rfl rfl (take_ofW HT_.out HW_.out (by kernel_rfl)) (fun _ _ _ h => h) (Or.inl ⟨by rfl, ?_⟩) hHeld ?_ ?_
         rotate_left
         ·rintro w' ⟨s0, s1, s2, s3⟩
          go_simp
          with_reducible rfl
         rotate_left
         ·exact zr
         refine take_ (i := 7) (N := some 23) (v := ?_) (a' := ?_) #[true, true, true, true, true, true, true, true, false, false] rfl rfl (take_ofW HT_.out HW_.out (by kernel_rfl)) (fun _ _ _ h => h) (Or.inl ⟨by rfl, ?_⟩) hHeld ?_ ?_
         rotate_left
         ·rintro w' ⟨s0, s1, s2, s3⟩
          go_simp
          with_reducible rfl
         rotate_left
         ·exact zr
         refine one_ (i := 8) (N := some 24) #[true, true, true, true, true, true, true, true, true, false] rfl rfl (one_of HT_.out (by kernel_rfl)) (by decide) (fun K hK => ?_)
         refine goes_ Tryd.func50 (by kernel_rfl) rfl #[.agg #[.slice A537_0 ((rd_T38 l0 x13_1).f0).length c537_0, .bool ((rd_T38 l0 x13_1).f1)], .agg #[.slice A538_0 ((rd_T38 l1 x13_1).f0).length c538_0, .bool ((rd_T38 l1 x13_1).f1)]] (by rfl) rfl rfl zl ?_
         with_reducible refine (backseatref06_SameLine.calls k1 _ _ ((rd_T38 l0 x13_1).f0) ((rd_T38 l0 x13_1).f1) _ _ ((rd_T38 l1 x13_1).f0) ((rd_T38 l1 x13_1).f1) false _ ?side1 ?side2 ?side3 ?side4 A8.out).mono ?_
         (case side1 => repeat (first | exact (Kd.C_below HR537_0.out HB.out) | (with_reducible refine Kd.C_alloc ?_ _) | (with_reducible refine Kd.C_drewN ?_ _) | (with_reducible refine Kd.C_drew ?_)))
         (case side2 => exact HC537_0.out)
         (case side3 => repeat (first | exact (Kd.C_below HR538_0.out HB.out) | (with_reducible refine Kd.C_alloc ?_ _) | (with_reducible refine Kd.C_drewN ?_ _) | (with_reducible refine Kd.C_drew ?_)))
         (case side4 => exact HC538_0.out)
         rintro e w13 ⟨rfl, hb⟩
         refine ⟨_, rfl, ?_⟩
         have n0_ := (zs HB hb)
         clear HB
         have HB := n0_
         clear n0_
         (try clear hb)
         (try clear hb2)
         (try clear hk)
         (try clear hi)
         refine hK.out _ _ ⟨((HB.out.cell (World.block_lt_of_cell? w _ hw537_0)).trans hw537_0), ((HB.out.cell (World.block_lt_of_cell? w _ hw537_1)).trans hw537_1), ((HB.out.cell (World.block_lt_of_cell? w _ hw538_0)).trans hw538_0), ((HB.out.cell (World.block_lt_of_cell? w _ hw538_1)).trans hw538_1)⟩ (fun hHeld => ?_)
         clear hK K
         refine norm_ (a' := ?_) ?_ ?_
         rotate_left
         ·show Act.put _ (some 24) _ = _
          simp only [Act.put, List.setIfInBounds_toArray, List.set_cons_zero, List.set_cons_succ, i64_w, i32_w]
          rfl
         refine pure_ (i := 9) (N := some 25) (v := ?_) (a' := ?_) #[true, true, true, true, true, true, true, true, true, true] rfl rfl (any_of HT_.out (by kernel_rfl)) (fun _ _ _ h => h) (Or.inl ⟨by rfl, ?_⟩) ?_ ?_
         rotate_left
         ·intro w'
          go_simp
          with_reducible rfl
         rotate_left
         ·exact zr
         refine done_ (done_of HT_.out (by kernel_rfl)) ?_
         try go_wp2
         go_ret
         exact ⟨ze, zb⟩
       ·rw [if_neg c7] at H
        exact absurd H (by simp)
      ·rw [if_neg c6] at H
       exact absurd H (by simp)
     ·rw [if_neg c5] at H
      exact absurd H (by simp)
    ·rw [if_neg c4] at H
     have c4b0 : decide (x13_1 < (l0.length : Int)) = false := decide_eq_false c4
     clear c4
     obtain rfl := Option.some.inj H
     go_wp2
     go_ret
     exact ⟨ze, zb⟩
 ·rw [if_neg c3] at H
  have c3b0 : ((l0.length : Int) == (l1.length : Int)) = false := beq_eq_false_iff_ne.mpr c3
  have c3b1 : ((l0.length : Int) != (l1.length : Int)) = true := bne_iff_ne.mpr c3
  have c3b2 : (l0.length == l1.length) = false := by first | simpa using c3 | (simp at c3 ⊢; omega)
  obtain rfl := Option.some.inj H
  go_enter Tryd.func28, Tryd.ntmps28
  go_wp2
  go_ret
  exact ⟨ze, zb⟩
def backseatref08_Line.l0 : Nat → Int → List (S60) → Bool → Option ((List (S60)) × Bool)
 | 0, _, _, _ => none
 | k + 1, x1, x542000, x542001 => if (x542000.length : Int) < x1 then (if x542000.length < 2932031007402 then (backseatref08_Line.l0 k x1 (x542000 ++ [(⟨(⟨#[]⟩ : ByteArray), 1, (⟨0, 0, 0⟩ : S58)⟩ : S60)]) x542001) else (none)) else (some (x542000, x542001))
def backseatref08_Line.f (k : Nat) (l0 : List (S60)) (a1 : Int) (a2 : Bool) : Option ((List (S60)) × Bool) := if ([] : List (S60)).length + l0.length < 2932031007402 then (backseatref08_Line.l0 k a1 (([] : List (S60)) ++ l0) a2) else (none)
set_option maxHeartbeats 8000000 in
set_option maxRecDepth 100000 in
theorem backseatref08_Line.calls (k : Nat) (A0 : Option Addr) (c0 : Nat) (l0 : List (S60)) (a1 : Int) (a2 : Bool) (r1 : List (S60)) (r2 : Bool) (w : World) (hr0 : Kd.C k60 w A0 l0.length l0) (hc0 : l0.length ≤ c0) (h : backseatref08_Line.f k l0 a1 a2 = some (r1, r2)) :
  Calls Tryd.prog 55 #[.slice A0 l0.length c0, .int .i64 a1, .bool a2] w fun e w' => ∃ v0_ : Value, e = .returned (.agg #[v0_, .bool r2]) ∧ Kd.R k60 60 w' w.heap.size (fun _ => True) v0_ r1 ∧ Below w.heap.size w w' := by
 have hu38 := Tryd.underlying38
 have hu60 := Tryd.underlying60
 have HR0 := Aside0.mk hr0
 have HC0 := Aside0.mk hc0
 clear hr0 hc0
 have HB := Aside0.mk (Below.refl w.heap.size w)
 have H : (if ([] : List (S60)).length + l0.length < 2932031007402 then (backseatref08_Line.l0 k a1 (([] : List (S60)) ++ l0) a2) else (none)) = some (r1, r2) := h
 clear h
 by_cases c4 : ([] : List (S60)).length + l0.length < 2932031007402
 ·rw [if_pos c4] at H
  have LMc4 := Aside0.mk c4
  clear c4
  obtain ⟨y542, hy542⟩ : ∃ y_ : List (S60), y_ = (([] : List (S60)) ++ l0) := ⟨_, rfl⟩
  replace H : (backseatref08_Line.l0 k a1 y542 a2) = some (r1, r2) := by first | (rw [hy542]; with_reducible exact H) | (have H2_ := (Option.bind_some _ _).symm.trans H; rw [hy542]; with_reducible exact H2_) | (have H2_ := (Option.bind_some _ _).symm.trans H; with_reducible exact H2_) | with_reducible exact H | (rw [hy542]; exact H) | exact H
  have Ny542 := Aside0.mk hy542
  clear hy542
  have H' := Aside0.mk H
  clear H
  go_enter Tryd.func55, Tryd.ntmps55
  go_wp2_with (first | ((with_reducible refine gate_dst (N := 6) rfl ?_); refine box_event ?hg (N := 6) ?hd (cs := #[.slice none 0 0, .bool false]) (t := 38) ?hr ?_; (case hd => rfl); (case hg => rfl); (case hr => exact zo); intro gb540 hg w5 hbox hb; have BK540 := Aside0.mk (hbox); have GW540 := Aside0.mk ((zg hg : w.heap.size ≤ gb540)); have GE540 := Aside0.mk ((zg hg : w.heap.size ≤ gb540)); replace HB := (zs HB hb); clear hb hbox hg) | ((with_reducible refine gate_dst (N := 7) rfl ?_); refine box_event ?hg (N := 7) ?hd (cs := #[.slice none 0 0, .bool false]) (t := 38) ?hr ?_; (case hd => rfl); (case hg => rfl); (case hr => exact zo); intro gb541 hg w6 hbox hb; have n0_ := (zk BK540 hb); have n1_ := (zs HB hb); have n2_ := Aside0.mk (hbox); have n3_ := Aside0.mk ((zg hg : w.heap.size ≤ gb541)); have n4_ := Aside0.mk ((zg hg : w.heap.size ≤ gb541)); have n5_ := Aside0.mk ((by rw [hg]; exact Nat.ne_of_lt (blk_lt (g := gb540) (o := .cells #[.slice none 0 0, .bool false] 38 (0, 0)) (by exact BK540.out)) : gb540 ≠ gb541)); have n6_ := Aside0.mk ((by rw [hg]; exact Nat.ne_of_gt (blk_lt (g := gb540) (o := .cells #[.slice none 0 0, .bool false] 38 (0, 0)) (by exact BK540.out)) : gb541 ≠ gb540)); clear BK540; clear HB; have BK540 := n0_; have HB := n1_; have BK541 := n2_; have GW541 := n3_; have GE541 := n4_; have NB540_541 := n5_; have NB541_540 := n6_; clear n0_ n1_ n2_ n3_ n4_ n5_ n6_; clear hb hbox hg; have hnb7 := NB541_540.out; have hnc7 := NB540_541.out; obtain ⟨hcz8_0, hcz8_1, hfz8_0, hfz8_1⟩ := zq2 (w := w6) BK541) | ((with_reducible refine gate_builtin (b := .append) (xs := #[.tmp 11, .tmp 12]) rfl ?_); at_builtin; refine Kd.R_append_rows k60 (w0 := w) w.heap.size rfl (.tmp 11) (.tmp 12) 36 60 (.agg #[(.string ⟨#[]⟩), (.int .i64 0), (.int .i64 0), (.int .i64 0), (.int .i64 0)]) 48 rfl Tryd.underlying36 info60 rfl (by decide) (by omega) (.slice none 0 0) ([] : List (S60)) l0 _ _ _ (fun _ => True) (fun _ => False) rfl rfl ?aO ?aR (fun _ _ h => h) (fun _ h => h.elim) ?aF ?aB ?aS ?aL ?_; (case aR => exact Kd.C_below HR0.out zb); (case aB => exact zb); (case aF => exact (fun _ _ => trivial)); (case aO => exact ((Kd.R_nil _ _ _ _ (fun _ => True)))); (case aS => exact (below_size zb)); (case aL => have := LMc4.out; omega); intro v543 w9 ho hb hg hat; rw [← Ny542.out] at ho; replace BK540 := Aside0.mk (blk_grown (g := gb540) (o := .cells #[.slice none 0 0, .bool false] 38 (0, 0)) (by refine blk_far ?_ NB540_541.out _; refine blk_far ?_ NB540_541.out _; exact BK540.out) hg (by simp [Value.ownBlock])); replace BK541 := Aside0.mk (blk_grown (g := gb541) (o := .cells #[.slice none 0 0, .bool a2] 38 (0, 0)) (by refine blk_put (cs := #[.slice none 0 0, .bool false]) ?_ 1 _ rfl; refine blk_put (cs := #[.slice none 0 0, .bool false]) ?_ 0 _ rfl; exact BK541.out) hg (by simp [Value.ownBlock])); replace HB := Aside0.mk (hb); have HO544 := Aside0.mk (ho); clear ho hb hg hat; obtain ⟨Ao10, co10, eo10⟩ := Kd.R_slice HO544.out; subst eo10; obtain ⟨hcz11_0, hcz11_1, hfz11_0, hfz11_1⟩ := zq2 (w := w9) BK541))
  go_loopg [] k (fun kq w' => ∃ (x542000_1 : List (S60)) (u542000 : Value), Aside0 (backseatref08_Line.l0 kq a1 x542000_1 a2 = some (r1, r2)) ∧ Aside0 (kq ≤ k) ∧ Aside0 (Kd.R k60 60 w' w.heap.size (fun _ => True) u542000 x542000_1) ∧ Aside0 (w'.heap[gb540]? = some (.cells #[(.slice none 0 0), .bool false] 38 (0, 0))) ∧ Aside0 (w'.heap[gb541]? = some (.cells #[u542000, .bool a2] 38 (0, 0))) ∧ Aside0 (Below w.heap.size w w'))
  case atStart => exact ⟨(y542), (.slice Ao10 y542.length co10), H', ⟨Nat.le_refl _⟩, ⟨by (with_reducible repeat (first | apply Kd.R_alloc | apply Kd.R_drewN | apply Kd.R_drew)); exact Kd.R_mono (Kd.R_far (p := ⟨gb541, 0, none⟩) (Kd.R_types HO544.out BK541.out (by decide)) (fun _ hk => hk.2) (.slice Ao10 y542.length co10)) (fun _ hk => trivial)⟩, ⟨by refine blk_far ?_ NB540_541.out _; exact BK540.out⟩, ⟨by refine blk_put (cs := #[.slice none 0 0, .bool a2]) ?_ 0 _ rfl; exact BK541.out⟩, ⟨zb⟩⟩
  case round =>
   clear H'
   try clear c4
   try clear hcz11_0
   try clear hcz11_1
   try clear hcz8_0
   try clear hcz8_1
   try clear hfz11_0
   try clear hfz11_1
   try clear hfz8_0
   try clear hfz8_1
   obtain ⟨x542000_1, u542000, HA, HK1, HO_542000, BK540, BK541, HB⟩ := hrel
   cases gk with
   | zero => exact absurd HA.out (by simp [backseatref08_Line.l0])
   | succ k1 =>
    have H := HA.out
    clear HA
    simp only [backseatref08_Line.l0] at H
    by_cases c12 : (x542000_1.length : Int) < a1
    ·rw [if_pos c12] at H
     have c12b0 : decide ((x542000_1.length : Int) < a1) = true := decide_eq_true c12
     clear c12
     by_cases c13 : x542000_1.length < 2932031007402
     ·rw [if_pos c13] at H
      have LMc13 := Aside0.mk c13
      clear c13
      obtain ⟨y545, hy545⟩ : ∃ y_ : List (S60), y_ = (x542000_1 ++ [(⟨(⟨#[]⟩ : ByteArray), 1, (⟨0, 0, 0⟩ : S58)⟩ : S60)]) := ⟨_, rfl⟩
      replace H : (backseatref08_Line.l0 k1 a1 y545 a2) = some (r1, r2) := by first | (rw [hy545]; with_reducible exact H) | (have H2_ := (Option.bind_some _ _).symm.trans H; rw [hy545]; with_reducible exact H2_) | (have H2_ := (Option.bind_some _ _).symm.trans H; with_reducible exact H2_) | with_reducible exact H | (rw [hy545]; exact H) | exact H
      have Ny545 := Aside0.mk hy545
      clear hy545
      have H' := Aside0.mk H
      clear H
      have hnb14 := NB541_540.out
      have hnc14 := NB540_541.out
      obtain ⟨hcz15_0, hcz15_1, hfz15_0, hfz15_1⟩ := zq2 (w := wr) BK541
      obtain ⟨Ao16, co16, eo16⟩ := Kd.R_slice HO_542000.out
      subst eo16
      go_wp2_with (first | ((with_reducible refine gate_builtin (b := .append) (xs := #[.tmp 21, .tmp 23]) rfl ?_); at_builtin; refine Kd.R_append k60 (w0 := w) w.heap.size rfl (.tmp 21) (.tmp 23) 36 60 (.agg #[(.string ⟨#[]⟩), (.int .i64 0), (.int .i64 0), (.int .i64 0), (.int .i64 0)]) 48 rfl Tryd.underlying36 info60 rfl (by decide) (by omega) (.slice Ao16 x542000_1.length co16) x542000_1 (⟨(⟨#[]⟩ : ByteArray), 1, (⟨0, 0, 0⟩ : S58)⟩ : S60) [.string (⟨#[]⟩ : ByteArray), .int .i64 1, .int .i64 0, .int .i64 0, .int .i64 0] (fun _ => True) (fun _ => False) rfl rfl ?aP (fun _ hk => hk.elim) ?aF ?aO ?aB ?aS ?aL ?_; (case aP => exact k60_mkM _ _ _ (⟨(⟨#[]⟩ : ByteArray), 1, (⟨0, 0, 0⟩ : S58)⟩ : S60)); (case aB => exact zb); (case aF => exact (fun _ _ => trivial)); (case aO => exact (zRa HO_542000)); (case aS => exact (below_size zb)); (case aL => have := LMc13.out; omega); intro v546 w17 ho hb hg hat; rw [← Ny545.out] at ho; have n0_ := Aside0.mk (blk_grown (g := gb540) (o := .cells #[.slice none 0 0, .bool false] 38 (0, 0)) (by exact BK540.out) hg (Kd.R_ne HO_542000.out BK540.out (by decide))); have n1_ := Aside0.mk (blk_grown (g := gb541) (o := .cells #[.slice Ao16 x542000_1.length co16, .bool a2] 38 (0, 0)) (by exact BK541.out) hg (Kd.R_ne HO_542000.out BK541.out (by decide))); have n2_ := Aside0.mk (hb); have n3_ := Aside0.mk (ho); clear BK540; clear BK541; clear HB; clear HO_542000; have BK540 := n0_; have BK541 := n1_; have HB := n2_; have HO547 := n3_; clear n0_ n1_ n2_ n3_; clear ho hb hg hat; obtain ⟨Ao18, co18, eo18⟩ := Kd.R_slice HO547.out; subst eo18; obtain ⟨hcz19_0, hcz19_1, hfz19_0, hfz19_1⟩ := zq2 (w := w17) BK541))
      go_roundg k1
      case measure => have := HK1.out; omega
      case rel => exact ⟨(y545), (.slice Ao18 y545.length co18), H', ⟨by have := HK1.out; omega⟩, ⟨by (with_reducible repeat (first | apply Kd.R_alloc | apply Kd.R_drewN | apply Kd.R_drew)); exact Kd.R_mono (Kd.R_far (p := ⟨gb541, 0, none⟩) (Kd.R_types HO547.out BK541.out (by decide)) (fun _ hk => hk.2) (.slice Ao18 y545.length co18)) (fun _ hk => trivial)⟩, ⟨by refine blk_far ?_ NB540_541.out _; exact BK540.out⟩, ⟨by refine blk_put (cs := #[.slice Ao16 x542000_1.length co16, .bool a2]) ?_ 0 _ rfl; exact BK541.out⟩, ⟨zb⟩⟩
     ·rw [if_neg c13] at H
      exact absurd H (by simp)
    ·rw [if_neg c12] at H
     have c12b0 : decide ((x542000_1.length : Int) < a1) = false := decide_eq_false c12
     clear c12
     simp only [Option.some.injEq, Prod.mk.injEq] at H
     obtain ⟨rfl, rfl⟩ := H
     have hnb20 := NB541_540.out
     have hnc20 := NB540_541.out
     obtain ⟨hcz21_0, hcz21_1, hfz21_0, hfz21_1⟩ := zq2 (w := wr) BK541
     obtain ⟨Ao22, co22, eo22⟩ := Kd.R_slice HO_542000.out
     subst eo22
     obtain ⟨hcz23_0, hcz23_1, hfz23_0, hfz23_1⟩ := zq2 (w := wr) BK540
     go_wp2
     refine bodyPost_ret (results_cell_row rfl _ _ gb540 38 #[.slice Ao22 x542000_1.length co22, .bool a2] (0, 0) _ rfl (by refine blk_put (cs := #[.slice Ao22 x542000_1.length co22, .bool false]) ?_ 1 _ rfl; refine blk_put (cs := #[.slice none 0 0, .bool false]) ?_ 0 _ rfl; exact BK540.out) Tryd.underlying38 rfl (by kernel_rfl)) rfl ?_
     exact ⟨_, ze, by (with_reducible repeat (first | apply Kd.R_alloc | apply Kd.R_drewN | apply Kd.R_drew)); exact Kd.R_mono (Kd.R_far (p := ⟨gb540, 1, none⟩) (Kd.R_far (p := ⟨gb540, 0, none⟩) (Kd.R_types HO_542000.out BK540.out (by decide)) (fun _ hk => hk.2) (.slice Ao22 x542000_1.length co22)) (fun _ hk => hk.2) (.bool a2)) (fun _ hk => trivial), zb⟩
 ·rw [if_neg c4] at H
  exact absurd H (by simp)
mutual
def backseatref08_Fold.l0 : Nat → List (S60) → Int → List (S38) → List (S60) → Int → Option ((List (S38)))
 | 0, _, _, _, _, _ => none
 | k + 1, x0, x1, x5, x6, x7 => if x7 < (x0.length : Int) then (if 0 ≤ x7 then (if ((rd_T60 x0 x7).f1) = 2 then (backseatref08_Fold.j1 k x0 x1 x5 x6 x7 2) else (backseatref08_Fold.j1 k x0 x1 x5 x6 x7 1)) else (none)) else ((backseatref08_Line.f k x6 x1 false).bind fun bt554 => (if x5.length < 4398046511104 then (some (x5 ++ [(⟨bt554.1, bt554.2⟩ : S38)])) else (none)))
def backseatref08_Fold.j1 : Nat → List (S60) → Int → List (S38) → List (S60) → Int → Int → Option ((List (S38)))
 | 0, _, _, _, _, _, _ => none
 | k + 1, x0, x1, x5, x6, x7, x8 => if x8 ≤ x1 then (backseatref08_Fold.j2 k x0 x1 x5 x6 x7 x8 (decide ((wrap64 ((x6.length : Int) + x8)) > x1))) else (backseatref08_Fold.j2 k x0 x1 x5 x6 x7 x8 false)
def backseatref08_Fold.j2 : Nat → List (S60) → Int → List (S38) → List (S60) → Int → Int → Bool → Option ((List (S38)))
 | 0, _, _, _, _, _, _, _ => none
 | k + 1, x0, x1, x5, x6, x7, x8, x31 => if x31 = true then ((backseatref08_Line.f k x6 x1 true).bind fun bt562 => (if x5.length < 4398046511104 then ((some (x5 ++ [(⟨bt562.1, bt562.2⟩ : S38)] : List (S38))).bind fun y566 => ((some (([] : List (S60)) : List (S60))).bind fun y569 => (if x8 ≤ x1 then (if 0 ≤ x7 then (if x7 ≤ (wrap64 (x7 + x8)) then (if (wrap64 (x7 + x8)) ≤ (x0.length : Int) then ((some ((x0.take ((wrap64 (x7 + x8)) : Int).toNat).drop (x7 : Int).toNat : List (S60))).bind fun y572 => (if y569.length + y572.length < 2932031007402 then (backseatref08_Fold.l0 k x0 x1 y566 (y569 ++ y572) (wrap64 (x7 + x8))) else (none))) else (none)) else (none)) else (none)) else (backseatref08_Fold.l0 k x0 x1 y566 y569 (wrap64 (x7 + x8)))))) else (none))) else (if x8 ≤ x1 then (if 0 ≤ x7 then (if x7 ≤ (wrap64 (x7 + x8)) then (if (wrap64 (x7 + x8)) ≤ (x0.length : Int) then ((some ((x0.take ((wrap64 (x7 + x8)) : Int).toNat).drop (x7 : Int).toNat : List (S60))).bind fun y579 => (if x6.length + y579.length < 2932031007402 then (backseatref08_Fold.l0 k x0 x1 x5 (x6 ++ y579) (wrap64 (x7 + x8))) else (none))) else (none)) else (none)) else (none)) else (backseatref08_Fold.l0 k x0 x1 x5 x6 (wrap64 (x7 + x8))))
end
def backseatref08_Fold.f (k : Nat) (l0 : List (S60)) (a1 : Int) : Option ((List (S38))) := backseatref08_Fold.l0 k l0 a1 (([] : List (S38))) (([] : List (S60))) 0
set_option maxHeartbeats 8000000 in
set_option maxRecDepth 100000 in
theorem backseatref08_Fold.calls (k : Nat) (A0 : Option Addr) (c0 : Nat) (l0 : List (S60)) (a1 : Int) (r : List (S38)) (w : World) (hr0 : Kd.C k60 w A0 l0.length l0) (hc0 : l0.length ≤ c0) (h : backseatref08_Fold.f k l0 a1 = some r) :
  Calls Tryd.prog 29 #[.slice A0 l0.length c0, .int .i64 a1] w fun e w' => ∃ v0_ : Value, e = .returned (v0_) ∧ Kd.S k38 38 w' w.heap.size (fun _ => True) v0_ r ∧ Below w.heap.size w w' := by
 have HR0 := Aside0.mk hr0
 have HC0 := Aside0.mk hc0
 clear hr0 hc0
 have HB := Aside0.mk (Below.refl w.heap.size w)
 have H : (backseatref08_Fold.l0 k l0 a1 (([] : List (S38))) (([] : List (S60))) 0) = some r := h
 clear h
 obtain ⟨y548, hy548⟩ : ∃ y_ : List (S38), y_ = (([] : List (S38))) := ⟨_, rfl⟩
 replace H : (backseatref08_Fold.l0 k l0 a1 y548 (([] : List (S60))) 0) = some r := by first | (rw [hy548]; with_reducible exact H) | (have H2_ := (Option.bind_some _ _).symm.trans H; rw [hy548]; with_reducible exact H2_) | (have H2_ := (Option.bind_some _ _).symm.trans H; with_reducible exact H2_) | with_reducible exact H | (rw [hy548]; exact H) | exact H
 have Ny548 := Aside0.mk hy548
 clear hy548
 obtain ⟨y551, hy551⟩ : ∃ y_ : List (S60), y_ = (([] : List (S60))) := ⟨_, rfl⟩
 replace H : (backseatref08_Fold.l0 k l0 a1 y548 y551 0) = some r := by first | (rw [hy551]; with_reducible exact H) | (have H2_ := (Option.bind_some _ _).symm.trans H; rw [hy551]; with_reducible exact H2_) | (have H2_ := (Option.bind_some _ _).symm.trans H; with_reducible exact H2_) | with_reducible exact H | (rw [hy551]; exact H) | exact H
 have Ny551 := Aside0.mk hy551
 clear hy551
 have H' := Aside0.mk H
 clear H
 go_enter Tryd.func29, Tryd.ntmps29
 go_wp2_with (first | ((with_reducible refine gate_dst (N := 9) rfl ?_); (try (refine gate_guard (by rfl) ?_; dsimp only)); refine Kd.S_lit k38 _ 38 ?hg (N := 9) ?hd (xs := ([] : List (S38))) (inner := []) (ok := fun _ => True) (okp := fun _ => True) ?hr ?hp (fun _ hk => hk) trivial (Below.refl _ _) (Nat.le_refl _) (by simp) ?_; (case hd => rfl); (case hg => rfl); (case hr => exact zo); (case hp => exact (Reps.none _ _)); intro v549 w3 ho4 hb hg_ hnew_; clear hg_ hnew_; (first | rw [← Ny548.out] at ho4 | (simp only [Int.reduceToNat] at ho4; rw [← Ny548.out] at ho4)); have HO550 := Aside0.mk (Kd.S_lower ho4 (below_size zb)); replace HB := (zs HB hb); clear hb ho4) | ((with_reducible refine gate_dst (N := 10) rfl ?_); (try (refine gate_guard (by rfl) ?_; dsimp only)); refine Kd.R_lit k60 _ 60 ?hg (N := 10) ?hd (xs := ([] : List (S60))) (inner := []) (ok := fun _ => True) (okp := fun _ => True) ?hr ?hp (fun _ hk => hk) trivial (Below.refl _ _) (Nat.le_refl _) (by simp) ?_; (case hd => rfl); (case hg => rfl); (case hr => exact zo); (case hp => exact (Reps.none _ _)); intro v552 w5 ho6 hb hg_ hnew_; clear hg_ hnew_; (first | rw [← Ny551.out] at ho6 | (simp only [Int.reduceToNat] at ho6; rw [← Ny551.out] at ho6)); replace HO550 := Aside0.mk (Kd.S_elder' (zSa HO550) (Kd.R_base ho6) hb); have HO553 := Aside0.mk (Kd.R_lower ho6 (below_size zb)); replace HB := (zs HB hb); clear hb ho6))
 go_loopg [5, 6, 7] k (fun kq v5 v6 v7 w' => ∃ (x5_1 : List (S38)) (x6_1 : List (S60)) (x7_1 : Int), v7 = .int .i64 x7_1 ∧ Aside0 (backseatref08_Fold.l0 kq l0 a1 x5_1 x6_1 x7_1 = some r) ∧ Aside0 (kq ≤ k) ∧ Aside0 (Kd.S k38 38 w' w.heap.size (fun k_ => some k_ ≠ (v6 : Value).ownBlock) v5 x5_1) ∧ Aside0 (Kd.R k60 60 w' w.heap.size (fun _ => True) v6 x6_1) ∧ Aside0 (Below w.heap.size w w'))
 case atStart => exact ⟨(y548), (y551), (0), zf, H', ⟨Nat.le_refl _⟩, ⟨by (with_reducible repeat (first | apply Kd.S_alloc | apply Kd.S_drewN | apply Kd.S_drew)); exact Kd.S_mono HO550.out (fun _ hk => hk.2)⟩, ⟨by (with_reducible repeat (first | apply Kd.R_alloc | apply Kd.R_drewN | apply Kd.R_drew)); exact HO553.out⟩, ⟨zb⟩⟩
 case round =>
  clear H'
  obtain ⟨x5_1, x6_1, x7_1, rfl, HA, HK1, HO_5, HO_6, HB⟩ := hrel
  cases gk with
  | zero => exact absurd HA.out (by simp [backseatref08_Fold.l0])
  | succ k1 =>
   have H := HA.out
   clear HA
   simp only [backseatref08_Fold.l0] at H
   by_cases c7 : x7_1 < (l0.length : Int)
   ·rw [if_pos c7] at H
    have c7b0 : decide (x7_1 < (l0.length : Int)) = true := decide_eq_true c7
    clear c7
    by_cases c8 : 0 ≤ x7_1
    ·rw [if_pos c8] at H
     have c8b0 : decide (0 ≤ x7_1) = true := decide_eq_true c8
     clear c8
     have HC9 := Aside0.mk H
     clear H
     have p561 : 0 ≤ (x7_1 : Int) := of_decide_eq_true za
     have q561 : x7_1 < (l0.length : Int) := of_decide_eq_true za
     obtain ⟨ad561, e561, hx561_0, hx561_1, hx561_2, hx561_3, hx561_4⟩ := at_T60 HR0.out x7_1 p561 q561
     cases e561
     replace hx561_0 := zc HB hx561_0
     replace hx561_1 := zc HB hx561_1
     replace hx561_2 := zc HB hx561_2
     replace hx561_3 := zc HB hx561_3
     replace hx561_4 := zc HB hx561_4
     replace p561 := eq_true p561
     replace q561 := eq_true q561
     go_upto_if 20 with (fail)
     go_cut [8] (fun v8 wc => ∃ (kq : Nat) (x8_8 : Int), v8 = .int .i64 x8_8 ∧ Aside0 (backseatref08_Fold.j1 kq l0 a1 x5_1 x6_1 x7_1 x8_8 = some r) ∧ Aside0 (kq ≤ k1) ∧ Aside0 (Kd.S k38 38 wc w.heap.size (fun k_ => some k_ ≠ (u6 : Value).ownBlock) u5 x5_1) ∧ Aside0 (Kd.R k60 60 wc w.heap.size (fun _ => True) u6 x6_1) ∧ Aside0 (Below w.heap.size w wc))
     case first =>
      have H := HC9.out
      clear HC9
      by_cases c10 : ((rd_T60 l0 x7_1).f1) = 2
      ·rw [if_pos c10] at H
       have c10b0 : (((rd_T60 l0 x7_1).f1) == 2) = true := beq_iff_eq.mpr c10
       have c10b1 : (((rd_T60 l0 x7_1).f1) != 2) = false := bne_eq_false_iff_eq.mpr c10
       clear c10
       (first | rw [c10b0] | (simp only [i64_w, i32_w]; rw [c10b0]) | skip)
       have H' := Aside0.mk H
       clear H
       go_wp2
       go_meet
       case rel => exact ⟨_, (2), zf, H', ⟨by have := HK1.out; first | omega | exact Nat.le_refl _⟩, ⟨by (with_reducible repeat (first | apply Kd.S_alloc | apply Kd.S_drewN | apply Kd.S_drew)); exact HO_5.out⟩, ⟨by (with_reducible repeat (first | apply Kd.R_alloc | apply Kd.R_drewN | apply Kd.R_drew)); exact HO_6.out⟩, ⟨zb⟩⟩
      ·rw [if_neg c10] at H
       have c10b0 : (((rd_T60 l0 x7_1).f1) == 2) = false := beq_eq_false_iff_ne.mpr c10
       have c10b1 : (((rd_T60 l0 x7_1).f1) != 2) = true := bne_iff_ne.mpr c10
       (first | rw [c10b0] | (simp only [i64_w, i32_w]; rw [c10b0]) | skip)
       have H' := Aside0.mk H
       clear H
       go_wp2
       go_meet
       case rel => exact ⟨_, (1), zf, H', ⟨by have := HK1.out; first | omega | exact Nat.le_refl _⟩, ⟨by (with_reducible repeat (first | apply Kd.S_alloc | apply Kd.S_drewN | apply Kd.S_drew)); exact HO_5.out⟩, ⟨by (with_reducible repeat (first | apply Kd.R_alloc | apply Kd.R_drewN | apply Kd.R_drew)); exact HO_6.out⟩, ⟨zb⟩⟩
     case rest =>
      clear HC9
      try clear c7
      try clear c7b0
      try clear c8
      try clear c8b0
      try clear hx561_0
      try clear hx561_1
      try clear hx561_2
      try clear hx561_3
      try clear hx561_4
      try clear p561
      try clear q561
      obtain ⟨kq, x8_8, rfl, HA, HJ8, HO_5, HO_6, HB⟩ := hcut
      cases kq with
      | zero => exact absurd HA.out (by simp [backseatref08_Fold.j1])
      | succ kj8 =>
       have H := HA.out
       clear HA
       simp only [backseatref08_Fold.j1] at H
       have HC11 := Aside0.mk H
       clear H
       go_upto_region 8 with (fail)
       go_cut [31] (fun v31 wc => ∃ (kq : Nat) (x31_10 : Bool), v31 = .bool x31_10 ∧ Aside0 (backseatref08_Fold.j2 kq l0 a1 x5_1 x6_1 x7_1 x8_8 x31_10 = some r) ∧ Aside0 (kq ≤ kj8) ∧ Aside0 (Kd.S k38 38 wc w.heap.size (fun k_ => some k_ ≠ (u6 : Value).ownBlock) u5 x5_1) ∧ Aside0 (Kd.R k60 60 wc w.heap.size (fun _ => True) u6 x6_1) ∧ Aside0 (Below w.heap.size w wc))
       case first =>
        have H := HC11.out
        clear HC11
        by_cases c12 : x8_8 ≤ a1
        ·rw [if_pos c12] at H
         have c12b0 : decide (x8_8 ≤ a1) = true := decide_eq_true c12
         clear c12
         (first | rw [c12b0] | (simp only [i64_w, i32_w]; rw [c12b0]) | skip)
         have H' := Aside0.mk H
         clear H
         obtain ⟨Ao13, co13, eo13⟩ := Kd.R_slice HO_6.out
         subst eo13
         go_wp2
         go_meet
         case rel => exact ⟨_, (decide ((wrap64 ((x6_1.length : Int) + x8_8)) > a1)), zf, H', ⟨by have := HK1.out; have := HJ8.out; first | omega | exact Nat.le_refl _⟩, ⟨by (with_reducible repeat (first | apply Kd.S_alloc | apply Kd.S_drewN | apply Kd.S_drew)); exact HO_5.out⟩, ⟨by (with_reducible repeat (first | apply Kd.R_alloc | apply Kd.R_drewN | apply Kd.R_drew)); exact HO_6.out⟩, ⟨zb⟩⟩
        ·rw [if_neg c12] at H
         have c12b0 : decide (x8_8 ≤ a1) = false := decide_eq_false c12
         clear c12
         (first | rw [c12b0] | (simp only [i64_w, i32_w]; rw [c12b0]) | skip)
         have H' := Aside0.mk H
         clear H
         go_wp2
         go_meet
         case rel => exact ⟨_, (false), zf, H', ⟨by have := HK1.out; have := HJ8.out; first | omega | exact Nat.le_refl _⟩, ⟨by (with_reducible repeat (first | apply Kd.S_alloc | apply Kd.S_drewN | apply Kd.S_drew)); exact HO_5.out⟩, ⟨by (with_reducible repeat (first | apply Kd.R_alloc | apply Kd.R_drewN | apply Kd.R_drew)); exact HO_6.out⟩, ⟨zb⟩⟩
       case rest =>
        clear HC11
        try clear c7
        try clear c7b0
        try clear c8
        try clear c8b0
        try clear hx561_0
        try clear hx561_1
        try clear hx561_2
        try clear hx561_3
        try clear hx561_4
        try clear p561
        try clear q561
        obtain ⟨kq, x31_10, rfl, HA, HJ10, HO_5, HO_6, HB⟩ := hcut
        cases kq with
        | zero => exact absurd HA.out (by simp [backseatref08_Fold.j2])
        | succ kj10 =>
         have H := HA.out
         clear HA
         simp only [backseatref08_Fold.j2] at H
         by_cases c14 : x31_10 = true
         ·subst c14
          have H1 : ((backseatref08_Line.f kj10 x6_1 a1 true).bind fun bt562 => (if x5_1.length < 4398046511104 then ((some (x5_1 ++ [(⟨bt562.1, bt562.2⟩ : S38)] : List (S38))).bind fun y566 => ((some (([] : List (S60)) : List (S60))).bind fun y569 => (if x8_8 ≤ a1 then (if 0 ≤ x7_1 then (if x7_1 ≤ (wrap64 (x7_1 + x8_8)) then (if (wrap64 (x7_1 + x8_8)) ≤ (l0.length : Int) then ((some ((l0.take ((wrap64 (x7_1 + x8_8)) : Int).toNat).drop (x7_1 : Int).toNat : List (S60))).bind fun y572 => (if y569.length + y572.length < 2932031007402 then (backseatref08_Fold.l0 kj10 l0 a1 y566 (y569 ++ y572) (wrap64 (x7_1 + x8_8))) else (none))) else (none)) else (none)) else (none)) else (backseatref08_Fold.l0 kj10 l0 a1 y566 y569 (wrap64 (x7_1 + x8_8)))))) else (none))) = some r := by rw [if_pos rfl] at H; exact H
          clear H
          have H := H1
          clear H1
          replace H := Option.bind_eq_some_iff.mp H
          obtain ⟨⟨t562, t565⟩, A150, H⟩ := H
          replace H : (if x5_1.length < 4398046511104 then ((some (x5_1 ++ [(⟨t562, t565⟩ : S38)] : List (S38))).bind fun y566 => ((some (([] : List (S60)) : List (S60))).bind fun y569 => (if x8_8 ≤ a1 then (if 0 ≤ x7_1 then (if x7_1 ≤ (wrap64 (x7_1 + x8_8)) then (if (wrap64 (x7_1 + x8_8)) ≤ (l0.length : Int) then ((some ((l0.take ((wrap64 (x7_1 + x8_8)) : Int).toNat).drop (x7_1 : Int).toNat : List (S60))).bind fun y572 => (if y569.length + y572.length < 2932031007402 then (backseatref08_Fold.l0 kj10 l0 a1 y566 (y569 ++ y572) (wrap64 (x7_1 + x8_8))) else (none))) else (none)) else (none)) else (none)) else (backseatref08_Fold.l0 kj10 l0 a1 y566 y569 (wrap64 (x7_1 + x8_8)))))) else (none)) = some r := H
          have A15 := Aside0.mk A150
          clear A150
          by_cases c16 : x5_1.length < 4398046511104
          ·rw [if_pos c16] at H
           have LMc16 := Aside0.mk c16
           clear c16
           obtain ⟨y566, hy566⟩ : ∃ y_ : List (S38), y_ = (x5_1 ++ [(⟨t562, t565⟩ : S38)]) := ⟨_, rfl⟩
           replace H : ((some (([] : List (S60)) : List (S60))).bind fun y569 => (if x8_8 ≤ a1 then (if 0 ≤ x7_1 then (if x7_1 ≤ (wrap64 (x7_1 + x8_8)) then (if (wrap64 (x7_1 + x8_8)) ≤ (l0.length : Int) then ((some ((l0.take ((wrap64 (x7_1 + x8_8)) : Int).toNat).drop (x7_1 : Int).toNat : List (S60))).bind fun y572 => (if y569.length + y572.length < 2932031007402 then (backseatref08_Fold.l0 kj10 l0 a1 y566 (y569 ++ y572) (wrap64 (x7_1 + x8_8))) else (none))) else (none)) else (none)) else (none)) else (backseatref08_Fold.l0 kj10 l0 a1 y566 y569 (wrap64 (x7_1 + x8_8))))) = some r := by first | (rw [hy566]; with_reducible exact H) | (have H2_ := (Option.bind_some _ _).symm.trans H; rw [hy566]; with_reducible exact H2_) | (have H2_ := (Option.bind_some _ _).symm.trans H; with_reducible exact H2_) | with_reducible exact H | (rw [hy566]; exact H) | exact H
           have Ny566 := Aside0.mk hy566
           clear hy566
           obtain ⟨y569, hy569⟩ : ∃ y_ : List (S60), y_ = (([] : List (S60))) := ⟨_, rfl⟩
           replace H : (if x8_8 ≤ a1 then (if 0 ≤ x7_1 then (if x7_1 ≤ (wrap64 (x7_1 + x8_8)) then (if (wrap64 (x7_1 + x8_8)) ≤ (l0.length : Int) then ((some ((l0.take ((wrap64 (x7_1 + x8_8)) : Int).toNat).drop (x7_1 : Int).toNat : List (S60))).bind fun y572 => (if y569.length + y572.length < 2932031007402 then (backseatref08_Fold.l0 kj10 l0 a1 y566 (y569 ++ y572) (wrap64 (x7_1 + x8_8))) else (none))) else (none)) else (none)) else (none)) else (backseatref08_Fold.l0 kj10 l0 a1 y566 y569 (wrap64 (x7_1 + x8_8)))) = some r := by first | (rw [hy569]; with_reducible exact H) | (have H2_ := (Option.bind_some _ _).symm.trans H; rw [hy569]; with_reducible exact H2_) | (have H2_ := (Option.bind_some _ _).symm.trans H; with_reducible exact H2_) | with_reducible exact H | (rw [hy569]; exact H) | exact H
           have Ny569 := Aside0.mk hy569
           clear hy569
           by_cases c17 : x8_8 ≤ a1
           ·rw [if_pos c17] at H
            have c17b0 : decide (x8_8 ≤ a1) = true := decide_eq_true c17
            clear c17
            by_cases c18 : 0 ≤ x7_1
            ·rw [if_pos c18] at H
             have c18b0 := eq_true c18
             have c18b1 : decide (0 ≤ x7_1) = true := decide_eq_true c18
             clear c18
             by_cases c19 : x7_1 ≤ (wrap64 (x7_1 + x8_8))
             ·rw [if_pos c19] at H
              have c19b0 := eq_true c19
              have c19b1 : decide (x7_1 ≤ (wrap64 (x7_1 + x8_8))) = true := decide_eq_true c19
              by_cases c20 : (wrap64 (x7_1 + x8_8)) ≤ (l0.length : Int)
              ·rw [if_pos c20] at H
               have c20b0 := eq_true c20
               have c20b1 : decide ((wrap64 (x7_1 + x8_8)) ≤ (l0.length : Int)) = true := decide_eq_true c20
               obtain ⟨y572, hy572⟩ : ∃ y_ : List (S60), y_ = ((l0.take ((wrap64 (x7_1 + x8_8)) : Int).toNat).drop (x7_1 : Int).toNat) := ⟨_, rfl⟩
               replace H : (if y569.length + y572.length < 2932031007402 then (backseatref08_Fold.l0 kj10 l0 a1 y566 (y569 ++ y572) (wrap64 (x7_1 + x8_8))) else (none)) = some r := by first | (rw [hy572]; with_reducible exact H) | (have H2_ := (Option.bind_some _ _).symm.trans H; rw [hy572]; with_reducible exact H2_) | (have H2_ := (Option.bind_some _ _).symm.trans H; with_reducible exact H2_) | with_reducible exact H | (rw [hy572]; exact H) | exact H
               have Ny572 := Aside0.mk hy572
               clear hy572
               by_cases c21 : y569.length + y572.length < 2932031007402
               ·rw [if_pos c21] at H
                have LMc21 := Aside0.mk c21
                clear c21
                obtain ⟨y576, hy576⟩ : ∃ y_ : List (S60), y_ = (y569 ++ y572) := ⟨_, rfl⟩
                replace H : (backseatref08_Fold.l0 kj10 l0 a1 y566 y576 (wrap64 (x7_1 + x8_8))) = some r := by first | (rw [hy576]; with_reducible exact H) | (have H2_ := (Option.bind_some _ _).symm.trans H; rw [hy576]; with_reducible exact H2_) | (have H2_ := (Option.bind_some _ _).symm.trans H; with_reducible exact H2_) | with_reducible exact H | (rw [hy576]; exact H) | exact H
                have Ny576 := Aside0.mk hy576
                clear hy576
                have H' := Aside0.mk H
                clear H
                obtain ⟨Ao22, co22, eo22⟩ := Kd.R_slice HO_6.out
                subst eo22
                go_wp2_with (first | ((with_reducible refine gate_callee (f := 55) rfl ?_); refine goesL_ (some 35) rfl rfl Tryd.func55 (by kernel_rfl) rfl #[.slice Ao22 x6_1.length co22, .int .i64 a1, .bool true] rfl zl ?_; (with_reducible refine (backseatref08_Line.calls kj10 _ _ x6_1 a1 true t562 t565 _ ?side1 ?side2 A15.out).mono ?_); (case side1 => repeat (first | exact (Kd.R_reads' HO_6.out).2.2 | (with_reducible refine Kd.C_alloc ?_ _) | (with_reducible refine Kd.C_drewN ?_ _) | (with_reducible refine Kd.C_drew ?_))); (case side2 => exact (Kd.R_reads' HO_6.out).2.1); rintro e w23 ⟨v563, rfl, ho0, hb⟩; refine ⟨_, rfl, ?_⟩; have n0_ := Aside0.mk (Kd.S_elder' (zSa HO_5) (Kd.R_base ho0) hb); have n1_ := Aside0.mk (Kd.R_elder' (zRa HO_6) (Kd.R_base ho0) hb); have n2_ := Aside0.mk (Kd.R_lower (Kd.R_new' ho0 (Kd.R_lt (zRa HO_6))) (below_size zb)); have n3_ := (zs HB hb); clear HO_5; clear HO_6; clear HB; have HO_5 := n0_; have HO_6 := n1_; have HO564 := n2_; have HB := n3_; clear n0_ n1_ n2_ n3_; (try clear hb); (try clear hk); (try clear hi); (try clear ho0); obtain ⟨Ao25, co25, eo25⟩ := Kd.R_slice HO564.out; subst eo25) | ((with_reducible refine gate_builtin (b := .append) (xs := #[.tmp 32, .tmp 36]) rfl ?_); (try (refine gate_guard (by rfl) ?_; dsimp only)); at_builtin; refine Kd.S_append k38 (w0 := w) w.heap.size rfl (.tmp 32) (.tmp 36) 22 38 (.agg #[(.slice none 0 0), (.bool false)]) 32 rfl Tryd.underlying22 info38 rfl (by decide) (by omega) u5 x5_1 (⟨t562, t565⟩ : S38) [.slice Ao25 t562.length co25, .bool t565] (fun k_ => some k_ ≠ (.slice Ao22 x6_1.length co22 : Value).ownBlock) (fun k_ => some k_ = (.slice Ao25 t562.length co25 : Value).ownBlock) rfl rfl ?aP (fun k_ hk_ => ((Kd.R_mono (ok' := fun k_ => ((fun k_ => some k_ ≠ (.slice Ao22 x6_1.length co22 : Value).ownBlock)) k_ ∧ some k_ ≠ (u5 : Value).ownBlock) (Kd.R_apart' (HO564.out) (Kd.S_typed HO_5.out) (by decide)) (fun k_ hk => ⟨hk.1.2, hk.2⟩))).1 k_ hk_.symm) ?aF ?aO ?aB ?aS ?aL ?_; (case aP => exact k38_mkM _ _ _ (⟨t562, t565⟩ : S38) (Kd.R_mono (Kd.R_tight rfl (Kd.R_mono (ok' := fun k_ => ((fun k_ => some k_ ≠ (.slice Ao22 x6_1.length co22 : Value).ownBlock)) k_ ∧ some k_ ≠ (u5 : Value).ownBlock) (Kd.R_apart' (HO564.out) (Kd.S_typed HO_5.out) (by decide)) (fun k_ hk => ⟨hk.1.2, hk.2⟩))) (fun _ h_ => h_))); (case aB => exact zb); (case aF => exact (fun k_ hk => Kd.fresh' (Kd.R_lt (zRa HO_6)) k_ hk)); (case aO => exact (by (with_reducible repeat (first | apply Kd.S_alloc | apply Kd.S_drewN | apply Kd.S_drew)); exact Kd.S_mono HO_5.out (fun k_ hk => ⟨hk.1, fun e_ => hk.2 e_⟩))); (case aS => exact (below_size zb)); (case aL => have := LMc16.out; omega); intro v567 w24 ho hb hg hat; rw [← Ny566.out] at ho; have n0_ := Aside0.mk (Kd.R_over' (zRa HO_6) (Kd.S_typed (zSa HO_5)) (by decide) hg); have n1_ := Aside0.mk (hb); have n2_ := Aside0.mk (ho); clear HO_6; clear HB; clear HO_5; clear HO564; have HO_6 := n0_; have HB := n1_; have HO568 := n2_; clear n0_ n1_ n2_; clear ho hb hg hat) | ((with_reducible refine gate_dst (N := 38) rfl ?_); (try (refine gate_guard (by rfl) ?_; dsimp only)); refine Kd.R_lit k60 _ 60 ?hg (N := 38) ?hd (xs := ([] : List (S60))) (inner := []) (ok := fun _ => True) (okp := fun _ => True) ?hr ?hp (fun _ hk => hk) trivial (Below.refl _ _) (Nat.le_refl _) (by simp) ?_; (case hd => rfl); (case hg => rfl); (case hr => exact zo); (case hp => exact (Reps.none _ _)); intro v570 w26 ho27 hb hg_ hnew_; clear hg_ hnew_; (first | rw [← Ny569.out] at ho27 | (simp only [Int.reduceToNat] at ho27; rw [← Ny569.out] at ho27)); have n0_ := Aside0.mk (Kd.R_elder' (zRa HO_6) (Kd.R_base ho27) hb); have n1_ := Aside0.mk (Kd.S_elder' (zSa HO568) (Kd.R_base ho27) hb); have n2_ := Aside0.mk (Kd.R_lower (Kd.R_new' ho27 (Kd.R_lt (zRa HO_6))) (below_size zb)); have n3_ := (zs HB hb); clear HO_6; clear HO568; clear HB; have HO_6 := n0_; have HO568 := n1_; have HO571 := n2_; have HB := n3_; clear n0_ n1_ n2_ n3_; clear hb ho27; have q28 : ((wrap64 (x7_1 + x8_8)) : Int) ≤ ((l0.length : Int) : Int) := of_decide_eq_true za; obtain ⟨i028, hi028, _, hsz28, _⟩ := info_parts info60; have hroom28 : l0.length ≤ c0 := HC0.out; have hC28 : Kd.C k60 _ (some ad561) l0.length l0 := HR0.out; have ql28 : (x7_1 : Int) ≤ ((wrap64 (x7_1 + x8_8)) : Int) := of_decide_eq_true za; have q028 : (0 : Int) ≤ (x7_1 : Int) := of_decide_eq_true za; have hcut28 := cut_mid (P := Tryd.prog) 36 60 .i64 .i64 Tryd.underlying36 hi028 5 hsz28 (some ad561) l0.length c0 x7_1 (wrap64 (x7_1 + x8_8)) q028 ql28 q28 hroom28; have hr28 := Kd.C_mid (lo := (x7_1 : Int).toNat) (hi := ((wrap64 (x7_1 + x8_8)) : Int).toNat) (c := c0) hC28 (by omega) (by omega) hroom28; obtain ⟨A28, hA28⟩ : ∃ A1, A1 = (if c0 = (x7_1 : Int).toNat then (some ad561) else ((some ad561) : Option Addr).map (·.add ((x7_1 : Int).toNat * 5))) := ⟨_, rfl⟩; obtain ⟨c28, hc28⟩ : ∃ c1, c1 = c0 - (x7_1 : Int).toNat := ⟨_, rfl⟩; have hy28 : y572.length = ((wrap64 (x7_1 + x8_8)) : Int).toNat - (x7_1 : Int).toNat := (by rw [Ny572.out, List.length_drop, List.length_take] <;> omega); rw [show ((l0).take ((wrap64 (x7_1 + x8_8)) : Int).toNat).drop (x7_1 : Int).toNat = y572 from Ny572.out.symm] at hr28; replace hr28 : Kd.C k60 _ A28 y572.length y572 := (by rw [hA28]; exact hr28); rw [← hy28, ← hA28, ← hc28] at hcut28; have HR575 := Aside0.mk hr28; have HC575 := Aside0.mk (show y572.length ≤ c28 from by rw [hy28, hc28]; exact Nat.sub_le_sub_right (Nat.le_trans (by omega) hroom28) _); clear hr28 hC28 hroom28 hi028 hsz28 hc28; have KY28 := Aside0.mk hy28; have KA28 := Aside0.mk hA28; clear hy28 hA28; replace q28 := eq_true q28) | ((with_reducible refine gate_builtin (b := .append) (xs := #[.tmp 42, .tmp 48]) rfl ?_); (try (refine gate_guard (by rfl) ?_; dsimp only)); at_builtin; refine Kd.R_append_rows k60 (w0 := w) w.heap.size rfl (.tmp 42) (.tmp 48) 36 60 (.agg #[(.string ⟨#[]⟩), (.int .i64 0), (.int .i64 0), (.int .i64 0), (.int .i64 0)]) 48 rfl Tryd.underlying36 info60 rfl (by decide) (by omega) v570 y569 y572 _ _ _ (fun k_ => some k_ ≠ (.slice Ao22 x6_1.length co22 : Value).ownBlock) (fun _ => False) rfl rfl ?aO ?aR (fun _ _ h => h) (fun _ h => h.elim) ?aF ?aB ?aS ?aL ?_; (case aR => repeat (first | exact (Kd.C_below HR575.out HB.out) | (with_reducible refine Kd.C_alloc ?_ _) | (with_reducible refine Kd.C_drewN ?_ _) | (with_reducible refine Kd.C_drew ?_))); (case aB => exact zb); (case aF => exact (fun k_ hk => Kd.fresh' (Kd.R_lt (zRa HO_6)) k_ hk)); (case aO => exact (by (with_reducible repeat (first | apply Kd.R_alloc | apply Kd.R_drewN | apply Kd.R_drew)); exact Kd.R_mono HO571.out (fun _ hk => hk.2))); (case aS => exact (below_size zb)); (case aL => have := LMc21.out; omega); intro v577 w29 ho hb hg hat; rw [← Ny576.out] at ho; have n0_ := Aside0.mk (Kd.R_after (ok := (fun _ => True)) (by (with_reducible repeat (first | apply Kd.R_alloc | apply Kd.R_drewN | apply Kd.R_drew)); exact Kd.R_mono HO_6.out (fun _ hk => ⟨trivial, hk.2⟩)) hg hat); have n1_ := Aside0.mk (Kd.S_after (ok := (fun k_ => some k_ ≠ (.slice Ao22 x6_1.length co22 : Value).ownBlock)) (zSa HO568) hg hat); have n2_ := Aside0.mk (hb); have n3_ := Aside0.mk (ho); clear HO_6; clear HO568; clear HB; clear HO571; have HO_6 := n0_; have HO568 := n1_; have HB := n2_; have HO578 := n3_; clear n0_ n1_ n2_ n3_; clear ho hb hg hat))
                go_roundg kj10
                case measure => have := HK1.out; have := HJ8.out; have := HJ10.out; omega
                case rel => exact ⟨(y566), (y576), (wrap64 (x7_1 + x8_8)), zf, H', ⟨by have := HK1.out; have := HJ8.out; have := HJ10.out; omega⟩, ⟨by (with_reducible repeat (first | apply Kd.S_alloc | apply Kd.S_drewN | apply Kd.S_drew)); exact Kd.S_mono HO568.out (fun _ hk => hk.2)⟩, ⟨by (with_reducible repeat (first | apply Kd.R_alloc | apply Kd.R_drewN | apply Kd.R_drew)); exact Kd.R_mono HO578.out (fun _ hk => trivial)⟩, ⟨zb⟩⟩
               ·rw [if_neg c21] at H
                exact absurd H (by simp)
              ·rw [if_neg c20] at H
               exact absurd H (by simp)
             ·rw [if_neg c19] at H
              exact absurd H (by simp)
            ·rw [if_neg c18] at H
             exact absurd H (by simp)
           ·rw [if_neg c17] at H
            have c17b0 : decide (x8_8 ≤ a1) = false := decide_eq_false c17
            clear c17
            have H' := Aside0.mk H
            clear H
            obtain ⟨Ao30, co30, eo30⟩ := Kd.R_slice HO_6.out
            subst eo30
            go_wp2_with (first | ((with_reducible refine gate_callee (f := 55) rfl ?_); refine goesL_ (some 35) rfl rfl Tryd.func55 (by kernel_rfl) rfl #[.slice Ao30 x6_1.length co30, .int .i64 a1, .bool true] rfl zl ?_; (with_reducible refine (backseatref08_Line.calls kj10 _ _ x6_1 a1 true t562 t565 _ ?side1 ?side2 A15.out).mono ?_); (case side1 => repeat (first | exact (Kd.R_reads' HO_6.out).2.2 | (with_reducible refine Kd.C_alloc ?_ _) | (with_reducible refine Kd.C_drewN ?_ _) | (with_reducible refine Kd.C_drew ?_))); (case side2 => exact (Kd.R_reads' HO_6.out).2.1); rintro e w31 ⟨v563, rfl, ho0, hb⟩; refine ⟨_, rfl, ?_⟩; have n0_ := Aside0.mk (Kd.S_elder' (zSa HO_5) (Kd.R_base ho0) hb); have n1_ := Aside0.mk (Kd.R_elder' (zRa HO_6) (Kd.R_base ho0) hb); have n2_ := Aside0.mk (Kd.R_lower (Kd.R_new' ho0 (Kd.R_lt (zRa HO_6))) (below_size zb)); have n3_ := (zs HB hb); clear HO_5; clear HO_6; clear HB; have HO_5 := n0_; have HO_6 := n1_; have HO564 := n2_; have HB := n3_; clear n0_ n1_ n2_ n3_; (try clear hb); (try clear hk); (try clear ho0); obtain ⟨Ao33, co33, eo33⟩ := Kd.R_slice HO564.out; subst eo33) | ((with_reducible refine gate_builtin (b := .append) (xs := #[.tmp 32, .tmp 36]) rfl ?_); (try (refine gate_guard (by rfl) ?_; dsimp only)); at_builtin; refine Kd.S_append k38 (w0 := w) w.heap.size rfl (.tmp 32) (.tmp 36) 22 38 (.agg #[(.slice none 0 0), (.bool false)]) 32 rfl Tryd.underlying22 info38 rfl (by decide) (by omega) u5 x5_1 (⟨t562, t565⟩ : S38) [.slice Ao33 t562.length co33, .bool t565] (fun k_ => some k_ ≠ (.slice Ao30 x6_1.length co30 : Value).ownBlock) (fun k_ => some k_ = (.slice Ao33 t562.length co33 : Value).ownBlock) rfl rfl ?aP (fun k_ hk_ => ((Kd.R_mono (ok' := fun k_ => ((fun k_ => some k_ ≠ (.slice Ao30 x6_1.length co30 : Value).ownBlock)) k_ ∧ some k_ ≠ (u5 : Value).ownBlock) (Kd.R_apart' (HO564.out) (Kd.S_typed HO_5.out) (by decide)) (fun k_ hk => ⟨hk.1.2, hk.2⟩))).1 k_ hk_.symm) ?aF ?aO ?aB ?aS ?aL ?_; (case aP => exact k38_mkM _ _ _ (⟨t562, t565⟩ : S38) (Kd.R_mono (Kd.R_tight rfl (Kd.R_mono (ok' := fun k_ => ((fun k_ => some k_ ≠ (.slice Ao30 x6_1.length co30 : Value).ownBlock)) k_ ∧ some k_ ≠ (u5 : Value).ownBlock) (Kd.R_apart' (HO564.out) (Kd.S_typed HO_5.out) (by decide)) (fun k_ hk => ⟨hk.1.2, hk.2⟩))) (fun _ h_ => h_))); (case aB => exact zb); (case aF => exact (fun k_ hk => Kd.fresh' (Kd.R_lt (zRa HO_6)) k_ hk)); (case aO => exact (by (with_reducible repeat (first | apply Kd.S_alloc | apply Kd.S_drewN | apply Kd.S_drew)); exact Kd.S_mono HO_5.out (fun k_ hk => ⟨hk.1, fun e_ => hk.2 e_⟩))); (case aS => exact (below_size zb)); (case aL => have := LMc16.out; omega); intro v567 w32 ho hb hg hat; rw [← Ny566.out] at ho; have n0_ := Aside0.mk (Kd.R_over' (zRa HO_6) (Kd.S_typed (zSa HO_5)) (by decide) hg); have n1_ := Aside0.mk (hb); have n2_ := Aside0.mk (ho); clear HO_6; clear HB; clear HO_5; clear HO564; have HO_6 := n0_; have HB := n1_; have HO568 := n2_; clear n0_ n1_ n2_; clear ho hb hg hat) | ((with_reducible refine gate_dst (N := 38) rfl ?_); (try (refine gate_guard (by rfl) ?_; dsimp only)); refine Kd.R_lit k60 _ 60 ?hg (N := 38) ?hd (xs := ([] : List (S60))) (inner := []) (ok := fun _ => True) (okp := fun _ => True) ?hr ?hp (fun _ hk => hk) trivial (Below.refl _ _) (Nat.le_refl _) (by simp) ?_; (case hd => rfl); (case hg => rfl); (case hr => exact zo); (case hp => exact (Reps.none _ _)); intro v570 w34 ho35 hb hg_ hnew_; clear hg_ hnew_; (first | rw [← Ny569.out] at ho35 | (simp only [Int.reduceToNat] at ho35; rw [← Ny569.out] at ho35)); have n0_ := Aside0.mk (Kd.R_elder' (zRa HO_6) (Kd.R_base ho35) hb); have n1_ := Aside0.mk (Kd.S_elder' (zSa HO568) (Kd.R_base ho35) hb); have n2_ := Aside0.mk (Kd.R_lower (Kd.R_new' ho35 (Kd.R_lt (zRa HO_6))) (below_size zb)); have n3_ := (zs HB hb); clear HO_6; clear HO568; clear HB; have HO_6 := n0_; have HO568 := n1_; have HO571 := n2_; have HB := n3_; clear n0_ n1_ n2_ n3_; clear hb ho35))
            go_roundg kj10
            case measure => have := HK1.out; have := HJ8.out; have := HJ10.out; omega
            case rel => exact ⟨(y566), (y569), (wrap64 (x7_1 + x8_8)), zf, H', ⟨by have := HK1.out; have := HJ8.out; have := HJ10.out; omega⟩, ⟨by (with_reducible repeat (first | apply Kd.S_alloc | apply Kd.S_drewN | apply Kd.S_drew)); exact Kd.S_mono HO568.out (fun _ hk => hk.2)⟩, ⟨by (with_reducible repeat (first | apply Kd.R_alloc | apply Kd.R_drewN | apply Kd.R_drew)); exact Kd.R_mono HO571.out (fun _ hk => trivial)⟩, ⟨zb⟩⟩
          ·rw [if_neg c16] at H
           exact absurd H (by simp)
         ·replace c14 := Bool.eq_false_iff.mpr c14
          subst c14
          have H1 : (if x8_8 ≤ a1 then (if 0 ≤ x7_1 then (if x7_1 ≤ (wrap64 (x7_1 + x8_8)) then (if (wrap64 (x7_1 + x8_8)) ≤ (l0.length : Int) then ((some ((l0.take ((wrap64 (x7_1 + x8_8)) : Int).toNat).drop (x7_1 : Int).toNat : List (S60))).bind fun y579 => (if x6_1.length + y579.length < 2932031007402 then (backseatref08_Fold.l0 kj10 l0 a1 x5_1 (x6_1 ++ y579) (wrap64 (x7_1 + x8_8))) else (none))) else (none)) else (none)) else (none)) else (backseatref08_Fold.l0 kj10 l0 a1 x5_1 x6_1 (wrap64 (x7_1 + x8_8)))) = some r := by rw [if_neg (show ¬ (false = true) by decide)] at H; exact H
          clear H
          have H := H1
          clear H1
          by_cases c36 : x8_8 ≤ a1
          ·rw [if_pos c36] at H
           have c36b0 : decide (x8_8 ≤ a1) = true := decide_eq_true c36
           clear c36
           by_cases c37 : 0 ≤ x7_1
           ·rw [if_pos c37] at H
            have c37b0 := eq_true c37
            have c37b1 : decide (0 ≤ x7_1) = true := decide_eq_true c37
            clear c37
            by_cases c38 : x7_1 ≤ (wrap64 (x7_1 + x8_8))
            ·rw [if_pos c38] at H
             have c38b0 := eq_true c38
             have c38b1 : decide (x7_1 ≤ (wrap64 (x7_1 + x8_8))) = true := decide_eq_true c38
             by_cases c39 : (wrap64 (x7_1 + x8_8)) ≤ (l0.length : Int)
             ·rw [if_pos c39] at H
              have c39b0 := eq_true c39
              have c39b1 : decide ((wrap64 (x7_1 + x8_8)) ≤ (l0.length : Int)) = true := decide_eq_true c39
              obtain ⟨y579, hy579⟩ : ∃ y_ : List (S60), y_ = ((l0.take ((wrap64 (x7_1 + x8_8)) : Int).toNat).drop (x7_1 : Int).toNat) := ⟨_, rfl⟩
              replace H : (if x6_1.length + y579.length < 2932031007402 then (backseatref08_Fold.l0 kj10 l0 a1 x5_1 (x6_1 ++ y579) (wrap64 (x7_1 + x8_8))) else (none)) = some r := by first | (rw [hy579]; with_reducible exact H) | (have H2_ := (Option.bind_some _ _).symm.trans H; rw [hy579]; with_reducible exact H2_) | (have H2_ := (Option.bind_some _ _).symm.trans H; with_reducible exact H2_) | with_reducible exact H | (rw [hy579]; exact H) | exact H
              have Ny579 := Aside0.mk hy579
              clear hy579
              by_cases c40 : x6_1.length + y579.length < 2932031007402
              ·rw [if_pos c40] at H
               have LMc40 := Aside0.mk c40
               clear c40
               obtain ⟨y583, hy583⟩ : ∃ y_ : List (S60), y_ = (x6_1 ++ y579) := ⟨_, rfl⟩
               replace H : (backseatref08_Fold.l0 kj10 l0 a1 x5_1 y583 (wrap64 (x7_1 + x8_8))) = some r := by first | (rw [hy583]; with_reducible exact H) | (have H2_ := (Option.bind_some _ _).symm.trans H; rw [hy583]; with_reducible exact H2_) | (have H2_ := (Option.bind_some _ _).symm.trans H; with_reducible exact H2_) | with_reducible exact H | (rw [hy583]; exact H) | exact H
               have Ny583 := Aside0.mk hy583
               clear hy583
               have H' := Aside0.mk H
               clear H
               have q41 : ((wrap64 (x7_1 + x8_8)) : Int) ≤ ((l0.length : Int) : Int) := of_decide_eq_true za
               obtain ⟨i041, hi041, _, hsz41, _⟩ := info_parts info60
               have hroom41 : l0.length ≤ c0 := HC0.out
               have hC41 : Kd.C k60 _ (some ad561) l0.length l0 := HR0.out
               have ql41 : (x7_1 : Int) ≤ ((wrap64 (x7_1 + x8_8)) : Int) := of_decide_eq_true za
               have q041 : (0 : Int) ≤ (x7_1 : Int) := of_decide_eq_true za
               have hcut41 := cut_mid (P := Tryd.prog) 36 60 .i64 .i64 Tryd.underlying36 hi041 5 hsz41 (some ad561) l0.length c0 x7_1 (wrap64 (x7_1 + x8_8)) q041 ql41 q41 hroom41
               have hr41 := Kd.C_mid (lo := (x7_1 : Int).toNat) (hi := ((wrap64 (x7_1 + x8_8)) : Int).toNat) (c := c0) hC41 (by omega) (by omega) hroom41
               obtain ⟨A41, hA41⟩ : ∃ A1, A1 = (if c0 = (x7_1 : Int).toNat then (some ad561) else ((some ad561) : Option Addr).map (·.add ((x7_1 : Int).toNat * 5))) := ⟨_, rfl⟩
               obtain ⟨c41, hc41⟩ : ∃ c1, c1 = c0 - (x7_1 : Int).toNat := ⟨_, rfl⟩
               have hy41 : y579.length = ((wrap64 (x7_1 + x8_8)) : Int).toNat - (x7_1 : Int).toNat := (by rw [Ny579.out, List.length_drop, List.length_take] <;> omega)
               rw [show ((l0).take ((wrap64 (x7_1 + x8_8)) : Int).toNat).drop (x7_1 : Int).toNat = y579 from Ny579.out.symm] at hr41
               replace hr41 : Kd.C k60 _ A41 y579.length y579 := (by rw [hA41]; exact hr41)
               rw [← hy41, ← hA41, ← hc41] at hcut41
               have HR582 := Aside0.mk hr41
               have HC582 := Aside0.mk (show y579.length ≤ c41 from by rw [hy41, hc41]; exact Nat.sub_le_sub_right (Nat.le_trans (by omega) hroom41) _)
               clear hr41 hC41 hroom41 hi041 hsz41 hc41
               have KY41 := Aside0.mk hy41
               have KA41 := Aside0.mk hA41
               clear hy41 hA41
               replace q41 := eq_true q41
               go_wp2_with (first | ((with_reducible refine gate_builtin (b := .append) (xs := #[.tmp 42, .tmp 48]) rfl ?_); (try (refine gate_guard (by rfl) ?_; dsimp only)); at_builtin; refine Kd.R_append_rows k60 (w0 := w) w.heap.size rfl (.tmp 42) (.tmp 48) 36 60 (.agg #[(.string ⟨#[]⟩), (.int .i64 0), (.int .i64 0), (.int .i64 0), (.int .i64 0)]) 48 rfl Tryd.underlying36 info60 rfl (by decide) (by omega) u6 x6_1 y579 _ _ _ (fun _ => True) (fun _ => False) rfl rfl ?aO ?aR (fun _ _ h => h) (fun _ h => h.elim) ?aF ?aB ?aS ?aL ?_; (case aR => repeat (first | exact (Kd.C_below HR582.out HB.out) | (with_reducible refine Kd.C_alloc ?_ _) | (with_reducible refine Kd.C_drewN ?_ _) | (with_reducible refine Kd.C_drew ?_))); (case aB => exact zb); (case aF => exact (fun _ _ => trivial)); (case aO => exact (zRa HO_6)); (case aS => exact (below_size zb)); (case aL => have := LMc40.out; omega); intro v584 w42 ho hb hg hat; rw [← Ny583.out] at ho; have n0_ := Aside0.mk (Kd.S_after (ok := (fun _ => True)) (by (with_reducible repeat (first | apply Kd.S_alloc | apply Kd.S_drewN | apply Kd.S_drew)); exact Kd.S_mono HO_5.out (fun _ hk => ⟨trivial, hk⟩)) hg hat); have n1_ := Aside0.mk (hb); have n2_ := Aside0.mk (ho); clear HO_5; clear HB; clear HO_6; have HO_5 := n0_; have HB := n1_; have HO585 := n2_; clear n0_ n1_ n2_; clear ho hb hg hat))
               go_roundg kj10
               case measure => have := HK1.out; have := HJ8.out; have := HJ10.out; omega
               case rel => exact ⟨(x5_1), (y583), (wrap64 (x7_1 + x8_8)), zf, H', ⟨by have := HK1.out; have := HJ8.out; have := HJ10.out; omega⟩, ⟨by (with_reducible repeat (first | apply Kd.S_alloc | apply Kd.S_drewN | apply Kd.S_drew)); exact Kd.S_mono HO_5.out (fun _ hk => hk.2)⟩, ⟨by (with_reducible repeat (first | apply Kd.R_alloc | apply Kd.R_drewN | apply Kd.R_drew)); exact HO585.out⟩, ⟨zb⟩⟩
              ·rw [if_neg c40] at H
               exact absurd H (by simp)
             ·rw [if_neg c39] at H
              exact absurd H (by simp)
            ·rw [if_neg c38] at H
             exact absurd H (by simp)
           ·rw [if_neg c37] at H
            exact absurd H (by simp)
          ·rw [if_neg c36] at H
           have c36b0 : decide (x8_8 ≤ a1) = false := decide_eq_false c36
           clear c36
           have H' := Aside0.mk H
           clear H
           go_wp2
           go_roundg kj10
           case measure => have := HK1.out; have := HJ8.out; have := HJ10.out; omega
           case rel => exact ⟨(x5_1), (x6_1), (wrap64 (x7_1 + x8_8)), zf, H', ⟨by have := HK1.out; have := HJ8.out; have := HJ10.out; omega⟩, ⟨by (with_reducible repeat (first | apply Kd.S_alloc | apply Kd.S_drewN | apply Kd.S_drew)); exact HO_5.out⟩, ⟨by (with_reducible repeat (first | apply Kd.R_alloc | apply Kd.R_drewN | apply Kd.R_drew)); exact HO_6.out⟩, ⟨zb⟩⟩
    ·rw [if_neg c8] at H
     exact absurd H (by simp)
   ·rw [if_neg c7] at H
    have c7b0 : decide (x7_1 < (l0.length : Int)) = false := decide_eq_false c7
    clear c7
    replace H := Option.bind_eq_some_iff.mp H
    obtain ⟨⟨t554, t557⟩, A430, H⟩ := H
    replace H : (if x5_1.length < 4398046511104 then (some (x5_1 ++ [(⟨t554, t557⟩ : S38)])) else (none)) = some r := H
    have A43 := Aside0.mk A430
    clear A430
    by_cases c44 : x5_1.length < 4398046511104
    ·rw [if_pos c44] at H
     have LMc44 := Aside0.mk c44
     clear c44
     obtain ⟨y558, hy558⟩ : ∃ y_ : List (S38), y_ = (x5_1 ++ [(⟨t554, t557⟩ : S38)]) := ⟨_, rfl⟩
     replace H : (some y558) = some r := by first | (rw [hy558]; with_reducible exact H) | (have H2_ := (Option.bind_some _ _).symm.trans H; rw [hy558]; with_reducible exact H2_) | (have H2_ := (Option.bind_some _ _).symm.trans H; with_reducible exact H2_) | with_reducible exact H | (rw [hy558]; exact H) | exact H
     have Ny558 := Aside0.mk hy558
     clear hy558
     obtain rfl := Option.some.inj H
     obtain ⟨Ao45, co45, eo45⟩ := Kd.R_slice HO_6.out
     subst eo45
     go_wp2_with (first | ((with_reducible refine gate_callee (f := 55) rfl ?_); refine goesL_ (some 56) rfl rfl Tryd.func55 (by kernel_rfl) rfl #[.slice Ao45 x6_1.length co45, .int .i64 a1, .bool false] rfl zl ?_; (with_reducible refine (backseatref08_Line.calls k1 _ _ x6_1 a1 false t554 t557 _ ?side1 ?side2 A43.out).mono ?_); (case side1 => repeat (first | exact (Kd.R_reads' HO_6.out).2.2 | (with_reducible refine Kd.C_alloc ?_ _) | (with_reducible refine Kd.C_drewN ?_ _) | (with_reducible refine Kd.C_drew ?_))); (case side2 => exact (Kd.R_reads' HO_6.out).2.1); rintro e w46 ⟨v555, rfl, ho0, hb⟩; refine ⟨_, rfl, ?_⟩; have n0_ := Aside0.mk (Kd.S_elder' (zSa HO_5) (Kd.R_base ho0) hb); have n1_ := Aside0.mk (Kd.R_elder' (zRa HO_6) (Kd.R_base ho0) hb); have n2_ := Aside0.mk (Kd.R_lower (Kd.R_new' ho0 (Kd.R_lt (zRa HO_6))) (below_size zb)); have n3_ := (zs HB hb); clear HO_5; clear HO_6; clear HB; have HO_5 := n0_; have HO_6 := n1_; have HO556 := n2_; have HB := n3_; clear n0_ n1_ n2_ n3_; (try clear hb); (try clear hk); (try clear ho0); obtain ⟨Ao48, co48, eo48⟩ := Kd.R_slice HO556.out; subst eo48) | ((with_reducible refine gate_builtin (b := .append) (xs := #[.tmp 53, .tmp 57]) rfl ?_); (try (refine gate_guard (by rfl) ?_; dsimp only)); at_builtin; refine Kd.S_append k38 (w0 := w) w.heap.size rfl (.tmp 53) (.tmp 57) 22 38 (.agg #[(.slice none 0 0), (.bool false)]) 32 rfl Tryd.underlying22 info38 rfl (by decide) (by omega) u5 x5_1 (⟨t554, t557⟩ : S38) [.slice Ao48 t554.length co48, .bool t557] (fun k_ => some k_ ≠ (.slice Ao45 x6_1.length co45 : Value).ownBlock) (fun k_ => some k_ = (.slice Ao48 t554.length co48 : Value).ownBlock) rfl rfl ?aP (fun k_ hk_ => ((Kd.R_mono (ok' := fun k_ => ((fun k_ => some k_ ≠ (.slice Ao45 x6_1.length co45 : Value).ownBlock)) k_ ∧ some k_ ≠ (u5 : Value).ownBlock) (Kd.R_apart' (HO556.out) (Kd.S_typed HO_5.out) (by decide)) (fun k_ hk => ⟨hk.1.2, hk.2⟩))).1 k_ hk_.symm) ?aF ?aO ?aB ?aS ?aL ?_; (case aP => exact k38_mkM _ _ _ (⟨t554, t557⟩ : S38) (Kd.R_mono (Kd.R_tight rfl (Kd.R_mono (ok' := fun k_ => ((fun k_ => some k_ ≠ (.slice Ao45 x6_1.length co45 : Value).ownBlock)) k_ ∧ some k_ ≠ (u5 : Value).ownBlock) (Kd.R_apart' (HO556.out) (Kd.S_typed HO_5.out) (by decide)) (fun k_ hk => ⟨hk.1.2, hk.2⟩))) (fun _ h_ => h_))); (case aB => exact zb); (case aF => exact (fun k_ hk => Kd.fresh' (Kd.R_lt (zRa HO_6)) k_ hk)); (case aO => exact (by (with_reducible repeat (first | apply Kd.S_alloc | apply Kd.S_drewN | apply Kd.S_drew)); exact Kd.S_mono HO_5.out (fun k_ hk => ⟨hk.1, fun e_ => hk.2 e_⟩))); (case aS => exact (below_size zb)); (case aL => have := LMc44.out; omega); intro v559 w47 ho hb hg hat; rw [← Ny558.out] at ho; have n0_ := Aside0.mk (Kd.R_over' (zRa HO_6) (Kd.S_typed (zSa HO_5)) (by decide) hg); have n1_ := Aside0.mk (hb); have n2_ := Aside0.mk (ho); clear HO_6; clear HB; clear HO_5; clear HO556; have HO_6 := n0_; have HB := n1_; have HO560 := n2_; clear n0_ n1_ n2_; clear ho hb hg hat))
     go_ret
     exact ⟨_, ze, by (with_reducible repeat (first | apply Kd.S_alloc | apply Kd.S_drewN | apply Kd.S_drew)); exact Kd.S_mono HO560.out (fun _ hk => trivial), zb⟩
    ·rw [if_neg c44] at H
     exact absurd H (by simp)
def backseatref08_Blank.f (a0_0 : ByteArray) (a0_1 : Int) (a0_2 : Int) (a0_3 : Int) (a0_4 : Int) : Option (Bool) := if a0_0.toList = ([] : List UInt8) then (if a0_1 = 1 then (if a0_2 = 0 then (if a0_3 = 0 then (some (a0_4 == 0)) else (some false)) else (some false)) else (some false)) else (some false)
set_option maxHeartbeats 8000000 in
set_option maxRecDepth 100000 in
theorem backseatref08_Blank.calls (a0_0 : ByteArray) (a0_1 : Int) (a0_2 : Int) (a0_3 : Int) (a0_4 : Int) (r : Bool) (w : World) (h : backseatref08_Blank.f a0_0 a0_1 a0_2 a0_3 a0_4 = some r) :
  Calls Tryd.prog 49 #[.agg #[.string a0_0, .int .i64 a0_1, .int .i64 a0_2, .int .i64 a0_3, .int .i64 a0_4]] w fun e w' => e = .returned (.bool r) ∧ Below w.heap.size w w' := by
 have hu60 := Tryd.underlying60
 have HB := Aside0.mk (Below.refl w.heap.size w)
 have H : (if a0_0.toList = ([] : List UInt8) then (if a0_1 = 1 then (if a0_2 = 0 then (if a0_3 = 0 then (some (a0_4 == 0)) else (some false)) else (some false)) else (some false)) else (some false)) = some r := h
 clear h
 by_cases c2 : a0_0.toList = ([] : List UInt8)
 ·rw [if_pos c2] at H
  have c2b0 : (a0_0.toList == ([] : List UInt8)) = true := beq_iff_eq.mpr c2
  have c2b1 : (a0_0.toList != ([] : List UInt8)) = false := bne_eq_false_iff_eq.mpr c2
  clear c2
  by_cases c3 : a0_1 = 1
  ·rw [if_pos c3] at H
   have c3b0 : (a0_1 == 1) = true := beq_iff_eq.mpr c3
   have c3b1 : (a0_1 != 1) = false := bne_eq_false_iff_eq.mpr c3
   clear c3
   by_cases c4 : a0_2 = 0
   ·rw [if_pos c4] at H
    have c4b0 : (a0_2 == 0) = true := beq_iff_eq.mpr c4
    have c4b1 : (a0_2 != 0) = false := bne_eq_false_iff_eq.mpr c4
    clear c4
    by_cases c5 : a0_3 = 0
    ·rw [if_pos c5] at H
     have c5b0 : (a0_3 == 0) = true := beq_iff_eq.mpr c5
     have c5b1 : (a0_3 != 0) = false := bne_eq_false_iff_eq.mpr c5
     clear c5
     obtain rfl := Option.some.inj H
     go_enter Tryd.func49, Tryd.ntmps49
     go_wp2_with (first | ((with_reducible refine gate_dst (N := 1) rfl ?_); refine box_event ?hg (N := 1) ?hd (cs := #[.string a0_0, .int .i64 a0_1, .int .i64 a0_2, .int .i64 a0_3, .int .i64 a0_4]) (t := 60) ?hr ?_; (case hd => rfl); (case hg => rfl); (case hr => exact zo); intro gb463 hg w6 hbox hb; have BK463 := Aside0.mk (hbox); have GW463 := Aside0.mk ((zg hg : w.heap.size ≤ gb463)); have GE463 := Aside0.mk ((zg hg : w.heap.size ≤ gb463)); replace HB := (zs HB hb); clear hb hbox hg; obtain ⟨hcz7_0, hcz7_1, hcz7_2, hcz7_3, hcz7_4, hfz7_0, hfz7_1, hfz7_2, hfz7_3, hfz7_4⟩ := zq5 (w := w6) BK463))
     go_ret
     exact ⟨ze, zb⟩
    ·rw [if_neg c5] at H
     have c5b0 : (a0_3 == 0) = false := beq_eq_false_iff_ne.mpr c5
     have c5b1 : (a0_3 != 0) = true := bne_iff_ne.mpr c5
     obtain rfl := Option.some.inj H
     go_enter Tryd.func49, Tryd.ntmps49
     go_wp2_with (first | ((with_reducible refine gate_dst (N := 1) rfl ?_); refine box_event ?hg (N := 1) ?hd (cs := #[.string a0_0, .int .i64 a0_1, .int .i64 a0_2, .int .i64 a0_3, .int .i64 a0_4]) (t := 60) ?hr ?_; (case hd => rfl); (case hg => rfl); (case hr => exact zo); intro gb463 hg w8 hbox hb; have BK463 := Aside0.mk (hbox); have GW463 := Aside0.mk ((zg hg : w.heap.size ≤ gb463)); have GE463 := Aside0.mk ((zg hg : w.heap.size ≤ gb463)); replace HB := (zs HB hb); clear hb hbox hg; obtain ⟨hcz9_0, hcz9_1, hcz9_2, hcz9_3, hcz9_4, hfz9_0, hfz9_1, hfz9_2, hfz9_3, hfz9_4⟩ := zq5 (w := w8) BK463))
     go_ret
     exact ⟨ze, zb⟩
   ·rw [if_neg c4] at H
    have c4b0 : (a0_2 == 0) = false := beq_eq_false_iff_ne.mpr c4
    have c4b1 : (a0_2 != 0) = true := bne_iff_ne.mpr c4
    obtain rfl := Option.some.inj H
    go_enter Tryd.func49, Tryd.ntmps49
    go_wp2_with (first | ((with_reducible refine gate_dst (N := 1) rfl ?_); refine box_event ?hg (N := 1) ?hd (cs := #[.string a0_0, .int .i64 a0_1, .int .i64 a0_2, .int .i64 a0_3, .int .i64 a0_4]) (t := 60) ?hr ?_; (case hd => rfl); (case hg => rfl); (case hr => exact zo); intro gb463 hg w10 hbox hb; have BK463 := Aside0.mk (hbox); have GW463 := Aside0.mk ((zg hg : w.heap.size ≤ gb463)); have GE463 := Aside0.mk ((zg hg : w.heap.size ≤ gb463)); replace HB := (zs HB hb); clear hb hbox hg; obtain ⟨hcz11_0, hcz11_1, hcz11_2, hcz11_3, hcz11_4, hfz11_0, hfz11_1, hfz11_2, hfz11_3, hfz11_4⟩ := zq5 (w := w10) BK463))
    go_ret
    exact ⟨ze, zb⟩
  ·rw [if_neg c3] at H
   have c3b0 : (a0_1 == 1) = false := beq_eq_false_iff_ne.mpr c3
   have c3b1 : (a0_1 != 1) = true := bne_iff_ne.mpr c3
   obtain rfl := Option.some.inj H
   go_enter Tryd.func49, Tryd.ntmps49
   go_wp2_with (first | ((with_reducible refine gate_dst (N := 1) rfl ?_); refine box_event ?hg (N := 1) ?hd (cs := #[.string a0_0, .int .i64 a0_1, .int .i64 a0_2, .int .i64 a0_3, .int .i64 a0_4]) (t := 60) ?hr ?_; (case hd => rfl); (case hg => rfl); (case hr => exact zo); intro gb463 hg w12 hbox hb; have BK463 := Aside0.mk (hbox); have GW463 := Aside0.mk ((zg hg : w.heap.size ≤ gb463)); have GE463 := Aside0.mk ((zg hg : w.heap.size ≤ gb463)); replace HB := (zs HB hb); clear hb hbox hg; obtain ⟨hcz13_0, hcz13_1, hcz13_2, hcz13_3, hcz13_4, hfz13_0, hfz13_1, hfz13_2, hfz13_3, hfz13_4⟩ := zq5 (w := w12) BK463))
   go_ret
   exact ⟨ze, zb⟩
 ·rw [if_neg c2] at H
  have c2b0 : (a0_0.toList == ([] : List UInt8)) = false := beq_eq_false_iff_ne.mpr c2
  have c2b1 : (a0_0.toList != ([] : List UInt8)) = true := bne_iff_ne.mpr c2
  obtain rfl := Option.some.inj H
  go_enter Tryd.func49, Tryd.ntmps49
  go_wp2_with (first | ((with_reducible refine gate_dst (N := 1) rfl ?_); refine box_event ?hg (N := 1) ?hd (cs := #[.string a0_0, .int .i64 a0_1, .int .i64 a0_2, .int .i64 a0_3, .int .i64 a0_4]) (t := 60) ?hr ?_; (case hd => rfl); (case hg => rfl); (case hr => exact zo); intro gb463 hg w14 hbox hb; have BK463 := Aside0.mk (hbox); have GW463 := Aside0.mk ((zg hg : w.heap.size ≤ gb463)); have GE463 := Aside0.mk ((zg hg : w.heap.size ≤ gb463)); replace HB := (zs HB hb); clear hb hbox hg; obtain ⟨hcz15_0, hcz15_1, hcz15_2, hcz15_3, hcz15_4, hfz15_0, hfz15_1, hfz15_2, hfz15_3, hfz15_4⟩ := zq5 (w := w14) BK463))
  go_ret
  exact ⟨ze, zb⟩
mutual
def backseatref08_Join.l0 : Nat → List (S38) → List (List (S60)) → List (S60) → List (S38) → Int → Int → Option ((List (List (S60))))
 | 0, _, _, _, _, _, _ => none
 | k + 1, x0, x3, x4, x10, x11, x12 => if x12 < x11 then (if 0 ≤ x12 then (if x12 < (x10.length : Int) then (if x4.length + ((rd_T38 x10 x12).f0).length < 2932031007402 then ((some (x4 ++ ((rd_T38 x10 x12).f0) : List (S60))).bind fun y472 => (if (rd_T38 x10 x12).f1 = true then (backseatref08_Join.j1 k x0 x3 y472 x10 x11 x12 (decide ((wrap64 (x12 + 1)) < (x0.length : Int)))) else (backseatref08_Join.j1 k x0 x3 y472 x10 x11 x12 false))) else (none)) else (none)) else (none)) else (some x3)
def backseatref08_Join.j1 : Nat → List (S38) → List (List (S60)) → List (S60) → List (S38) → Int → Int → Bool → Option ((List (List (S60))))
 | 0, _, _, _, _, _, _, _ => none
 | k + 1, x0, x3, x4, x10, x11, x12, x29 => if x29 = true then (backseatref08_Join.l0 k x0 x3 x4 x10 x11 (wrap64 (x12 + 1))) else (backseatref08_Join.l1 k x0 x3 x4 (x4.length : Int) x10 x11 x12)
def backseatref08_Join.l1 : Nat → List (S38) → List (List (S60)) → List (S60) → Int → List (S38) → Int → Int → Option ((List (List (S60))))
 | 0, _, _, _, _, _, _, _ => none
 | k + 1, x0, x3, x4, x7, x10, x11, x12 => if x7 > 0 then (if 0 ≤ (wrap64 (x7 - 1)) then (if (wrap64 (x7 - 1)) < (x4.length : Int) then ((backseatref08_Blank.f ((rd_T60 x4 (wrap64 (x7 - 1))).f0) ((rd_T60 x4 (wrap64 (x7 - 1))).f1) ((rd_T60 x4 (wrap64 (x7 - 1))).f2.f0) ((rd_T60 x4 (wrap64 (x7 - 1))).f2.f1) ((rd_T60 x4 (wrap64 (x7 - 1))).f2.f2)).bind fun t476 => (if t476 = true then (backseatref08_Join.l1 k x0 x3 x4 (wrap64 (x7 - 1)) x10 x11 x12) else (if 0 ≤ x7 then (if x7 ≤ (x4.length : Int) then (if x3.length < 5864062014805 then (backseatref08_Join.l0 k x0 (x3 ++ [(x4.take (x7 : Int).toNat)]) (([] : List (S60))) x10 x11 (wrap64 (x12 + 1))) else (none)) else (none)) else (none)))) else (none)) else (none)) else (if 0 ≤ x7 then (if x7 ≤ (x4.length : Int) then (if x3.length < 5864062014805 then (backseatref08_Join.l0 k x0 (x3 ++ [(x4.take (x7 : Int).toNat)]) (([] : List (S60))) x10 x11 (wrap64 (x12 + 1))) else (none)) else (none)) else (none))
end
def backseatref08_Join.f (k : Nat) (l0 : List (S38)) : Option ((List (List (S60)))) := backseatref08_Join.l0 k l0 (([] : List (List (S60)))) (([] : List (S60))) l0 (l0.length : Int) 0
set_option maxHeartbeats 8000000 in
set_option maxRecDepth 100000 in
theorem backseatref08_Join.calls (k : Nat) (A0 : Option Addr) (c0 : Nat) (l0 : List (S38)) (r : List (List (S60))) (w : World) (hr0 : Kd.C k38 w A0 l0.length l0) (hc0 : l0.length ≤ c0) (h : backseatref08_Join.f k l0 = some r) :
  Calls Tryd.prog 21 #[.slice A0 l0.length c0] w fun e w' => ∃ v0_ : Value, e = .returned (v0_) ∧ Kd.N (Kd.slice 60 k60) 36 w' w.heap.size (fun k_ => (w.heap.size ≤ k_)) v0_ r ∧ Below w.heap.size w w' := by
 have hu38 := Tryd.underlying38
 have hu60 := Tryd.underlying60
 have HR0 := Aside0.mk hr0
 have HC0 := Aside0.mk hc0
 clear hr0 hc0
 have HB := Aside0.mk (Below.refl w.heap.size w)
 have H : (backseatref08_Join.l0 k l0 (([] : List (List (S60)))) (([] : List (S60))) l0 (l0.length : Int) 0) = some r := h
 clear h
 obtain ⟨y464, hy464⟩ : ∃ y_ : List (List (S60)), y_ = (([] : List (List (S60)))) := ⟨_, rfl⟩
 replace H : (backseatref08_Join.l0 k l0 y464 (([] : List (S60))) l0 (l0.length : Int) 0) = some r := by first | (rw [hy464]; with_reducible exact H) | (have H2_ := (Option.bind_some _ _).symm.trans H; rw [hy464]; with_reducible exact H2_) | (have H2_ := (Option.bind_some _ _).symm.trans H; with_reducible exact H2_) | with_reducible exact H | (rw [hy464]; exact H) | exact H
 have Ny464 := Aside0.mk hy464
 clear hy464
 obtain ⟨y467, hy467⟩ : ∃ y_ : List (S60), y_ = (([] : List (S60))) := ⟨_, rfl⟩
 replace H : (backseatref08_Join.l0 k l0 y464 y467 l0 (l0.length : Int) 0) = some r := by first | (rw [hy467]; with_reducible exact H) | (have H2_ := (Option.bind_some _ _).symm.trans H; rw [hy467]; with_reducible exact H2_) | (have H2_ := (Option.bind_some _ _).symm.trans H; with_reducible exact H2_) | with_reducible exact H | (rw [hy467]; exact H) | exact H
 have Ny467 := Aside0.mk hy467
 clear hy467
 have H' := Aside0.mk H
 clear H
 go_enter Tryd.func21, Tryd.ntmps21
 go_wp2_with (first | ((with_reducible refine gate_dst (N := 8) rfl ?_); (try (refine gate_guard (by rfl) ?_; dsimp only)); refine Kd.N_lit (Kd.slice 60 k60) _ 36 ?hg (N' := 8) ?hd (xs := ([] : List (List (S60)))) (inner := []) (ok := (fun k_ => (w.heap.size ≤ k_))) (okp := (fun k_ => (w.heap.size ≤ k_))) ?hr ?hp (fun _ hk => hk) ((show ∀ k_, w.heap.size ≤ k_ → (fun k_ => (w.heap.size ≤ k_)) k_ from fun k_ hk => (Nat.le_trans (below_size zb) hk)) _ (Nat.le_refl _)) (Below.refl _ _) (Nat.le_refl _) (by simp) ?_; (case hd => rfl); (case hg => rfl); (case hr => exact zo); (case hp => exact (Reps.none _ _)); intro v465 w2 ho3 hb hg_ hnew_; clear hg_ hnew_; (first | rw [← Ny464.out] at ho3 | (simp only [Int.reduceToNat] at ho3; rw [← Ny464.out] at ho3)); have HO466 := Aside0.mk (Kd.N_lower ho3 (below_size zb)); replace HB := (zs HB hb); clear hb ho3) | ((with_reducible refine gate_dst (N := 9) rfl ?_); (try (refine gate_guard (by rfl) ?_; dsimp only)); refine Kd.R_lit k60 _ 60 ?hg (N := 9) ?hd (xs := ([] : List (S60))) (inner := []) (ok := fun _ => True) (okp := fun _ => True) ?hr ?hp (fun _ hk => hk) trivial (Below.refl _ _) (Nat.le_refl _) (by simp) ?_; (case hd => rfl); (case hg => rfl); (case hr => exact zo); (case hp => exact (Reps.none _ _)); intro v468 w4 ho5 hb hg_ hnew_; clear hg_ hnew_; (first | rw [← Ny467.out] at ho5 | (simp only [Int.reduceToNat] at ho5; rw [← Ny467.out] at ho5)); replace HO466 := Aside0.mk (Kd.N_elder' (zNa HO466) (Kd.R_base ho5) hb); have HO469 := Aside0.mk (Kd.R_lower (Kd.R_newM (M := fun k_ => (w.heap.size ≤ k_)) ho5 (below_size zb) (fun k_ h_ => h_)) (below_size zb)); replace HB := (zs HB hb); clear hb ho5))
 go_loopg [3, 4, 12] k (fun kq v3 v4 v12 w' => ∃ (x3_1 : List (List (S60))) (x4_1 : List (S60)) (x12_1 : Int), v12 = .int .i64 x12_1 ∧ Aside0 (backseatref08_Join.l0 kq l0 x3_1 x4_1 l0 (l0.length : Int) x12_1 = some r) ∧ Aside0 (kq ≤ k) ∧ Aside0 (Kd.N (Kd.slice 60 k60) 36 w' w.heap.size (fun k_ => (w.heap.size ≤ k_) ∧ some k_ ≠ (v4 : Value).ownBlock) v3 x3_1) ∧ Aside0 (Kd.R k60 60 w' w.heap.size (fun k_ => (w.heap.size ≤ k_)) v4 x4_1) ∧ Aside0 (Below w.heap.size w w'))
 case atStart => exact ⟨(y464), (y467), (0), zf, H', ⟨Nat.le_refl _⟩, ⟨by (with_reducible repeat (first | apply Kd.N_alloc | apply Kd.N_drewN | apply Kd.N_drew)); exact HO466.out⟩, ⟨by (with_reducible repeat (first | apply Kd.R_alloc | apply Kd.R_drewN | apply Kd.R_drew)); exact Kd.R_mono HO469.out (fun _ hk => hk.1)⟩, ⟨zb⟩⟩
 case round =>
  clear H'
  obtain ⟨x3_1, x4_1, x12_1, rfl, HA, HK1, HO_3, HO_4, HB⟩ := hrel
  cases gk with
  | zero => exact absurd HA.out (by simp [backseatref08_Join.l0])
  | succ k1 =>
   have H := HA.out
   clear HA
   simp only [backseatref08_Join.l0] at H
   by_cases c6 : x12_1 < (l0.length : Int)
   ·rw [if_pos c6] at H
    have c6b0 : decide (x12_1 < (l0.length : Int)) = true := decide_eq_true c6
    clear c6
    by_cases c7 : 0 ≤ x12_1
    ·rw [if_pos c7] at H
     have c7b0 : decide (0 ≤ x12_1) = true := decide_eq_true c7
     clear c7
     by_cases c8 : x12_1 < (l0.length : Int)
     ·rw [if_pos c8] at H
      have c8b0 : decide (x12_1 < (l0.length : Int)) = true := decide_eq_true c8
      clear c8
      by_cases c9 : x4_1.length + ((rd_T38 l0 x12_1).f0).length < 2932031007402
      ·rw [if_pos c9] at H
       have LMc9 := Aside0.mk c9
       clear c9
       obtain ⟨y472, hy472⟩ : ∃ y_ : List (S60), y_ = (x4_1 ++ ((rd_T38 l0 x12_1).f0)) := ⟨_, rfl⟩
       replace H : (if (rd_T38 l0 x12_1).f1 = true then (backseatref08_Join.j1 k1 l0 x3_1 y472 l0 (l0.length : Int) x12_1 (decide ((wrap64 (x12_1 + 1)) < (l0.length : Int)))) else (backseatref08_Join.j1 k1 l0 x3_1 y472 l0 (l0.length : Int) x12_1 false)) = some r := by first | (rw [hy472]; with_reducible exact H) | (have H2_ := (Option.bind_some _ _).symm.trans H; rw [hy472]; with_reducible exact H2_) | (have H2_ := (Option.bind_some _ _).symm.trans H; with_reducible exact H2_) | with_reducible exact H | (rw [hy472]; exact H) | exact H
       have Ny472 := Aside0.mk hy472
       clear hy472
       have HC10 := Aside0.mk H
       clear H
       have p470 : 0 ≤ (x12_1 : Int) := of_decide_eq_true za
       have q470 : x12_1 < (l0.length : Int) := of_decide_eq_true za
       obtain ⟨ad470, A470_0, c470_0, e470, hx470_0, hx470_1, hl470_0, hi470_0⟩ := at_T38 HR0.out x12_1 p470 q470
       cases e470
       replace hx470_0 := zc HB hx470_0
       replace hx470_1 := zc HB hx470_1
       have HR470_0 := Aside0.mk hi470_0
       have HC470_0 := Aside0.mk hl470_0
       clear hi470_0 hl470_0
       replace p470 := eq_true p470
       replace q470 := eq_true q470
       go_upto_region 7 with (first | ((with_reducible refine gate_dst (N := 6) rfl ?_); (try (refine gate_guard (by rfl) ?_; dsimp only)); refine box_event ?hg (N := 6) ?hd (cs := #[.slice none 0 0, .bool false]) (t := 38) ?hr ?_; (case hd => rfl); (case hg => rfl); (case hr => exact zo); intro gb471 hg w11 hbox hb; replace HO_3 := Aside0.mk (Kd.N_below (Kd.N_elderB (zNa HO_3) gb471 (Nat.le_of_eq hg.symm)) hb); replace HO_4 := (zR HO_4 hb); have BK471 := Aside0.mk (hbox); have GW471 := Aside0.mk ((zg hg : w.heap.size ≤ gb471)); have GE471 := Aside0.mk ((zg hg : w.heap.size ≤ gb471)); replace HB := (zs HB hb); clear hb hbox hg; obtain ⟨hcz12_0, hcz12_1, hfz12_0, hfz12_1⟩ := zq2 (w := w11) BK471) | ((with_reducible refine gate_builtin (b := .append) (xs := #[.tmp 17, .tmp 19]) rfl ?_); (try (refine gate_guard (by rfl) ?_; dsimp only)); at_builtin; refine Kd.R_append_rows k60 (w0 := w) w.heap.size rfl (.tmp 17) (.tmp 19) 36 60 (.agg #[(.string ⟨#[]⟩), (.int .i64 0), (.int .i64 0), (.int .i64 0), (.int .i64 0)]) 48 rfl Tryd.underlying36 info60 rfl (by decide) (by omega) u4 x4_1 ((rd_T38 l0 x12_1).f0) _ _ _ (fun k_ => (w.heap.size ≤ k_)) (fun _ => False) rfl rfl ?aO ?aR (fun _ _ h => h) (fun _ h => h.elim) ?aF ?aB ?aS ?aL ?_; (case aR => exact Kd.C_below HR470_0.out zb); (case aB => exact zb); (case aF => exact (fun k_ hk => (Nat.le_trans (below_size zb) hk))); (case aO => exact (by (with_reducible repeat (first | apply Kd.R_alloc | apply Kd.R_drewN | apply Kd.R_drew)); exact Kd.R_mono (Kd.R_far (p := ⟨gb471, 1, none⟩) (Kd.R_far (p := ⟨gb471, 0, none⟩) (Kd.R_types HO_4.out BK471.out (by decide)) (fun _ hk => hk.2) (.slice A470_0 ((rd_T38 l0 x12_1).f0).length c470_0)) (fun _ hk => hk.2) (.bool ((rd_T38 l0 x12_1).f1))) (fun _ hk => hk.1))); (case aS => exact (below_size zb)); (case aL => have := LMc9.out; omega); intro v473 w13 ho hb hg hat; rw [← Ny472.out] at ho; have n0_ := Aside0.mk (Kd.N_afterv (ok := (fun k_ => (w.heap.size ≤ k_) ∧ k_ ≠ gb471)) (by (with_reducible repeat (first | apply Kd.N_alloc | apply Kd.N_drewN | apply Kd.N_drew)); exact Kd.N_mono (Kd.N_far (p := ⟨gb471, 1, none⟩) (Kd.N_far (p := ⟨gb471, 0, none⟩) (Kd.N_mono HO_3.out (fun k_ hk => (⟨hk, hk.2⟩ : _ ∧ k_ ≠ gb471))) (fun _ hk => hk.2) (.slice A470_0 ((rd_T38 l0 x12_1).f0).length c470_0)) (fun _ hk => hk.2) (.bool ((rd_T38 l0 x12_1).f1))) (fun _ hk => ⟨⟨hk.1.1.1, hk.1.2⟩, hk.1.1.2⟩)) hg hat); have n1_ := Aside0.mk (blk_grown (g := gb471) (o := .cells #[.slice A470_0 ((rd_T38 l0 x12_1).f0).length c470_0, .bool ((rd_T38 l0 x12_1).f1)] 38 (0, 0)) (by refine blk_put (cs := #[.slice A470_0 ((rd_T38 l0 x12_1).f0).length c470_0, .bool false]) ?_ 1 _ rfl; refine blk_put (cs := #[.slice none 0 0, .bool false]) ?_ 0 _ rfl; exact BK471.out) hg (Kd.R_ne HO_4.out BK471.out (by decide))); have n2_ := Aside0.mk (hb); have n3_ := Aside0.mk (ho); clear HO_3; clear BK471; clear HB; clear HO_4; have HO_3 := n0_; have BK471 := n1_; have HB := n2_; have HO474 := n3_; clear n0_ n1_ n2_ n3_; clear ho hb hg hat))
       (try simp only [Act.put, List.setIfInBounds_toArray, List.set_cons_zero, List.set_cons_succ])
       go_cut [29] (fun v29 wc => ∃ (kq : Nat) (x29_9 : Bool), v29 = .bool x29_9 ∧ Aside0 (backseatref08_Join.j1 kq l0 x3_1 y472 l0 (l0.length : Int) x12_1 x29_9 = some r) ∧ Aside0 (kq ≤ k1) ∧ Aside0 (Kd.N (Kd.slice 60 k60) 36 wc w.heap.size (fun k_ => (w.heap.size ≤ k_) ∧ some k_ ≠ (v473 : Value).ownBlock ∧ k_ ≠ gb471) u3 x3_1) ∧ Aside0 (Kd.R k60 60 wc w.heap.size (fun k_ => (w.heap.size ≤ k_)) v473 y472) ∧ Aside0 (wc.heap[gb471]? = some (.cells #[(.slice A470_0 ((rd_T38 l0 x12_1).f0).length c470_0), .bool ((rd_T38 l0 x12_1).f1)] 38 (0, 0))) ∧ Aside0 (Below w.heap.size w wc))
       case first =>
        have H := HC10.out
        clear HC10
        obtain ⟨bq14, hbq14⟩ : ∃ b_ : Bool, b_ = ((rd_T38 l0 x12_1).f1) := ⟨_, rfl⟩
        replace H : (if bq14 = true then (backseatref08_Join.j1 k1 l0 x3_1 y472 l0 (l0.length : Int) x12_1 (decide ((wrap64 (x12_1 + 1)) < (l0.length : Int)))) else (backseatref08_Join.j1 k1 l0 x3_1 y472 l0 (l0.length : Int) x12_1 false)) = some r := by rw [← hbq14] at H; exact H
        have Nbq14 := Aside0.mk hbq14
        clear hbq14
        (try rw [← Nbq14.out])
        by_cases c15 : bq14 = true
        ·subst c15
         have H1 : (backseatref08_Join.j1 k1 l0 x3_1 y472 l0 (l0.length : Int) x12_1 (decide ((wrap64 (x12_1 + 1)) < (l0.length : Int)))) = some r := by rw [if_pos rfl] at H; exact H
         clear H
         have H := H1
         clear H1
         have H' := Aside0.mk H
         clear H
         have hcz16_0 : w13.cell? ⟨gb471, 0, none⟩ = some (.slice A470_0 ((rd_T38 l0 x12_1).f0).length c470_0) := (blk_cell BK471.out 0).trans (by first | rfl | (rw [← Nbq14.out]; rfl) | (rw [Nbq14.out]; rfl))
         have hcz16_1 : w13.cell? ⟨gb471, 1, none⟩ = some (.bool true) := (blk_cell BK471.out 1).trans (by first | rfl | (rw [← Nbq14.out]; rfl) | (rw [Nbq14.out]; rfl))
         have hfz16_0 := blk_frozen BK471.out 0
         have hfz16_1 := blk_frozen BK471.out 1
         go_wp2
         go_meet
         case rel => exact ⟨_, (decide ((wrap64 (x12_1 + 1)) < (l0.length : Int))), zf, H', ⟨by have := HK1.out; first | omega | exact Nat.le_refl _⟩, ⟨by (with_reducible repeat (first | apply Kd.N_alloc | apply Kd.N_drewN | apply Kd.N_drew)); exact Kd.N_mono HO_3.out (fun _ hk => ⟨hk.1.1, ⟨hk.2, hk.1.2⟩⟩)⟩, ⟨by (with_reducible repeat (first | apply Kd.R_alloc | apply Kd.R_drewN | apply Kd.R_drew)); exact HO474.out⟩, ⟨by exact BK471.out⟩, ⟨zb⟩⟩
        ·replace c15 := Bool.eq_false_iff.mpr c15
         subst c15
         have H1 : (backseatref08_Join.j1 k1 l0 x3_1 y472 l0 (l0.length : Int) x12_1 false) = some r := by rw [if_neg (show ¬ (false = true) by decide)] at H; exact H
         clear H
         have H := H1
         clear H1
         have H' := Aside0.mk H
         clear H
         have hcz17_0 : w13.cell? ⟨gb471, 0, none⟩ = some (.slice A470_0 ((rd_T38 l0 x12_1).f0).length c470_0) := (blk_cell BK471.out 0).trans (by first | rfl | (rw [← Nbq14.out]; rfl) | (rw [Nbq14.out]; rfl))
         have hcz17_1 : w13.cell? ⟨gb471, 1, none⟩ = some (.bool false) := (blk_cell BK471.out 1).trans (by first | rfl | (rw [← Nbq14.out]; rfl) | (rw [Nbq14.out]; rfl))
         have hfz17_0 := blk_frozen BK471.out 0
         have hfz17_1 := blk_frozen BK471.out 1
         go_wp2
         go_meet
         case rel => exact ⟨_, (false), zf, H', ⟨by have := HK1.out; first | omega | exact Nat.le_refl _⟩, ⟨by (with_reducible repeat (first | apply Kd.N_alloc | apply Kd.N_drewN | apply Kd.N_drew)); exact Kd.N_mono HO_3.out (fun _ hk => ⟨hk.1.1, ⟨hk.2, hk.1.2⟩⟩)⟩, ⟨by (with_reducible repeat (first | apply Kd.R_alloc | apply Kd.R_drewN | apply Kd.R_drew)); exact HO474.out⟩, ⟨by exact BK471.out⟩, ⟨zb⟩⟩
       case rest =>
        clear HC10
        try clear c6
        try clear c6b0
        try clear c7
        try clear c7b0
        try clear c8
        try clear c8b0
        try clear c9
        try clear hcz12_0
        try clear hcz12_1
        try clear hfz12_0
        try clear hfz12_1
        try clear hx470_0
        try clear hx470_1
        try clear p470
        try clear q470
        obtain ⟨kq, x29_9, rfl, HA, HJ9, HO_3, HO_4, BK471, HB⟩ := hcut
        cases kq with
        | zero => exact absurd HA.out (by simp [backseatref08_Join.j1])
        | succ kj9 =>
         have H := HA.out
         clear HA
         simp only [backseatref08_Join.j1] at H
         by_cases c18 : x29_9 = true
         ·subst c18
          have H1 : (backseatref08_Join.l0 kj9 l0 x3_1 y472 l0 (l0.length : Int) (wrap64 (x12_1 + 1))) = some r := by rw [if_pos rfl] at H; exact H
          clear H
          have H := H1
          clear H1
          have H' := Aside0.mk H
          clear H
          go_wp2
          go_roundg kj9
          case measure => have := HK1.out; have := HJ9.out; omega
          case rel => exact ⟨(x3_1), (y472), (wrap64 (x12_1 + 1)), zf, H', ⟨by have := HK1.out; have := HJ9.out; omega⟩, ⟨by (with_reducible repeat (first | apply Kd.N_alloc | apply Kd.N_drewN | apply Kd.N_drew)); exact Kd.N_mono HO_3.out (fun _ hk => ⟨hk.1, hk.2.1⟩)⟩, ⟨by (with_reducible repeat (first | apply Kd.R_alloc | apply Kd.R_drewN | apply Kd.R_drew)); exact HO_4.out⟩, ⟨zb⟩⟩
         ·replace c18 := Bool.eq_false_iff.mpr c18
          subst c18
          have H1 : (backseatref08_Join.l1 kj9 l0 x3_1 y472 (y472.length : Int) l0 (l0.length : Int) x12_1) = some r := by rw [if_neg (show ¬ (false = true) by decide)] at H; exact H
          clear H
          have H := H1
          clear H1
          have H' := Aside0.mk H
          clear H
          obtain ⟨Ao19, co19, eo19⟩ := Kd.R_slice HO_4.out
          subst eo19
          go_wp2
          go_loopg [7] kj9 (fun kq v7 w' => ∃ (x7_3 : Int), v7 = .int .i64 x7_3 ∧ Aside0 (backseatref08_Join.l1 kq l0 x3_1 y472 x7_3 l0 (l0.length : Int) x12_1 = some r) ∧ Aside0 (kq ≤ kj9) ∧ Aside0 (Kd.N (Kd.slice 60 k60) 36 w' w.heap.size (fun k_ => (w.heap.size ≤ k_) ∧ some k_ ≠ ((.slice Ao19 y472.length co19) : Value).ownBlock ∧ k_ ≠ gb471) u3 x3_1) ∧ Aside0 (Kd.R k60 60 w' w.heap.size (fun k_ => (w.heap.size ≤ k_)) (.slice Ao19 y472.length co19) y472) ∧ Aside0 (w'.heap[gb471]? = some (.cells #[(.slice A470_0 ((rd_T38 l0 x12_1).f0).length c470_0), .bool ((rd_T38 l0 x12_1).f1)] 38 (0, 0))) ∧ Aside0 (Below w.heap.size w w'))
          case atStart => exact ⟨((y472.length : Int)), zf, H', ⟨Nat.le_refl _⟩, ⟨by (with_reducible repeat (first | apply Kd.N_alloc | apply Kd.N_drewN | apply Kd.N_drew)); exact HO_3.out⟩, ⟨by (with_reducible repeat (first | apply Kd.R_alloc | apply Kd.R_drewN | apply Kd.R_drew)); exact HO_4.out⟩, ⟨by exact BK471.out⟩, ⟨zb⟩⟩
          case round =>
           clear H'
           try clear c6
           try clear c6b0
           try clear c7
           try clear c7b0
           try clear c8
           try clear c8b0
           try clear c9
           try clear c18
           try clear hcz12_0
           try clear hcz12_1
           try clear hfz12_0
           try clear hfz12_1
           try clear hx470_0
           try clear hx470_1
           try clear p470
           try clear q470
           obtain ⟨x7_3, rfl, HA, HK3, HO_3, HO_4, BK471, HB⟩ := hrel
           cases gk with
           | zero => exact absurd HA.out (by simp [backseatref08_Join.l1])
           | succ k3 =>
            have H := HA.out
            clear HA
            simp only [backseatref08_Join.l1] at H
            by_cases c20 : x7_3 > 0
            ·rw [if_pos c20] at H
             have c20b0 : decide (0 < x7_3) = true := decide_eq_true c20
             clear c20
             obtain ⟨ji21, hji21⟩ : ∃ j_ : Int, (wrap64 (x7_3 - 1)) = j_ := ⟨_, rfl⟩
             replace H : (if 0 ≤ (ji21) then (if (ji21) < (y472.length : Int) then ((backseatref08_Blank.f ((rd_T60 y472 (ji21)).f0) ((rd_T60 y472 (ji21)).f1) ((rd_T60 y472 (ji21)).f2.f0) ((rd_T60 y472 (ji21)).f2.f1) ((rd_T60 y472 (ji21)).f2.f2)).bind fun t476 => (if t476 = true then (backseatref08_Join.l1 k3 l0 x3_1 y472 ji21 l0 (l0.length : Int) x12_1) else (if 0 ≤ x7_3 then (if x7_3 ≤ (y472.length : Int) then (if x3_1.length < 5864062014805 then (backseatref08_Join.l0 k3 l0 (x3_1 ++ [(y472.take (x7_3 : Int).toNat)]) (([] : List (S60))) l0 (l0.length : Int) (wrap64 (x12_1 + 1))) else (none)) else (none)) else (none)))) else (none)) else (none)) = some r := by first | (rw [hji21] at H; exact H) | (simp only [hji21] at H ⊢; exact H)
             have hji21w : (IntKind.i64.wrap (x7_3 - 1)) = ji21 := (i64_w _).trans hji21
             by_cases c22 : 0 ≤ (ji21)
             ·rw [if_pos c22] at H
              have c22b0 : decide (0 ≤ (ji21)) = true := decide_eq_true c22
              clear c22
              by_cases c23 : (ji21) < (y472.length : Int)
              ·rw [if_pos c23] at H
               have c23b0 : decide ((ji21) < (y472.length : Int)) = true := decide_eq_true c23
               clear c23
               replace H := Option.bind_eq_some_iff.mp H
               obtain ⟨t476, A240, H⟩ := H
               replace H : (if t476 = true then (backseatref08_Join.l1 k3 l0 x3_1 y472 ji21 l0 (l0.length : Int) x12_1) else (if 0 ≤ x7_3 then (if x7_3 ≤ (y472.length : Int) then (if x3_1.length < 5864062014805 then (backseatref08_Join.l0 k3 l0 (x3_1 ++ [(y472.take (x7_3 : Int).toNat)]) (([] : List (S60))) l0 (l0.length : Int) (wrap64 (x12_1 + 1))) else (none)) else (none)) else (none))) = some r := H
               have A24 := Aside0.mk A240
               clear A240
               by_cases c25 : t476 = true
               ·subst c25
                have H1 : (backseatref08_Join.l1 k3 l0 x3_1 y472 ji21 l0 (l0.length : Int) x12_1) = some r := by rw [if_pos rfl] at H; exact H
                clear H
                have H := H1
                clear H1
                have H' := Aside0.mk H
                clear H
                have p475 : 0 ≤ ((ji21) : Int) := of_decide_eq_true za
                have q475 : (ji21) < (y472.length : Int) := of_decide_eq_true za
                obtain ⟨ad475, e475, hx475_0, hx475_1, hx475_2, hx475_3, hx475_4⟩ := at_T60 (Kd.R_reads' HO_4.out).2.2 (ji21) p475 q475
                cases e475
                replace p475 := eq_true p475
                replace q475 := eq_true q475
                go_wp2_with (first | (go_at_call 49; (with_reducible refine (backseatref08_Blank.calls ((rd_T60 y472 (ji21)).f0) ((rd_T60 y472 (ji21)).f1) ((rd_T60 y472 (ji21)).f2.f0) ((rd_T60 y472 (ji21)).f2.f1) ((rd_T60 y472 (ji21)).f2.f2) true _ A24.out).mono ?_); rintro e w26 ⟨rfl, hb⟩; replace HO_3 := (zN HO_3 hb); replace HO_4 := (zR HO_4 hb); replace BK471 := (zk BK471 hb); replace HB := (zs HB hb); (try clear hb)))
                go_roundg k3
                case measure => have := HK1.out; have := HJ9.out; have := HK3.out; omega
                case rel => exact ⟨(ji21), (by first | rfl | (simp; done) | (simp only [← hji21] <;> (first | rfl | (simp; done))) | (simp [*]; done) | (simp; simp only [decide_eq_true_eq, eq_iff_iff, iff_true] at *; omega)), H', ⟨by have := HK1.out; have := HJ9.out; have := HK3.out; omega⟩, ⟨by (with_reducible repeat (first | apply Kd.N_alloc | apply Kd.N_drewN | apply Kd.N_drew)); exact HO_3.out⟩, ⟨by (with_reducible repeat (first | apply Kd.R_alloc | apply Kd.R_drewN | apply Kd.R_drew)); exact HO_4.out⟩, ⟨by exact BK471.out⟩, ⟨zb⟩⟩
               ·replace c25 := Bool.eq_false_iff.mpr c25
                subst c25
                have H1 : (if 0 ≤ x7_3 then (if x7_3 ≤ (y472.length : Int) then (if x3_1.length < 5864062014805 then (backseatref08_Join.l0 k3 l0 (x3_1 ++ [(y472.take (x7_3 : Int).toNat)]) (([] : List (S60))) l0 (l0.length : Int) (wrap64 (x12_1 + 1))) else (none)) else (none)) else (none)) = some r := by rw [if_neg (show ¬ (false = true) by decide)] at H; exact H
                clear H
                have H := H1
                clear H1
                by_cases c27 : 0 ≤ x7_3
                ·rw [if_pos c27] at H
                 have c27b0 := eq_true c27
                 have c27b1 : decide (0 ≤ x7_3) = true := decide_eq_true c27
                 clear c27
                 by_cases c28 : x7_3 ≤ (y472.length : Int)
                 ·rw [if_pos c28] at H
                  have c28b0 := eq_true c28
                  have c28b1 : decide (x7_3 ≤ (y472.length : Int)) = true := decide_eq_true c28
                  clear c28
                  obtain ⟨y477, hy477⟩ : ∃ y_ : List (S60), y_ = (y472.take (x7_3 : Int).toNat) := ⟨_, rfl⟩
                  replace H : (if x3_1.length < 5864062014805 then (backseatref08_Join.l0 k3 l0 (x3_1 ++ [y477]) (([] : List (S60))) l0 (l0.length : Int) (wrap64 (x12_1 + 1))) else (none)) = some r := by first | (rw [hy477]; with_reducible exact H) | (have H2_ := (Option.bind_some _ _).symm.trans H; rw [hy477]; with_reducible exact H2_) | (have H2_ := (Option.bind_some _ _).symm.trans H; with_reducible exact H2_) | with_reducible exact H | (rw [hy477]; exact H) | exact H
                  have Ny477 := Aside0.mk hy477
                  clear hy477
                  by_cases c29 : x3_1.length < 5864062014805
                  ·rw [if_pos c29] at H
                   have LMc29 := Aside0.mk c29
                   clear c29
                   obtain ⟨y482, hy482⟩ : ∃ y_ : List (List (S60)), y_ = (x3_1 ++ [y477]) := ⟨_, rfl⟩
                   replace H : (backseatref08_Join.l0 k3 l0 y482 (([] : List (S60))) l0 (l0.length : Int) (wrap64 (x12_1 + 1))) = some r := by first | (rw [hy482]; with_reducible exact H) | (have H2_ := (Option.bind_some _ _).symm.trans H; rw [hy482]; with_reducible exact H2_) | (have H2_ := (Option.bind_some _ _).symm.trans H; with_reducible exact H2_) | with_reducible exact H | (rw [hy482]; exact H) | exact H
                   have Ny482 := Aside0.mk hy482
                   clear hy482
                   obtain ⟨y485, hy485⟩ : ∃ y_ : List (S60), y_ = (([] : List (S60))) := ⟨_, rfl⟩
                   replace H : (backseatref08_Join.l0 k3 l0 y482 y485 l0 (l0.length : Int) (wrap64 (x12_1 + 1))) = some r := by first | (rw [hy485]; with_reducible exact H) | (have H2_ := (Option.bind_some _ _).symm.trans H; rw [hy485]; with_reducible exact H2_) | (have H2_ := (Option.bind_some _ _).symm.trans H; with_reducible exact H2_) | with_reducible exact H | (rw [hy485]; exact H) | exact H
                   have Ny485 := Aside0.mk hy485
                   clear hy485
                   have H' := Aside0.mk H
                   clear H
                   have p475 : 0 ≤ ((ji21) : Int) := of_decide_eq_true za
                   have q475 : (ji21) < (y472.length : Int) := of_decide_eq_true za
                   obtain ⟨ad475, e475, hx475_0, hx475_1, hx475_2, hx475_3, hx475_4⟩ := at_T60 (Kd.R_reads' HO_4.out).2.2 (ji21) p475 q475
                   cases e475
                   replace p475 := eq_true p475
                   replace q475 := eq_true q475
                   go_wp2_with (first | (go_at_call 49; (with_reducible refine (backseatref08_Blank.calls ((rd_T60 y472 (ji21)).f0) ((rd_T60 y472 (ji21)).f1) ((rd_T60 y472 (ji21)).f2.f0) ((rd_T60 y472 (ji21)).f2.f1) ((rd_T60 y472 (ji21)).f2.f2) false _ A24.out).mono ?_); rintro e w30 ⟨rfl, hb⟩; replace HO_3 := (zN HO_3 hb); replace HO_4 := (zR HO_4 hb); replace BK471 := (zk BK471 hb); replace HB := (zs HB hb); (try clear hb); (try clear hk); have q31 : (x7_3 : Int) ≤ ((y472.length : Int) : Int) := of_decide_eq_true za; obtain ⟨i031, hi031, _, hsz31, _⟩ := info_parts info60; have hroom31 : y472.length ≤ co19 := (Kd.R_reads' HO_4.out).2.1; have hC31 : Kd.F k60 _ _ (some ad475) y472.length y472 := (Kd.V_at (base := w.heap.size) (Kd.R_V (Kd.R_types (Kd.R_apart' (HO_4.out) (Kd.N_typed HO_3.out) (by decide)) BK471.out (by decide)))).2.2; have hcut31 := cut_to (P := Tryd.prog) 36 60 .i64 Tryd.underlying36 hi031 (some ad475) y472.length co19 x7_3 (of_decide_eq_true za) q31 hroom31; have hr31 := Kd.F_take (m := (x7_3 : Int).toNat) hC31 (by omega); have hy31 : y477.length = (x7_3 : Int).toNat := (by rw [Ny477.out, List.length_take]; omega); rw [← Ny477.out] at hr31; rw [← hy31] at hcut31; have HO481 := Aside0.mk (show Kd.V k60 60 _ w.heap.size _ (.slice (some ad475) y477.length co19) y477 from Kd.V_mk (by omega) hr31); have HC481 := Aside0.mk (show y477.length ≤ co19 from by omega); clear hr31 hC31 hroom31 hi031 hsz31; have KY31 := Aside0.mk hy31; clear hy31; replace q31 := eq_true q31) | ((with_reducible refine gate_builtin (b := .append) (xs := #[.tmp 44, .tmp 48]) rfl ?_); (try (refine gate_guard (by rfl) ?_; dsimp only)); at_builtin; refine Kd.N_append (Kd.slice 60 k60) (w0 := w) w.heap.size rfl (.tmp 44) (.tmp 48) 39 36 (.slice none 0 0) 24 rfl Tryd.underlying39 info36 rfl (by decide) (by omega) u3 x3_1 y477 [.slice (some ad475) y477.length co19] (fun k_ => (w.heap.size ≤ k_) ∧ k_ ≠ gb471) (fun k_ => ((fun k_ => (w.heap.size ≤ k_) ∧ k_ ≠ gb471)) k_ ∧ some k_ ≠ (u3 : Value).ownBlock) rfl rfl ?aP (fun _ hk => hk) ?aF ?aO ?aB ?aS ?aL ?_; (case aP => exact (Kd.FK_slice_mk (Kd.V_reads' (Kd.V_mono (ok' := (fun k_ => ((fun k_ => (w.heap.size ≤ k_) ∧ k_ ≠ gb471)) k_ ∧ some k_ ≠ (u3 : Value).ownBlock)) (HO481.out) (fun k_ hk => ⟨⟨hk.1.1, hk.2⟩, hk.1.2⟩))).2.1 (Kd.V_F (Kd.V_mono (ok' := (fun k_ => ((fun k_ => (w.heap.size ≤ k_) ∧ k_ ≠ gb471)) k_ ∧ some k_ ≠ (u3 : Value).ownBlock)) (HO481.out) (fun k_ hk => ⟨⟨hk.1.1, hk.2⟩, hk.1.2⟩))))); (case aB => exact zb); (case aF => exact (fun k_ hk => ⟨(Nat.le_trans (below_size zb) hk), Kd.freshB (g := gb471) (o := .cells #[.slice A470_0 ((rd_T38 l0 x12_1).f0).length c470_0, .bool ((rd_T38 l0 x12_1).f1)] 38 (0, 0)) (by exact BK471.out) k_ hk⟩)); (case aO => exact (by (with_reducible repeat (first | apply Kd.N_alloc | apply Kd.N_drewN | apply Kd.N_drew)); exact Kd.N_mono HO_3.out (fun _ hk => ⟨hk.1, hk.2.2⟩))); (case aS => exact (below_size zb)); (case aL => have := LMc29.out; omega); intro v483 w32 ho hb hg hat; rw [← Ny482.out] at ho; have n0_ := Aside0.mk (Kd.R_over' (zRa HO_4) (Kd.N_typed (zNa HO_3)) (by decide) hg); have n1_ := Aside0.mk (blk_grown (g := gb471) (o := .cells #[.slice A470_0 ((rd_T38 l0 x12_1).f0).length c470_0, .bool ((rd_T38 l0 x12_1).f1)] 38 (0, 0)) (by exact BK471.out) hg (Kd.N_ne HO_3.out BK471.out (by decide))); have n2_ := Aside0.mk (Kd.V_afterv (ok := (fun k_ => (w.heap.size ≤ k_) ∧ k_ ≠ gb471)) (by (with_reducible repeat (first | apply Kd.V_alloc | apply Kd.V_drewN | apply Kd.V_drew)); exact Kd.V_mono HO481.out (fun _ hk => ⟨⟨hk.1.1, hk.2⟩, hk.1.2⟩)) hg hat); have n3_ := Aside0.mk (hb); have n4_ := Aside0.mk (ho); clear HO_4; clear BK471; clear HO481; clear HB; clear HO_3; have HO_4 := n0_; have BK471 := n1_; have HO481 := n2_; have HB := n3_; have HO484 := n4_; clear n0_ n1_ n2_ n3_ n4_; clear ho hb hg hat) | ((with_reducible refine gate_dst (N := 50) rfl ?_); (try (refine gate_guard (by rfl) ?_; dsimp only)); refine Kd.R_lit k60 _ 60 ?hg (N := 50) ?hd (xs := ([] : List (S60))) (inner := []) (ok := fun _ => True) (okp := fun _ => True) ?hr ?hp (fun _ hk => hk) trivial (Below.refl _ _) (Nat.le_refl _) (by simp) ?_; (case hd => rfl); (case hg => rfl); (case hr => exact zo); (case hp => exact (Reps.none _ _)); intro v486 w33 ho34 hb hg_ hnew_; clear hg_ hnew_; (first | rw [← Ny485.out] at ho34 | (simp only [Int.reduceToNat] at ho34; rw [← Ny485.out] at ho34)); have n0_ := Aside0.mk (Kd.R_elder' (zRa HO_4) (Kd.R_base ho34) hb); have n1_ := Aside0.mk (Kd.V_elder' (by (with_reducible repeat (first | apply Kd.V_alloc | apply Kd.V_drewN | apply Kd.V_drew)); exact HO481.out) (Kd.R_base ho34) hb); have n2_ := Aside0.mk (Kd.N_elder' (zNa HO484) (Kd.R_base ho34) hb); have n3_ := Aside0.mk (Kd.R_lower (Kd.R_new' (Kd.R_newM (M := fun k_ => (w.heap.size ≤ k_)) ho34 (below_size zb) (fun k_ h_ => h_)) (Kd.R_lt (zRa HO_4))) (below_size zb)); have n4_ := (zk BK471 hb); have n5_ := (zs HB hb); clear HO_4; clear HO481; clear HO484; clear BK471; clear HB; have HO_4 := n0_; have HO481 := n1_; have HO484 := n2_; have HO487 := n3_; have BK471 := n4_; have HB := n5_; clear n0_ n1_ n2_ n3_ n4_ n5_; clear hb ho34))
                   go_roundg k3
                   case measure => have := HK1.out; have := HJ9.out; have := HK3.out; omega
                   case rel => exact ⟨(y482), (y485), (wrap64 (x12_1 + 1)), zf, H', ⟨by have := HK1.out; have := HJ9.out; have := HK3.out; omega⟩, ⟨by (with_reducible repeat (first | apply Kd.N_alloc | apply Kd.N_drewN | apply Kd.N_drew)); exact Kd.N_mono HO484.out (fun _ hk => ⟨hk.1.1, hk.2⟩)⟩, ⟨by (with_reducible repeat (first | apply Kd.R_alloc | apply Kd.R_drewN | apply Kd.R_drew)); exact Kd.R_mono HO487.out (fun _ hk => hk.1.1)⟩, ⟨zb⟩⟩
                  ·rw [if_neg c29] at H
                   exact absurd H (by simp)
                 ·rw [if_neg c28] at H
                  exact absurd H (by simp)
                ·rw [if_neg c27] at H
                 exact absurd H (by simp)
              ·rw [if_neg c23] at H
               exact absurd H (by simp)
             ·rw [if_neg c22] at H
              exact absurd H (by simp)
            ·rw [if_neg c20] at H
             have c20b0 : decide (0 < x7_3) = false := decide_eq_false c20
             clear c20
             by_cases c35 : 0 ≤ x7_3
             ·rw [if_pos c35] at H
              have c35b0 := eq_true c35
              have c35b1 : decide (0 ≤ x7_3) = true := decide_eq_true c35
              clear c35
              by_cases c36 : x7_3 ≤ (y472.length : Int)
              ·rw [if_pos c36] at H
               have c36b0 := eq_true c36
               have c36b1 : decide (x7_3 ≤ (y472.length : Int)) = true := decide_eq_true c36
               clear c36
               obtain ⟨y488, hy488⟩ : ∃ y_ : List (S60), y_ = (y472.take (x7_3 : Int).toNat) := ⟨_, rfl⟩
               replace H : (if x3_1.length < 5864062014805 then (backseatref08_Join.l0 k3 l0 (x3_1 ++ [y488]) (([] : List (S60))) l0 (l0.length : Int) (wrap64 (x12_1 + 1))) else (none)) = some r := by first | (rw [hy488]; with_reducible exact H) | (have H2_ := (Option.bind_some _ _).symm.trans H; rw [hy488]; with_reducible exact H2_) | (have H2_ := (Option.bind_some _ _).symm.trans H; with_reducible exact H2_) | with_reducible exact H | (rw [hy488]; exact H) | exact H
               have Ny488 := Aside0.mk hy488
               clear hy488
               by_cases c37 : x3_1.length < 5864062014805
               ·rw [if_pos c37] at H
                have LMc37 := Aside0.mk c37
                clear c37
                obtain ⟨y493, hy493⟩ : ∃ y_ : List (List (S60)), y_ = (x3_1 ++ [y488]) := ⟨_, rfl⟩
                replace H : (backseatref08_Join.l0 k3 l0 y493 (([] : List (S60))) l0 (l0.length : Int) (wrap64 (x12_1 + 1))) = some r := by first | (rw [hy493]; with_reducible exact H) | (have H2_ := (Option.bind_some _ _).symm.trans H; rw [hy493]; with_reducible exact H2_) | (have H2_ := (Option.bind_some _ _).symm.trans H; with_reducible exact H2_) | with_reducible exact H | (rw [hy493]; exact H) | exact H
                have Ny493 := Aside0.mk hy493
                clear hy493
                obtain ⟨y496, hy496⟩ : ∃ y_ : List (S60), y_ = (([] : List (S60))) := ⟨_, rfl⟩
                replace H : (backseatref08_Join.l0 k3 l0 y493 y496 l0 (l0.length : Int) (wrap64 (x12_1 + 1))) = some r := by first | (rw [hy496]; with_reducible exact H) | (have H2_ := (Option.bind_some _ _).symm.trans H; rw [hy496]; with_reducible exact H2_) | (have H2_ := (Option.bind_some _ _).symm.trans H; with_reducible exact H2_) | with_reducible exact H | (rw [hy496]; exact H) | exact H
                have Ny496 := Aside0.mk hy496
                clear hy496
                have H' := Aside0.mk H
                clear H
                have q38 : (x7_3 : Int) ≤ ((y472.length : Int) : Int) := of_decide_eq_true za
                obtain ⟨i038, hi038, _, hsz38, _⟩ := info_parts info60
                have hroom38 : y472.length ≤ co19 := (Kd.R_reads' HO_4.out).2.1
                have hC38 : Kd.F k60 _ _ Ao19 y472.length y472 := (Kd.V_at (base := w.heap.size) (Kd.R_V (Kd.R_types (Kd.R_apart' (HO_4.out) (Kd.N_typed HO_3.out) (by decide)) BK471.out (by decide)))).2.2
                have hcut38 := cut_to (P := Tryd.prog) 36 60 .i64 Tryd.underlying36 hi038 Ao19 y472.length co19 x7_3 (of_decide_eq_true za) q38 hroom38
                have hr38 := Kd.F_take (m := (x7_3 : Int).toNat) hC38 (by omega)
                have hy38 : y488.length = (x7_3 : Int).toNat := (by rw [Ny488.out, List.length_take]; omega)
                rw [← Ny488.out] at hr38
                rw [← hy38] at hcut38
                have HO492 := Aside0.mk (show Kd.V k60 60 _ w.heap.size _ (.slice Ao19 y488.length co19) y488 from Kd.V_mk (by omega) hr38)
                have HC492 := Aside0.mk (show y488.length ≤ co19 from by omega)
                clear hr38 hC38 hroom38 hi038 hsz38
                have KY38 := Aside0.mk hy38
                clear hy38
                replace q38 := eq_true q38
                go_wp2_with (first | ((with_reducible refine gate_builtin (b := .append) (xs := #[.tmp 44, .tmp 48]) rfl ?_); (try (refine gate_guard (by rfl) ?_; dsimp only)); at_builtin; refine Kd.N_append (Kd.slice 60 k60) (w0 := w) w.heap.size rfl (.tmp 44) (.tmp 48) 39 36 (.slice none 0 0) 24 rfl Tryd.underlying39 info36 rfl (by decide) (by omega) u3 x3_1 y488 [.slice Ao19 y488.length co19] (fun k_ => (w.heap.size ≤ k_) ∧ k_ ≠ gb471) (fun k_ => ((fun k_ => (w.heap.size ≤ k_) ∧ k_ ≠ gb471)) k_ ∧ some k_ ≠ (u3 : Value).ownBlock) rfl rfl ?aP (fun _ hk => hk) ?aF ?aO ?aB ?aS ?aL ?_; (case aP => exact (Kd.FK_slice_mk (Kd.V_reads' (Kd.V_mono (ok' := (fun k_ => ((fun k_ => (w.heap.size ≤ k_) ∧ k_ ≠ gb471)) k_ ∧ some k_ ≠ (u3 : Value).ownBlock)) (HO492.out) (fun k_ hk => ⟨⟨hk.1.1, hk.2⟩, hk.1.2⟩))).2.1 (Kd.V_F (Kd.V_mono (ok' := (fun k_ => ((fun k_ => (w.heap.size ≤ k_) ∧ k_ ≠ gb471)) k_ ∧ some k_ ≠ (u3 : Value).ownBlock)) (HO492.out) (fun k_ hk => ⟨⟨hk.1.1, hk.2⟩, hk.1.2⟩))))); (case aB => exact zb); (case aF => exact (fun k_ hk => ⟨(Nat.le_trans (below_size zb) hk), Kd.freshB (g := gb471) (o := .cells #[.slice A470_0 ((rd_T38 l0 x12_1).f0).length c470_0, .bool ((rd_T38 l0 x12_1).f1)] 38 (0, 0)) (by exact BK471.out) k_ hk⟩)); (case aO => exact (by (with_reducible repeat (first | apply Kd.N_alloc | apply Kd.N_drewN | apply Kd.N_drew)); exact Kd.N_mono HO_3.out (fun _ hk => ⟨hk.1, hk.2.2⟩))); (case aS => exact (below_size zb)); (case aL => have := LMc37.out; omega); intro v494 w39 ho hb hg hat; rw [← Ny493.out] at ho; have n0_ := Aside0.mk (Kd.R_over' (zRa HO_4) (Kd.N_typed (zNa HO_3)) (by decide) hg); have n1_ := Aside0.mk (blk_grown (g := gb471) (o := .cells #[.slice A470_0 ((rd_T38 l0 x12_1).f0).length c470_0, .bool ((rd_T38 l0 x12_1).f1)] 38 (0, 0)) (by exact BK471.out) hg (Kd.N_ne HO_3.out BK471.out (by decide))); have n2_ := Aside0.mk (Kd.V_afterv (ok := (fun k_ => (w.heap.size ≤ k_) ∧ k_ ≠ gb471)) (by (with_reducible repeat (first | apply Kd.V_alloc | apply Kd.V_drewN | apply Kd.V_drew)); exact Kd.V_mono HO492.out (fun _ hk => ⟨⟨hk.1.1, hk.2⟩, hk.1.2⟩)) hg hat); have n3_ := Aside0.mk (hb); have n4_ := Aside0.mk (ho); clear HO_4; clear BK471; clear HO492; clear HB; clear HO_3; have HO_4 := n0_; have BK471 := n1_; have HO492 := n2_; have HB := n3_; have HO495 := n4_; clear n0_ n1_ n2_ n3_ n4_; clear ho hb hg hat) | ((with_reducible refine gate_dst (N := 50) rfl ?_); (try (refine gate_guard (by rfl) ?_; dsimp only)); refine Kd.R_lit k60 _ 60 ?hg (N := 50) ?hd (xs := ([] : List (S60))) (inner := []) (ok := fun _ => True) (okp := fun _ => True) ?hr ?hp (fun _ hk => hk) trivial (Below.refl _ _) (Nat.le_refl _) (by simp) ?_; (case hd => rfl); (case hg => rfl); (case hr => exact zo); (case hp => exact (Reps.none _ _)); intro v497 w40 ho41 hb hg_ hnew_; clear hg_ hnew_; (first | rw [← Ny496.out] at ho41 | (simp only [Int.reduceToNat] at ho41; rw [← Ny496.out] at ho41)); have n0_ := Aside0.mk (Kd.R_elder' (zRa HO_4) (Kd.R_base ho41) hb); have n1_ := Aside0.mk (Kd.V_elder' (by (with_reducible repeat (first | apply Kd.V_alloc | apply Kd.V_drewN | apply Kd.V_drew)); exact HO492.out) (Kd.R_base ho41) hb); have n2_ := Aside0.mk (Kd.N_elder' (zNa HO495) (Kd.R_base ho41) hb); have n3_ := Aside0.mk (Kd.R_lower (Kd.R_new' (Kd.R_newM (M := fun k_ => (w.heap.size ≤ k_)) ho41 (below_size zb) (fun k_ h_ => h_)) (Kd.R_lt (zRa HO_4))) (below_size zb)); have n4_ := (zk BK471 hb); have n5_ := (zs HB hb); clear HO_4; clear HO492; clear HO495; clear BK471; clear HB; have HO_4 := n0_; have HO492 := n1_; have HO495 := n2_; have HO498 := n3_; have BK471 := n4_; have HB := n5_; clear n0_ n1_ n2_ n3_ n4_ n5_; clear hb ho41))
                go_roundg k3
                case measure => have := HK1.out; have := HJ9.out; have := HK3.out; omega
                case rel => exact ⟨(y493), (y496), (wrap64 (x12_1 + 1)), zf, H', ⟨by have := HK1.out; have := HJ9.out; have := HK3.out; omega⟩, ⟨by (with_reducible repeat (first | apply Kd.N_alloc | apply Kd.N_drewN | apply Kd.N_drew)); exact Kd.N_mono HO495.out (fun _ hk => ⟨hk.1.1, hk.2⟩)⟩, ⟨by (with_reducible repeat (first | apply Kd.R_alloc | apply Kd.R_drewN | apply Kd.R_drew)); exact Kd.R_mono HO498.out (fun _ hk => hk.1.1)⟩, ⟨zb⟩⟩
               ·rw [if_neg c37] at H
                exact absurd H (by simp)
              ·rw [if_neg c36] at H
               exact absurd H (by simp)
             ·rw [if_neg c35] at H
              exact absurd H (by simp)
      ·rw [if_neg c9] at H
       exact absurd H (by simp)
     ·rw [if_neg c8] at H
      exact absurd H (by simp)
    ·rw [if_neg c7] at H
     exact absurd H (by simp)
   ·rw [if_neg c6] at H
    have c6b0 : decide (x12_1 < (l0.length : Int)) = false := decide_eq_false c6
    clear c6
    obtain rfl := Option.some.inj H
    go_wp2
    go_ret
    exact ⟨_, ze, by (with_reducible repeat (first | apply Kd.N_alloc | apply Kd.N_drewN | apply Kd.N_drew)); exact Kd.N_mono HO_3.out (fun _ hk => hk.1), zb⟩
def backseatref08_Flow.l0 : Nat → Int → List (S38) → List (List (S60)) → Int → Int → Option ((List (S38)))
 | 0, _, _, _, _, _ => none
 | k + 1, x1, x5, x10, x11, x12 => if x12 < x11 then (if 0 ≤ x12 then (if x12 < (x10.length : Int) then ((backseatref08_Fold.f k (rd_L4 x10 x12) x1).bind fun t593 => (if x5.length + t593.length < 4398046511104 then (backseatref08_Flow.l0 k x1 (x5 ++ t593) x10 x11 (wrap64 (x12 + 1))) else (none))) else (none)) else (none)) else (some x5)
def backseatref08_Flow.f (k : Nat) (l0 : List (S38)) (a1 : Int) : Option ((List (S38))) := (backseatref08_Join.f k l0).bind fun t589 => (backseatref08_Flow.l0 k a1 (([] : List (S38))) t589 (t589.length : Int) 0)
set_option maxHeartbeats 8000000 in
set_option maxRecDepth 100000 in
theorem backseatref08_Flow.calls (k : Nat) (A0 : Option Addr) (c0 : Nat) (l0 : List (S38)) (a1 : Int) (r : List (S38)) (w : World) (hr0 : Kd.C k38 w A0 l0.length l0) (hc0 : l0.length ≤ c0) (h : backseatref08_Flow.f k l0 a1 = some r) :
  Calls Tryd.prog 30 #[.slice A0 l0.length c0, .int .i64 a1] w fun e w' => ∃ v0_ : Value, e = .returned (v0_) ∧ Kd.N k38 38 w' w.heap.size (fun k_ => (w.heap.size ≤ k_)) v0_ r ∧ Below w.heap.size w w' := by
 have HR0 := Aside0.mk hr0
 have HC0 := Aside0.mk hc0
 clear hr0 hc0
 have HB := Aside0.mk (Below.refl w.heap.size w)
 have H : ((backseatref08_Join.f k l0).bind fun t589 => (backseatref08_Flow.l0 k a1 (([] : List (S38))) t589 (t589.length : Int) 0)) = some r := h
 clear h
 obtain ⟨y586, hy586⟩ : ∃ y_ : List (S38), y_ = (([] : List (S38))) := ⟨_, rfl⟩
 replace H : ((backseatref08_Join.f k l0).bind fun t589 => (backseatref08_Flow.l0 k a1 y586 t589 (t589.length : Int) 0)) = some r := by first | (rw [hy586]; with_reducible exact H) | (have H2_ := (Option.bind_some _ _).symm.trans H; rw [hy586]; with_reducible exact H2_) | (have H2_ := (Option.bind_some _ _).symm.trans H; with_reducible exact H2_) | with_reducible exact H | (rw [hy586]; exact H) | exact H
 have Ny586 := Aside0.mk hy586
 clear hy586
 replace H := Option.bind_eq_some_iff.mp H
 obtain ⟨t589, A30, H⟩ := H
 replace H : (backseatref08_Flow.l0 k a1 y586 t589 (t589.length : Int) 0) = some r := H
 have A3 := Aside0.mk A30
 clear A30
 have H' := Aside0.mk H
 clear H
 go_enter Tryd.func30, Tryd.ntmps30
 go_wp2_with (first | ((with_reducible refine gate_dst (N := 8) rfl ?_); refine Kd.N_lit k38 _ 38 ?hg (N' := 8) ?hd (xs := ([] : List (S38))) (inner := []) (ok := (fun k_ => (w.heap.size ≤ k_))) (okp := (fun k_ => (w.heap.size ≤ k_))) ?hr ?hp (fun _ hk => hk) ((show ∀ k_, w.heap.size ≤ k_ → (fun k_ => (w.heap.size ≤ k_)) k_ from fun k_ hk => (Nat.le_trans (below_size zb) hk)) _ (Nat.le_refl _)) (Below.refl _ _) (Nat.le_refl _) (by simp) ?_; (case hd => rfl); (case hg => rfl); (case hr => exact zo); (case hp => exact (Reps.none _ _)); intro v587 w4 ho5 hb hg_ hnew_; clear hg_ hnew_; (first | rw [← Ny586.out] at ho5 | (simp only [Int.reduceToNat] at ho5; rw [← Ny586.out] at ho5)); have HO588 := Aside0.mk (Kd.N_lower ho5 (below_size zb)); replace HB := (zs HB hb); clear hb ho5) | ((with_reducible refine gate_callee (f := 21) rfl ?_); refine goesL_ (some 10) rfl rfl Tryd.func21 (by kernel_rfl) rfl #[.slice A0 l0.length c0] rfl zl ?_; (with_reducible refine (backseatref08_Join.calls k _ _ l0 t589 _ ?side1 ?side2 A3.out).mono ?_); (case side1 => repeat (first | exact (Kd.C_below HR0.out HB.out) | (with_reducible refine Kd.C_alloc ?_ _) | (with_reducible refine Kd.C_drewN ?_ _) | (with_reducible refine Kd.C_drew ?_))); (case side2 => exact HC0.out); rintro e w6 ⟨v590, rfl, ho0, hb⟩; refine ⟨_, rfl, ?_⟩; have n0_ := Aside0.mk (Kd.N_elder' (zNa HO588) (by first | exact Kd.N_base ho0 | exact Kd.S_base ho0) hb); have n1_ := Aside0.mk (Kd.N_lower (Kd.N_mono (ok' := fun k_ => (w.heap.size ≤ k_) ∧ some k_ ≠ (v587 : Value).ownBlock) ho0 (fun k_ hk_ => ⟨(Nat.le_trans (below_size zb) hk_), (Kd.fresh' (Kd.N_lt (zNa HO588)) k_ hk_)⟩)) (below_size zb)); have n2_ := (zs HB hb); clear HO588; clear HB; have HO588 := n0_; have HO591 := n1_; have HB := n2_; clear n0_ n1_ n2_; (try clear hb); (try clear hk); (try clear ho0); obtain ⟨Ao7, co7, eo7⟩ := Kd.N_slice HO591.out; subst eo7))
 go_loopg [5, 12] k (fun kq v5 v12 w' => ∃ (x5_1 : List (S38)) (x12_1 : Int), v12 = .int .i64 x12_1 ∧ Aside0 (backseatref08_Flow.l0 kq a1 x5_1 t589 (t589.length : Int) x12_1 = some r) ∧ Aside0 (kq ≤ k) ∧ Aside0 (Kd.N k38 38 w' w.heap.size (fun k_ => (w.heap.size ≤ k_) ∧ some k_ ≠ ((.slice Ao7 t589.length co7) : Value).ownBlock) v5 x5_1) ∧ Aside0 (Kd.N (Kd.slice 60 k60) 36 w' w.heap.size (fun k_ => (w.heap.size ≤ k_) ∧ some k_ ≠ (v5 : Value).ownBlock) (.slice Ao7 t589.length co7) t589) ∧ Aside0 (Below w.heap.size w w'))
 case atStart => exact ⟨(y586), (0), zf, H', ⟨Nat.le_refl _⟩, ⟨by (with_reducible repeat (first | apply Kd.N_alloc | apply Kd.N_drewN | apply Kd.N_drew)); exact HO588.out⟩, ⟨by (with_reducible repeat (first | apply Kd.N_alloc | apply Kd.N_drewN | apply Kd.N_drew)); exact HO591.out⟩, ⟨zb⟩⟩
 case round =>
  clear H'
  obtain ⟨x5_1, x12_1, rfl, HA, HK1, HO_5, HO_10, HB⟩ := hrel
  cases gk with
  | zero => exact absurd HA.out (by simp [backseatref08_Flow.l0])
  | succ k1 =>
   have H := HA.out
   clear HA
   simp only [backseatref08_Flow.l0] at H
   by_cases c8 : x12_1 < (t589.length : Int)
   ·rw [if_pos c8] at H
    have c8b0 : decide (x12_1 < (t589.length : Int)) = true := decide_eq_true c8
    clear c8
    by_cases c9 : 0 ≤ x12_1
    ·rw [if_pos c9] at H
     have c9b0 : decide (0 ≤ x12_1) = true := decide_eq_true c9
     clear c9
     by_cases c10 : x12_1 < (t589.length : Int)
     ·rw [if_pos c10] at H
      have c10b0 : decide (x12_1 < (t589.length : Int)) = true := decide_eq_true c10
      clear c10
      replace H := Option.bind_eq_some_iff.mp H
      obtain ⟨t593, A110, H⟩ := H
      replace H : (if x5_1.length + t593.length < 4398046511104 then (backseatref08_Flow.l0 k1 a1 (x5_1 ++ t593) t589 (t589.length : Int) (wrap64 (x12_1 + 1))) else (none)) = some r := H
      have A11 := Aside0.mk A110
      clear A110
      by_cases c12 : x5_1.length + t593.length < 4398046511104
      ·rw [if_pos c12] at H
       have LMc12 := Aside0.mk c12
       clear c12
       obtain ⟨y596, hy596⟩ : ∃ y_ : List (S38), y_ = (x5_1 ++ t593) := ⟨_, rfl⟩
       replace H : (backseatref08_Flow.l0 k1 a1 y596 t589 (t589.length : Int) (wrap64 (x12_1 + 1))) = some r := by first | (rw [hy596]; with_reducible exact H) | (have H2_ := (Option.bind_some _ _).symm.trans H; rw [hy596]; with_reducible exact H2_) | (have H2_ := (Option.bind_some _ _).symm.trans H; with_reducible exact H2_) | with_reducible exact H | (rw [hy596]; exact H) | exact H
       have Ny596 := Aside0.mk hy596
       clear hy596
       have H' := Aside0.mk H
       clear H
       have p592 : 0 ≤ (x12_1 : Int) := of_decide_eq_true za
       have q592 : x12_1 < (t589.length : Int) := of_decide_eq_true za
       obtain ⟨ad592, A592_0, c592_0, e592, hx592_0, hl592_0, hi592_0⟩ := at_L4 (Kd.N_reads' HO_10.out).2.2 x12_1 p592 q592
       cases e592
       obtain ⟨ce592, hce592, hMe592, hcc592⟩ := Kd.N_get HO_10.out [] x12_1 p592 (by first | exact q592 | exact of_decide_eq_true za | (have e_ := (Kd.N_reads' HO_10.out).1; omega))
       obtain ⟨ua592_0, uc592_0, rfl, ul592_0, ge592_0⟩ := Kd.FK_slice_open hMe592
       have hv592_0 := hcc592 0 _ rfl
       rw [Nat.add_zero, show ((Kd.slice 60 k60)).sz = 1 from rfl, Nat.mul_one] at hv592_0
       replace hv592_0 := Option.some.inj (hv592_0.symm.trans hx592_0)
       injection hv592_0 with hva_ hvn_ hvc_
       rw [hva_] at ge592_0
       rw [hvc_] at ul592_0
       have HL592_0 := Aside0.mk (show Kd.V k60 60 _ w.heap.size _ _ (rd_L4 t589 x12_1) from Kd.V_mk ul592_0 ge592_0)
       clear hva_ hvn_ hvc_ ge592_0 ul592_0
       clear hcc592 hce592
       have HR592_0 := Aside0.mk hi592_0
       have HC592_0 := Aside0.mk hl592_0
       clear hi592_0 hl592_0
       replace p592 := eq_true p592
       replace q592 := eq_true q592
       go_wp2_with (first | ((with_reducible refine gate_callee (f := 29) rfl ?_); refine goesL_ (some 19) rfl rfl Tryd.func29 (by kernel_rfl) rfl #[.slice A592_0 (rd_L4 t589 x12_1).length c592_0, .int .i64 a1] rfl zl ?_; (with_reducible refine (backseatref08_Fold.calls k1 _ _ (rd_L4 t589 x12_1) a1 t593 _ ?side1 ?side2 A11.out).mono ?_); (case side1 => repeat (first | exact (by repeat (first | (with_reducible exact HR592_0.out) | (with_reducible refine Kd.C_alloc ?_ _) | (with_reducible refine Kd.C_drewN ?_ _) | (with_reducible refine Kd.C_drew ?_) | exact HR592_0.out)) | (with_reducible refine Kd.C_alloc ?_ _) | (with_reducible refine Kd.C_drewN ?_ _) | (with_reducible refine Kd.C_drew ?_))); (case side2 => exact HC592_0.out); rintro e w13 ⟨v594, rfl, ho0, hb⟩; refine ⟨_, rfl, ?_⟩; have n0_ := Aside0.mk (Kd.N_elder' (zNa HO_5) (by first | exact Kd.N_base ho0 | exact Kd.S_base ho0) hb); have n1_ := Aside0.mk (Kd.N_elder' (zNa HO_10) (by first | exact Kd.N_base ho0 | exact Kd.S_base ho0) hb); have n2_ := Aside0.mk (Kd.V_elder' (by (with_reducible repeat (first | apply Kd.V_alloc | apply Kd.V_drewN | apply Kd.V_drew)); exact HL592_0.out) (by first | exact Kd.N_base ho0 | exact Kd.S_base ho0) hb); have n3_ := Aside0.mk (Kd.N_lower (Kd.N_mono (ok' := fun k_ => (w.heap.size ≤ k_) ∧ some k_ ≠ (u5 : Value).ownBlock ∧ some k_ ≠ (.slice (some ad592) t589.length co7 : Value).ownBlock) (Kd.S_N (Kd.S_bound ho0)) (fun k_ hk_ => ⟨(Nat.le_trans (below_size zb) hk_.2.1), (Kd.fresh' (Kd.N_lt (zNa HO_5)) k_ hk_.2.1), (Kd.fresh' (Kd.N_lt (zNa HO_10)) k_ hk_.2.1)⟩)) (below_size zb)); have n4_ := Aside0.mk (Kd.C_below (by repeat (first | (with_reducible exact HR592_0.out) | (with_reducible refine Kd.C_alloc ?_ _) | (with_reducible refine Kd.C_drewN ?_ _) | (with_reducible refine Kd.C_drew ?_) | exact HR592_0.out)) hb); have n5_ := (zs HB hb); clear HO_5; clear HO_10; clear HL592_0; clear HR592_0; clear HB; have HO_5 := n0_; have HO_10 := n1_; have HL592_0 := n2_; have HO595 := n3_; have HR592_0 := n4_; have HB := n5_; clear n0_ n1_ n2_ n3_ n4_ n5_; (try clear hb); (try clear hk); (try clear ho0); obtain ⟨Ao15, co15, eo15⟩ := Kd.N_slice HO595.out; subst eo15) | ((with_reducible refine gate_builtin (b := .append) (xs := #[.tmp 16, .tmp 19]) rfl ?_); at_builtin; refine Kd.N_append_rows k38 (w0 := w) w.heap.size rfl (.tmp 16) (.tmp 19) 22 38 (.agg #[(.slice none 0 0), (.bool false)]) 32 rfl Tryd.underlying22 info38 rfl (by decide) (by omega) u5 x5_1 t593 _ _ _ (fun k_ => (w.heap.size ≤ k_) ∧ some k_ ≠ (.slice (some ad592) t589.length co7 : Value).ownBlock) (fun k_ => ((fun k_ => (w.heap.size ≤ k_) ∧ some k_ ≠ (.slice (some ad592) t589.length co7 : Value).ownBlock)) k_ ∧ some k_ ≠ (u5 : Value).ownBlock) rfl rfl ?aO ?aR (fun _ hk => hk) ?aF ?aB ?aS ?aL ?_; (case aR => exact (by skip; exact Kd.N_F (Kd.N_mono (ok' := (fun k_ => ((fun k_ => (w.heap.size ≤ k_) ∧ some k_ ≠ (.slice (some ad592) t589.length co7 : Value).ownBlock)) k_ ∧ some k_ ≠ (u5 : Value).ownBlock)) (HO595.out) (fun k_ hk => ⟨⟨hk.1, hk.2.2⟩, hk.2.1⟩)))); (case aB => exact zb); (case aF => exact (fun k_ hk => ⟨(Nat.le_trans (below_size zb) hk), Kd.fresh' (Kd.N_lt (zNa HO_10)) k_ hk⟩)); (case aO => exact (by (with_reducible repeat (first | apply Kd.N_alloc | apply Kd.N_drewN | apply Kd.N_drew)); exact Kd.N_mono HO_5.out (fun _ hk => ⟨hk.1.1, hk.1.2⟩))); (case aS => exact (below_size zb)); (case aL => have := LMc12.out; omega); intro v597 w14 ho hb hg hat; rw [← Ny596.out] at ho; have n0_ := Aside0.mk (Kd.N_afterv (ok := (fun k_ => (w.heap.size ≤ k_) ∧ some k_ ≠ (.slice Ao15 t593.length co15 : Value).ownBlock)) (by (with_reducible repeat (first | apply Kd.N_alloc | apply Kd.N_drewN | apply Kd.N_drew)); exact Kd.N_mono HO_10.out (fun _ hk => ⟨⟨hk.1.1, hk.2⟩, hk.1.2⟩)) hg hat); have n1_ := Aside0.mk (Kd.V_afterv (ok := (fun k_ => (w.heap.size ≤ k_) ∧ some k_ ≠ (.slice (some ad592) t589.length co7 : Value).ownBlock ∧ some k_ ≠ (.slice Ao15 t593.length co15 : Value).ownBlock)) (by (with_reducible repeat (first | apply Kd.V_alloc | apply Kd.V_drewN | apply Kd.V_drew)); exact Kd.V_mono HL592_0.out (fun _ hk => ⟨⟨hk.1.1.1, ⟨hk.1.2, hk.2⟩⟩, hk.1.1.2⟩)) hg hat); have n2_ := Aside0.mk (Kd.N_afterv (ok := (fun k_ => (w.heap.size ≤ k_) ∧ some k_ ≠ (.slice (some ad592) t589.length co7 : Value).ownBlock)) (by (with_reducible repeat (first | apply Kd.N_alloc | apply Kd.N_drewN | apply Kd.N_drew)); exact Kd.N_mono HO595.out (fun _ hk => ⟨⟨hk.1, hk.2.2⟩, hk.2.1⟩)) hg hat); have n3_ := Aside0.mk (hb); have n4_ := Aside0.mk (ho); clear HO_10; clear HL592_0; clear HO595; clear HB; clear HO_5; have HO_10 := n0_; have HL592_0 := n1_; have HO595 := n2_; have HB := n3_; have HO598 := n4_; clear n0_ n1_ n2_ n3_ n4_; clear ho hb hg hat))
       go_roundg k1
       case measure => have := HK1.out; omega
       case rel => exact ⟨(y596), (wrap64 (x12_1 + 1)), zf, H', ⟨by have := HK1.out; omega⟩, ⟨by (with_reducible repeat (first | apply Kd.N_alloc | apply Kd.N_drewN | apply Kd.N_drew)); exact HO598.out⟩, ⟨by (with_reducible repeat (first | apply Kd.N_alloc | apply Kd.N_drewN | apply Kd.N_drew)); exact Kd.N_mono HO_10.out (fun _ hk => ⟨hk.1.1, hk.2⟩)⟩, ⟨zb⟩⟩
      ·rw [if_neg c12] at H
       exact absurd H (by simp)
     ·rw [if_neg c10] at H
      exact absurd H (by simp)
    ·rw [if_neg c9] at H
     exact absurd H (by simp)
   ·rw [if_neg c8] at H
    have c8b0 : decide (x12_1 < (t589.length : Int)) = false := decide_eq_false c8
    clear c8
    obtain rfl := Option.some.inj H
    go_wp2
    go_ret
    exact ⟨_, ze, by (with_reducible repeat (first | apply Kd.N_alloc | apply Kd.N_drewN | apply Kd.N_drew)); exact Kd.N_mono HO_5.out (fun _ hk => hk.1), zb⟩
def grid_whole.f (l0 : List (S60)) (a1 : Int) : Option (Bool) := if 0 ≤ a1 then (if a1 < (l0.length : Int) then (if ((rd_T60 l0 a1).f1) = 2 then (if (wrap64 (a1 + 1)) < (l0.length : Int) then (if 0 ≤ (wrap64 (a1 + 1)) then (some (((rd_T60 l0 (wrap64 (a1 + 1))).f1) == 0)) else (none)) else (some false)) else (if ((rd_T60 l0 a1).f1) = 0 then (if a1 > 0 then (if 0 ≤ (wrap64 (a1 - 1)) then (if (wrap64 (a1 - 1)) < (l0.length : Int) then (some (((rd_T60 l0 (wrap64 (a1 - 1))).f1) == 2)) else (none)) else (none)) else (some false)) else (some true))) else (none)) else (none)
set_option maxHeartbeats 8000000 in
set_option maxRecDepth 100000 in
theorem grid_whole.calls (A0 : Option Addr) (c0 : Nat) (l0 : List (S60)) (a1 : Int) (r : Bool) (w : World) (hr0 : Kd.C k60 w A0 l0.length l0) (hc0 : l0.length ≤ c0) (h : grid_whole.f l0 a1 = some r) :
  Calls Tryd.prog 71 #[.slice A0 l0.length c0, .int .i64 a1] w fun e w' => e = .returned (.bool r) ∧ Drawn0 w w' := by
 have HR0 := Aside0.mk hr0
 have HC0 := Aside0.mk hc0
 clear hr0 hc0
 have H : (if 0 ≤ a1 then (if a1 < (l0.length : Int) then (if ((rd_T60 l0 a1).f1) = 2 then (if (wrap64 (a1 + 1)) < (l0.length : Int) then (if 0 ≤ (wrap64 (a1 + 1)) then (some (((rd_T60 l0 (wrap64 (a1 + 1))).f1) == 0)) else (none)) else (some false)) else (if ((rd_T60 l0 a1).f1) = 0 then (if a1 > 0 then (if 0 ≤ (wrap64 (a1 - 1)) then (if (wrap64 (a1 - 1)) < (l0.length : Int) then (some (((rd_T60 l0 (wrap64 (a1 - 1))).f1) == 2)) else (none)) else (none)) else (some false)) else (some true))) else (none)) else (none)) = some r := h
 clear h
 by_cases c3 : 0 ≤ a1
 ·rw [if_pos c3] at H
  have c3b0 : decide (0 ≤ a1) = true := decide_eq_true c3
  clear c3
  by_cases c4 : a1 < (l0.length : Int)
  ·rw [if_pos c4] at H
   have c4b0 : decide (a1 < (l0.length : Int)) = true := decide_eq_true c4
   clear c4
   by_cases c5 : ((rd_T60 l0 a1).f1) = 2
   ·rw [if_pos c5] at H
    have c5b0 : (((rd_T60 l0 a1).f1) == 2) = true := beq_iff_eq.mpr c5
    have c5b1 : (((rd_T60 l0 a1).f1) != 2) = false := bne_eq_false_iff_eq.mpr c5
    clear c5
    by_cases c6 : (wrap64 (a1 + 1)) < (l0.length : Int)
    ·rw [if_pos c6] at H
     have c6b0 : decide ((wrap64 (a1 + 1)) < (l0.length : Int)) = true := decide_eq_true c6
     clear c6
     obtain ⟨ji7, hji7⟩ : ∃ j_ : Int, (wrap64 (a1 + 1)) = j_ := ⟨_, rfl⟩
     replace H : (if 0 ≤ (ji7) then (some (((rd_T60 l0 (ji7)).f1) == 0)) else (none)) = some r := by first | (rw [hji7] at H; exact H) | (simp only [hji7] at H ⊢; exact H)
     (try rw [hji7] at c6b0)
     have hji7w : (IntKind.i64.wrap (a1 + 1)) = ji7 := (i64_w _).trans hji7
     by_cases c8 : 0 ≤ (ji7)
     ·rw [if_pos c8] at H
      have c8b0 : decide (0 ≤ (ji7)) = true := decide_eq_true c8
      clear c8
      obtain rfl := Option.some.inj H
      have p143 : 0 ≤ (a1 : Int) := of_decide_eq_true za
      have q143 : a1 < (l0.length : Int) := of_decide_eq_true za
      obtain ⟨ad143, e143, hx143_0, hx143_1, hx143_2, hx143_3, hx143_4⟩ := at_T60 HR0.out a1 p143 q143
      cases e143
      replace p143 := eq_true p143
      replace q143 := eq_true q143
      have p144 : 0 ≤ ((ji7) : Int) := of_decide_eq_true za
      have q144 : (ji7) < (l0.length : Int) := of_decide_eq_true za
      obtain ⟨ad144, e144, hx144_0, hx144_1, hx144_2, hx144_3, hx144_4⟩ := at_T60 HR0.out (ji7) p144 q144
      obtain rfl : ad143 = ad144 := (by injection e144)
      replace p144 := eq_true p144
      replace q144 := eq_true q144
      go_enter Tryd.func71, Tryd.ntmps71
      go_wp2
      go_ret
      exact ⟨by first | rfl | (simp; done) | (simp only [← hji7] <;> (first | rfl | (simp; done))) | (simp [*]; done) | (simp; simp only [decide_eq_true_eq, eq_iff_iff, iff_true] at *; omega), by repeat (first | exact Drawn0.refl _ | apply Drawn0.step)⟩
     ·rw [if_neg c8] at H
      exact absurd H (by simp)
    ·rw [if_neg c6] at H
     have c6b0 : decide ((wrap64 (a1 + 1)) < (l0.length : Int)) = false := decide_eq_false c6
     clear c6
     obtain rfl := Option.some.inj H
     have p143 : 0 ≤ (a1 : Int) := of_decide_eq_true za
     have q143 : a1 < (l0.length : Int) := of_decide_eq_true za
     obtain ⟨ad143, e143, hx143_0, hx143_1, hx143_2, hx143_3, hx143_4⟩ := at_T60 HR0.out a1 p143 q143
     cases e143
     replace p143 := eq_true p143
     replace q143 := eq_true q143
     go_enter Tryd.func71, Tryd.ntmps71
     go_wp2
     go_ret
     exact ⟨by first | rfl | (simp; done) | (simp [*]; done), by repeat (first | exact Drawn0.refl _ | apply Drawn0.step)⟩
   ·rw [if_neg c5] at H
    have c5b0 : (((rd_T60 l0 a1).f1) == 2) = false := beq_eq_false_iff_ne.mpr c5
    have c5b1 : (((rd_T60 l0 a1).f1) != 2) = true := bne_iff_ne.mpr c5
    by_cases c9 : ((rd_T60 l0 a1).f1) = 0
    ·rw [if_pos c9] at H
     have c9b0 : (((rd_T60 l0 a1).f1) == 0) = true := beq_iff_eq.mpr c9
     have c9b1 : (((rd_T60 l0 a1).f1) != 0) = false := bne_eq_false_iff_eq.mpr c9
     clear c9
     by_cases c10 : a1 > 0
     ·rw [if_pos c10] at H
      have c10b0 : decide (0 < a1) = true := decide_eq_true c10
      clear c10
      obtain ⟨ji11, hji11⟩ : ∃ j_ : Int, (wrap64 (a1 - 1)) = j_ := ⟨_, rfl⟩
      replace H : (if 0 ≤ (ji11) then (if (ji11) < (l0.length : Int) then (some (((rd_T60 l0 (ji11)).f1) == 2)) else (none)) else (none)) = some r := by first | (rw [hji11] at H; exact H) | (simp only [hji11] at H ⊢; exact H)
      have hji11w : (IntKind.i64.wrap (a1 - 1)) = ji11 := (i64_w _).trans hji11
      by_cases c12 : 0 ≤ (ji11)
      ·rw [if_pos c12] at H
       have c12b0 : decide (0 ≤ (ji11)) = true := decide_eq_true c12
       clear c12
       by_cases c13 : (ji11) < (l0.length : Int)
       ·rw [if_pos c13] at H
        have c13b0 : decide ((ji11) < (l0.length : Int)) = true := decide_eq_true c13
        clear c13
        obtain rfl := Option.some.inj H
        have p143 : 0 ≤ (a1 : Int) := of_decide_eq_true za
        have q143 : a1 < (l0.length : Int) := of_decide_eq_true za
        obtain ⟨ad143, e143, hx143_0, hx143_1, hx143_2, hx143_3, hx143_4⟩ := at_T60 HR0.out a1 p143 q143
        cases e143
        replace p143 := eq_true p143
        replace q143 := eq_true q143
        have p145 : 0 ≤ ((ji11) : Int) := of_decide_eq_true za
        have q145 : (ji11) < (l0.length : Int) := of_decide_eq_true za
        obtain ⟨ad145, e145, hx145_0, hx145_1, hx145_2, hx145_3, hx145_4⟩ := at_T60 HR0.out (ji11) p145 q145
        obtain rfl : ad143 = ad145 := (by injection e145)
        replace p145 := eq_true p145
        replace q145 := eq_true q145
        go_enter Tryd.func71, Tryd.ntmps71
        go_wp2
        go_ret
        exact ⟨by first | rfl | (simp; done) | (simp only [← hji11] <;> (first | rfl | (simp; done))) | (simp [*]; done) | (simp; simp only [decide_eq_true_eq, eq_iff_iff, iff_true] at *; omega), by repeat (first | exact Drawn0.refl _ | apply Drawn0.step)⟩
       ·rw [if_neg c13] at H
        exact absurd H (by simp)
      ·rw [if_neg c12] at H
       exact absurd H (by simp)
     ·rw [if_neg c10] at H
      have c10b0 : decide (0 < a1) = false := decide_eq_false c10
      clear c10
      obtain rfl := Option.some.inj H
      have p143 : 0 ≤ (a1 : Int) := of_decide_eq_true za
      have q143 : a1 < (l0.length : Int) := of_decide_eq_true za
      obtain ⟨ad143, e143, hx143_0, hx143_1, hx143_2, hx143_3, hx143_4⟩ := at_T60 HR0.out a1 p143 q143
      cases e143
      replace p143 := eq_true p143
      replace q143 := eq_true q143
      go_enter Tryd.func71, Tryd.ntmps71
      go_wp2
      go_ret
      exact ⟨by first | rfl | (simp; done) | (simp [*]; done), by repeat (first | exact Drawn0.refl _ | apply Drawn0.step)⟩
    ·rw [if_neg c9] at H
     have c9b0 : (((rd_T60 l0 a1).f1) == 0) = false := beq_eq_false_iff_ne.mpr c9
     have c9b1 : (((rd_T60 l0 a1).f1) != 0) = true := bne_iff_ne.mpr c9
     obtain rfl := Option.some.inj H
     have p143 : 0 ≤ (a1 : Int) := of_decide_eq_true za
     have q143 : a1 < (l0.length : Int) := of_decide_eq_true za
     obtain ⟨ad143, e143, hx143_0, hx143_1, hx143_2, hx143_3, hx143_4⟩ := at_T60 HR0.out a1 p143 q143
     cases e143
     replace p143 := eq_true p143
     replace q143 := eq_true q143
     go_enter Tryd.func71, Tryd.ntmps71
     go_wp2
     go_ret
     exact ⟨by first | rfl | (simp; done) | (simp [*]; done), by repeat (first | exact Drawn0.refl _ | apply Drawn0.step)⟩
  ·rw [if_neg c4] at H
   exact absurd H (by simp)
 ·rw [if_neg c3] at H
  exact absurd H (by simp)
def cell_in.f (a0 : Int) (a1 : Int) (a2 : Int) : Option (Bool) := if a0 ≥ a1 then (some (decide (a0 ≤ a2))) else (some false)
set_option maxHeartbeats 8000000 in
set_option maxRecDepth 100000 in
theorem cell_in.calls (a0 : Int) (a1 : Int) (a2 : Int) (r : Bool) (w : World) (h : cell_in.f a0 a1 a2 = some r) :
  Calls Tryd.prog 84 #[.int .i64 a0, .int .i64 a1, .int .i64 a2] w fun e w' => e = .returned (.bool r) ∧ Drawn0 w w' := by
 have H : (if a0 ≥ a1 then (some (decide (a0 ≤ a2))) else (some false)) = some r := h
 clear h
 by_cases c4 : a0 ≥ a1
 ·rw [if_pos c4] at H
  have c4b0 : decide (a1 ≤ a0) = true := decide_eq_true c4
  clear c4
  obtain rfl := Option.some.inj H
  go_enter Tryd.func84, Tryd.ntmps84
  go_wp2
  go_ret
  exact ⟨by first | rfl | (simp; done) | (simp [*]; done), by repeat (first | exact Drawn0.refl _ | apply Drawn0.step)⟩
 ·rw [if_neg c4] at H
  have c4b0 : decide (a1 ≤ a0) = false := decide_eq_false c4
  clear c4
  obtain rfl := Option.some.inj H
  go_enter Tryd.func84, Tryd.ntmps84
  go_wp2
  go_ret
  exact ⟨by first | rfl | (simp; done) | (simp [*]; done), by repeat (first | exact Drawn0.refl _ | apply Drawn0.step)⟩
def cell_Look.f (a0_0 : Int) (a0_1 : Int) (a0_2 : Int) : Option (Bool) := (cell_in.f a0_0 0 256).bind fun t121 => (if t121 = true then ((cell_in.f a0_1 0 256).bind fun t122 => (if t122 = true then ((cell_in.f a0_2 0 255).bind fun t123 => (some t123)) else (some false))) else (some false))
set_option maxHeartbeats 8000000 in
set_option maxRecDepth 100000 in
theorem cell_Look.calls (a0_0 : Int) (a0_1 : Int) (a0_2 : Int) (r : Bool) (w : World) (h : cell_Look.f a0_0 a0_1 a0_2 = some r) :
  Calls Tryd.prog 83 #[.agg #[.int .i64 a0_0, .int .i64 a0_1, .int .i64 a0_2]] w fun e w' => e = .returned (.bool r) ∧ Below w.heap.size w w' := by
 have hu58 := Tryd.underlying58
 have HB := Aside0.mk (Below.refl w.heap.size w)
 have H : ((cell_in.f a0_0 0 256).bind fun t121 => (if t121 = true then ((cell_in.f a0_1 0 256).bind fun t122 => (if t122 = true then ((cell_in.f a0_2 0 255).bind fun t123 => (some t123)) else (some false))) else (some false))) = some r := h
 clear h
 replace H := Option.bind_eq_some_iff.mp H
 obtain ⟨t121, A20, H⟩ := H
 replace H : (if t121 = true then ((cell_in.f a0_1 0 256).bind fun t122 => (if t122 = true then ((cell_in.f a0_2 0 255).bind fun t123 => (some t123)) else (some false))) else (some false)) = some r := H
 have A2 := Aside0.mk A20
 clear A20
 by_cases c3 : t121 = true
 ·subst c3
  have H1 : ((cell_in.f a0_1 0 256).bind fun t122 => (if t122 = true then ((cell_in.f a0_2 0 255).bind fun t123 => (some t123)) else (some false))) = some r := by rw [if_pos rfl] at H; exact H
  clear H
  have H := H1
  clear H1
  replace H := Option.bind_eq_some_iff.mp H
  obtain ⟨t122, A40, H⟩ := H
  replace H : (if t122 = true then ((cell_in.f a0_2 0 255).bind fun t123 => (some t123)) else (some false)) = some r := H
  have A4 := Aside0.mk A40
  clear A40
  by_cases c5 : t122 = true
  ·subst c5
   have H1 : ((cell_in.f a0_2 0 255).bind fun t123 => (some t123)) = some r := by rw [if_pos rfl] at H; exact H
   clear H
   have H := H1
   clear H1
   replace H := Option.bind_eq_some_iff.mp H
   obtain ⟨t123, A60, H⟩ := H
   replace H : (some t123) = some r := H
   have A6 := Aside0.mk A60
   clear A60
   obtain rfl := Option.some.inj H
   go_enter Tryd.func83, Tryd.ntmps83
   go_wp2_with (first | ((with_reducible refine gate_dst (N := 1) rfl ?_); refine box_event ?hg (N := 1) ?hd (cs := #[.int .i64 a0_0, .int .i64 a0_1, .int .i64 a0_2]) (t := 58) ?hr ?_; (case hd => rfl); (case hg => rfl); (case hr => exact zo); intro gb120 hg w7 hbox hb; have BK120 := Aside0.mk (hbox); have GW120 := Aside0.mk ((zg hg : w.heap.size ≤ gb120)); have GE120 := Aside0.mk ((zg hg : w.heap.size ≤ gb120)); replace HB := (zs HB hb); clear hb hbox hg; obtain ⟨hcz8_0, hcz8_1, hcz8_2, hfz8_0, hfz8_1, hfz8_2⟩ := zq3 (w := w7) BK120) | ((with_reducible refine gate_callee (f := 84) rfl ?_); refine goesL_ (some 5) rfl rfl Tryd.func84 (by kernel_rfl) rfl #[.int .i64 a0_0, .int .i64 0, .int .i64 256] rfl zl ?_; (with_reducible refine (cell_in.calls a0_0 0 256 true _ A2.out).mono ?_); rintro e w' ⟨rfl, ⟨nd, rfl⟩⟩; refine ⟨_, rfl, ?_⟩) | (go_at_call 84; (with_reducible refine (cell_in.calls a0_1 0 256 true _ A4.out).mono ?_); rintro e w' ⟨rfl, ⟨nd, rfl⟩⟩) | (go_at_call 84; (with_reducible refine (cell_in.calls a0_2 0 255 t123 _ A6.out).mono ?_); rintro e w' ⟨rfl, ⟨nd, rfl⟩⟩))
   go_ret
   exact ⟨ze, zb⟩
  ·replace c5 := Bool.eq_false_iff.mpr c5
   subst c5
   have H1 : (some false) = some r := by rw [if_neg (show ¬ (false = true) by decide)] at H; exact H
   clear H
   have H := H1
   clear H1
   obtain rfl := Option.some.inj H
   go_enter Tryd.func83, Tryd.ntmps83
   go_wp2_with (first | ((with_reducible refine gate_dst (N := 1) rfl ?_); refine box_event ?hg (N := 1) ?hd (cs := #[.int .i64 a0_0, .int .i64 a0_1, .int .i64 a0_2]) (t := 58) ?hr ?_; (case hd => rfl); (case hg => rfl); (case hr => exact zo); intro gb120 hg w9 hbox hb; have BK120 := Aside0.mk (hbox); have GW120 := Aside0.mk ((zg hg : w.heap.size ≤ gb120)); have GE120 := Aside0.mk ((zg hg : w.heap.size ≤ gb120)); replace HB := (zs HB hb); clear hb hbox hg; obtain ⟨hcz10_0, hcz10_1, hcz10_2, hfz10_0, hfz10_1, hfz10_2⟩ := zq3 (w := w9) BK120) | ((with_reducible refine gate_callee (f := 84) rfl ?_); refine goesL_ (some 5) rfl rfl Tryd.func84 (by kernel_rfl) rfl #[.int .i64 a0_0, .int .i64 0, .int .i64 256] rfl zl ?_; (with_reducible refine (cell_in.calls a0_0 0 256 true _ A2.out).mono ?_); rintro e w' ⟨rfl, ⟨nd, rfl⟩⟩; refine ⟨_, rfl, ?_⟩) | (go_at_call 84; (with_reducible refine (cell_in.calls a0_1 0 256 false _ A4.out).mono ?_); rintro e w' ⟨rfl, ⟨nd, rfl⟩⟩))
   go_ret
   exact ⟨ze, zb⟩
 ·replace c3 := Bool.eq_false_iff.mpr c3
  subst c3
  have H1 : (some false) = some r := by rw [if_neg (show ¬ (false = true) by decide)] at H; exact H
  clear H
  have H := H1
  clear H1
  obtain rfl := Option.some.inj H
  go_enter Tryd.func83, Tryd.ntmps83
  go_wp2_with (first | ((with_reducible refine gate_dst (N := 1) rfl ?_); refine box_event ?hg (N := 1) ?hd (cs := #[.int .i64 a0_0, .int .i64 a0_1, .int .i64 a0_2]) (t := 58) ?hr ?_; (case hd => rfl); (case hg => rfl); (case hr => exact zo); intro gb120 hg w11 hbox hb; have BK120 := Aside0.mk (hbox); have GW120 := Aside0.mk ((zg hg : w.heap.size ≤ gb120)); have GE120 := Aside0.mk ((zg hg : w.heap.size ≤ gb120)); replace HB := (zs HB hb); clear hb hbox hg; obtain ⟨hcz12_0, hcz12_1, hcz12_2, hfz12_0, hfz12_1, hfz12_2⟩ := zq3 (w := w11) BK120) | ((with_reducible refine gate_callee (f := 84) rfl ?_); refine goesL_ (some 5) rfl rfl Tryd.func84 (by kernel_rfl) rfl #[.int .i64 a0_0, .int .i64 0, .int .i64 256] rfl zl ?_; (with_reducible refine (cell_in.calls a0_0 0 256 false _ A2.out).mono ?_); rintro e w' ⟨rfl, ⟨nd, rfl⟩⟩; refine ⟨_, rfl, ?_⟩))
  go_ret
  exact ⟨ze, zb⟩
end Go.Proofs.YtckkdaehmccjlaaDoor.P
namespace Go.Proofs.YtckkdaehmccjlaaDoor.P
open Go.RowKit Go.Proofs.YtckkdaehmccjlaaDoorW.PrintWords Go.Proofs.YtckkdaehmccjlaaDoorW.PrintLast Go.Proofs.YtckkdaehmccjlaaDoorW.PrintMore
def utf8_DecodeRuneInString.f (a0 : ByteArray) : Option (Int × Int) := some ((Lib.decodeGo a0).1, (Lib.decodeGo a0).2)
theorem utf8_DecodeRuneInString.calls (a0 : ByteArray) (r1 : Int) (r2 : Int) (w : World) (h : utf8_DecodeRuneInString.f a0 = some (r1, r2)) (hT : Tabs w := by first | exact Aside0.out (by with_reducible assumption) | exact Tabs.keepA (by with_reducible assumption) (by repeat (first | (with_reducible exact Aside0.out (by with_reducible assumption)) | (with_reducible apply below_alloc) | (with_reducible apply pw_below_drewN) | (with_reducible apply below_drew1) | (with_reducible refine below_set ?_ (Aside0.out (by with_reducible assumption)))))) :
    Calls Tryd.prog 103 #[.string a0] w fun e w' => e = .returned (.tuple #[.int .i32 r1, .int .i64 r2]) ∧ Below w.heap.size w w' := by
  have e := Option.some.inj h
  have e1 : ((Lib.decodeGo a0).1 : Int) = r1 := congrArg Prod.fst e
  have e2 : ((Lib.decodeGo a0).2 : Int) = r2 := congrArg Prod.snd e
  subst e1; subst e2
  exact Tryd.utf8_DecodeRuneInString a0 w hT.utf8
def fullN (n b0 b1 b2 : Nat) : Bool :=
  if n = 0 then false else if Lib.firstT b0 % 8 ≤ n then true
  else if 1 < n ∧ (b1 < Lib.accLo (Lib.firstT b0 / 16) ∨ Lib.accHi (Lib.firstT b0 / 16) < b1) then true
  else if 2 < n ∧ (b2 < 128 ∨ 191 < b2) then true else false
def utf8_FullRuneInString.f (a0 : ByteArray) : Option Bool := some (fullN a0.size (a0.get! 0).toNat (a0.get! 1).toNat (a0.get! 2).toNat)
open Go.Lib in
set_option maxHeartbeats 4000000 in
set_option maxRecDepth 100000 in
theorem full_any (s : ByteArray) (w : World) (hT : Tabs w) :
    Calls Tryd.prog 102 #[.string s] w fun e w' => e = .returned (.bool (fullN s.size (s.get! 0).toNat (s.get! 1).toNat (s.get! 2).toNat)) ∧ Below w.heap.size w w' := by
  by_cases h0 : s.size = 0
  · rw [show fullN s.size (s.get! 0).toNat (s.get! 1).toNat (s.get! 2).toNat = false by simp [fullN, h0]]
    go_enter Tryd.func102, Tryd.ntmps102
    go_wp2
    go_ret
    exact ⟨rfl, Below.refl _ _⟩
  · have hz0 : (0 : Int) < (s.size : Int) := by omega
    have hz0' : ((s.size : Int) == 0) = false := by simpa using h0
    obtain ⟨x0, hx0⟩ : ∃ x0, s.get! 0 = x0 := ⟨_, rfl⟩
    obtain ⟨x1, hx1⟩ : ∃ x1, s.get! 1 = x1 := ⟨_, rfl⟩
    obtain ⟨x2, hx2⟩ : ∃ x2, s.get! 2 = x2 := ⟨_, rfl⟩
    have hs0 : s[0]'(by omega) = x0 := by rw [← hx0]; exact (Utf8W.get!_of_lt s 0 (by omega)).symm
    have l0 := x0.toNat_lt; have l1 := x1.toNat_lt; have l2 := x2.toNat_lt
    rw [hx0, hx1, hx2]
    have hc0 := hT.utf8.1 x0.toNat (by omega)
    have hfc := Lib.firstT_cases x0.toNat
    by_cases hfull : firstT x0.toNat % 8 ≤ s.size
    · rw [show fullN s.size x0.toNat x1.toNat x2.toNat = true by simp [fullN, h0, hfull]]
      clear hT
      rcases hfc with hX | hX | hX | hX | hX | hX | hX | hX | hX
      all_goals
        rw [hX] at hc0 hfull
        clear hX h0
        simp only [Nat.reduceMod] at hfull
        have hfz := hfull
        go_enter Tryd.func102, Tryd.ntmps102
        go_wp2
        (go_ret; exact ⟨rfl, Below.refl _ _⟩)
    · have hcase : s.size = 1 ∨ s.size = 2 ∨ s.size = 3 := by
        rcases hfc with hX | hX | hX | hX | hX | hX | hX | hX | hX <;> rw [hX] at hfull <;> omega
      have hres : fullN s.size x0.toNat x1.toNat x2.toNat = (if 1 < s.size ∧ (x1.toNat < Lib.accLo (Lib.firstT x0.toNat / 16) ∨ Lib.accHi (Lib.firstT x0.toNat / 16) < x1.toNat) then true
          else if 2 < s.size ∧ (x2.toNat < 128 ∨ 191 < x2.toNat) then true else false) := by
        unfold fullN; rw [if_neg h0, if_neg hfull]
      rw [hres]
      clear hres
      rcases hcase with hn | hn | hn
      · rw [if_neg (by omega), if_neg (by omega)]
        rcases hfc with hX | hX | hX | hX | hX | hX | hX | hX | hX
        all_goals
          have ha0 := (hT.utf8.2 (firstT x0.toNat / 16) (by rw [hX]; omega)).1
          have ha1 := (hT.utf8.2 (firstT x0.toNat / 16) (by rw [hX]; omega)).2
          rw [hX] at hc0 hfull ha0 ha1
          simp only [accLo, accHi, Nat.reduceMul, Nat.reduceAdd, Nat.reduceEqDiff, if_true, if_false, Nat.reduceMod, Nat.reduceDiv] at ha0 ha1 hfull
          rw [hn] at hfull
          clear hT hX h0 hz0'
          first
          | (exfalso; omega)
          | (clear hfull
             have hn1d : decide ((1 : Int) < (s.size : Int)) = false := by rw [hn]; rfl
             have hn2d : decide ((2 : Int) < (s.size : Int)) = false := by rw [hn]; rfl
             go_enter Tryd.func102, Tryd.ntmps102
             go_wp2
             go_quiet (fail)
             go_wp2
             go_ret
             exact ⟨rfl, (((Below.refl _ _).alloc (Nat.le_refl _) _).trans (pw_below_drewN (Below.refl _ _) _))⟩)
      · have hz1 : (1 : Int) < (s.size : Int) := by omega
        have hs1 : s[1]'(by omega) = x1 := by rw [← hx1]; exact (Utf8W.get!_of_lt s 1 (by omega)).symm
        rcases hfc with hX | hX | hX | hX | hX | hX | hX | hX | hX
        all_goals
          have ha0 := (hT.utf8.2 (firstT x0.toNat / 16) (by rw [hX]; omega)).1
          have ha1 := (hT.utf8.2 (firstT x0.toNat / 16) (by rw [hX]; omega)).2
          rw [hX] at hc0 hfull ha0 ha1 ⊢
          simp only [Nat.reduceMul, Nat.reduceAdd, Nat.reduceMod, Nat.reduceDiv] at ha0 ha1 hfull ⊢
          clear hT hX h0 hz0'
          first
          | (exfalso; omega)
          | (clear hfull
             generalize accLo _ = LO at ha0 ⊢
             generalize accHi _ = HI at ha1 ⊢
             have hn1d : decide ((1 : Int) < (s.size : Int)) = true := decide_eq_true hz1
             have hn2d : decide ((2 : Int) < (s.size : Int)) = false := by rw [hn]; rfl
             by_cases hl : x1.toNat < LO
             · rw [if_pos ⟨by omega, .inl hl⟩]
               have hld : decide (x1.toNat < LO) = true := decide_eq_true (by omega)
               clear hl
               go_enter Tryd.func102, Tryd.ntmps102
               go_wp2
               go_quiet (fail)
               go_wp2
               go_ret
               exact ⟨rfl, (((Below.refl _ _).alloc (Nat.le_refl _) _).trans (pw_below_drewN (Below.refl _ _) _))⟩
             · have hld : decide (x1.toNat < LO) = false := decide_eq_false (by omega)
               by_cases hh : HI < x1.toNat
               · rw [if_pos ⟨by omega, .inr hh⟩]
                 have hhd : decide (HI < x1.toNat) = true := decide_eq_true (by omega)
                 clear hl hh
                 go_enter Tryd.func102, Tryd.ntmps102
                 go_wp2
                 go_quiet (fail)
                 go_wp2
                 go_ret
                 exact ⟨rfl, (((Below.refl _ _).alloc (Nat.le_refl _) _).trans (pw_below_drewN (Below.refl _ _) _))⟩
               · rw [if_neg (fun h => h.2.elim hl hh), if_neg (by omega)]
                 have hhd : decide (HI < x1.toNat) = false := decide_eq_false (by omega)
                 clear hl hh
                 go_enter Tryd.func102, Tryd.ntmps102
                 go_wp2
                 go_quiet (fail)
                 go_wp2
                 go_ret
                 exact ⟨rfl, (((Below.refl _ _).alloc (Nat.le_refl _) _).trans (pw_below_drewN (Below.refl _ _) _))⟩)
      · have hz1 : (1 : Int) < (s.size : Int) := by omega
        have hz2 : (2 : Int) < (s.size : Int) := by omega
        have hs1 : s[1]'(by omega) = x1 := by rw [← hx1]; exact (Utf8W.get!_of_lt s 1 (by omega)).symm
        have hs2 : s[2]'(by omega) = x2 := by rw [← hx2]; exact (Utf8W.get!_of_lt s 2 (by omega)).symm
        rcases hfc with hX | hX | hX | hX | hX | hX | hX | hX | hX
        all_goals
          have ha0 := (hT.utf8.2 (firstT x0.toNat / 16) (by rw [hX]; omega)).1
          have ha1 := (hT.utf8.2 (firstT x0.toNat / 16) (by rw [hX]; omega)).2
          rw [hX] at hc0 hfull ha0 ha1 ⊢
          simp only [Nat.reduceMul, Nat.reduceAdd, Nat.reduceMod, Nat.reduceDiv] at ha0 ha1 hfull ⊢
          clear hT hX h0 hz0'
          first
          | (exfalso; omega)
          | (clear hfull
             generalize accLo _ = LO at ha0 ⊢
             generalize accHi _ = HI at ha1 ⊢
             have hn1d : decide ((1 : Int) < (s.size : Int)) = true := decide_eq_true hz1
             have hn2d : decide ((2 : Int) < (s.size : Int)) = true := decide_eq_true hz2
             by_cases hl : x1.toNat < LO
             · rw [if_pos ⟨by omega, .inl hl⟩]
               have hld : decide (x1.toNat < LO) = true := decide_eq_true (by omega)
               clear hl
               go_enter Tryd.func102, Tryd.ntmps102
               go_wp2
               go_quiet (fail)
               go_wp2
               go_ret
               exact ⟨rfl, (((Below.refl _ _).alloc (Nat.le_refl _) _).trans (pw_below_drewN (Below.refl _ _) _))⟩
             · have hld : decide (x1.toNat < LO) = false := decide_eq_false (by omega)
               by_cases hh : HI < x1.toNat
               · rw [if_pos ⟨by omega, .inr hh⟩]
                 have hhd : decide (HI < x1.toNat) = true := decide_eq_true (by omega)
                 clear hl hh
                 go_enter Tryd.func102, Tryd.ntmps102
                 go_wp2
                 go_quiet (fail)
                 go_wp2
                 go_ret
                 exact ⟨rfl, (((Below.refl _ _).alloc (Nat.le_refl _) _).trans (pw_below_drewN (Below.refl _ _) _))⟩
               · rw [if_neg (fun h => h.2.elim hl hh)]
                 have hhd : decide (HI < x1.toNat) = false := decide_eq_false (by omega)
                 clear hl hh
                 by_cases h2l : x2.toNat < 128
                 · rw [if_pos ⟨by omega, .inl h2l⟩]
                   have h2ld : decide ((x2.toNat : Int) < 128) = true := decide_eq_true (by omega)
                   clear h2l
                   go_enter Tryd.func102, Tryd.ntmps102
                   go_wp2
                   go_quiet (fail)
                   go_wp2
                   go_ret
                   exact ⟨rfl, (((Below.refl _ _).alloc (Nat.le_refl _) _).trans (pw_below_drewN (Below.refl _ _) _))⟩
                 · have h2ld : decide ((x2.toNat : Int) < 128) = false := decide_eq_false (by omega)
                   by_cases h2h : 191 < x2.toNat
                   · rw [if_pos ⟨by omega, .inr h2h⟩]
                     have h2hd : decide ((191 : Int) < (x2.toNat : Int)) = true := decide_eq_true (by omega)
                     clear h2l h2h
                     go_enter Tryd.func102, Tryd.ntmps102
                     go_wp2
                     go_quiet (fail)
                     go_wp2
                     go_ret
                     exact ⟨rfl, (((Below.refl _ _).alloc (Nat.le_refl _) _).trans (pw_below_drewN (Below.refl _ _) _))⟩
                   · rw [if_neg (fun h => h.2.elim h2l h2h)]
                     have h2hd : decide ((191 : Int) < (x2.toNat : Int)) = false := decide_eq_false (by omega)
                     clear h2l h2h
                     go_enter Tryd.func102, Tryd.ntmps102
                     go_wp2
                     go_quiet (fail)
                     go_wp2
                     go_ret
                     exact ⟨rfl, (((Below.refl _ _).alloc (Nat.le_refl _) _).trans (pw_below_drewN (Below.refl _ _) _))⟩)
theorem utf8_FullRuneInString.calls (a0 : ByteArray) (r : Bool) (w : World) (h : utf8_FullRuneInString.f a0 = some r) (hT : Tabs w := by first | exact Aside0.out (by with_reducible assumption) | exact Tabs.keepA (by with_reducible assumption) (by repeat (first | (with_reducible exact Aside0.out (by with_reducible assumption)) | (with_reducible apply below_alloc) | (with_reducible apply pw_below_drewN) | (with_reducible apply below_drew1) | (with_reducible refine below_set ?_ (Aside0.out (by with_reducible assumption)))))) :
    Calls Tryd.prog 102 #[.string a0] w fun e w' => e = .returned (.bool r) ∧ Below w.heap.size w w' := by
  have e := Option.some.inj h
  subst e
  exact full_any a0 w hT
end Go.Proofs.YtckkdaehmccjlaaDoor.P
namespace Go.Proofs.YtckkdaehmccjlaaDoor.P
open Go.RowKit Go.Proofs.YtckkdaehmccjlaaDoorW.PrintWords Go.Proofs.YtckkdaehmccjlaaDoorW.PrintLast Go.Proofs.YtckkdaehmccjlaaDoorW.PrintMore
attribute [local go_sem] max2_int min2_int max_two min_two max_three min_three max_four min_four   -- for this text's walks alone
set_option linter.unusedVariables false
set_option linter.unusedSimpArgs false
mutual
def utf_First.j0 : Nat → ByteArray → Int → Int → Bool → Option (Int × Int × Int)
 | 0, _, _, _, _ => none
 | k + 1, x0, x5, x6, x20 => if x20 = true then (some (x5, x6, 0)) else (utf_First.l0 k x0 x6)
def utf_First.l0 : Nat → ByteArray → Int → Option (Int × Int × Int)
 | 0, _, _ => none
 | k + 1, x0, x6 => if x6 < (x0.size : Int) then (if 0 ≤ (wrap64 (x6 + 1)) then (if (wrap64 (x6 + 1)) ≤ (x0.size : Int) then ((utf8_FullRuneInString.f (x0.extract 0 ((wrap64 (x6 + 1)) : Int).toNat)).bind fun t127 => (if t127 = true then (some (0, x6, 4)) else (utf_First.l0 k x0 (wrap64 (x6 + 1))))) else (none)) else (none)) else (some (0, x6, 4))
end
def utf_First.f (k : Nat) (a0 : ByteArray) : Option (Int × Int × Int) := (utf8_FullRuneInString.f a0).bind fun t124 => (if t124 = true then ((utf8_DecodeRuneInString.f a0).bind fun bt125 => (if bt125.1 = 65533 then (utf_First.j0 k a0 bt125.1 bt125.2 (decide (bt125.2 > 1))) else (utf_First.j0 k a0 bt125.1 bt125.2 true))) else (some (0, 0, 2)))
set_option maxHeartbeats 8000000 in
set_option maxRecDepth 100000 in
theorem utf_First.calls (k : Nat) (a0 : ByteArray) (r1 : Int) (r2 : Int) (r3 : Int) (w : World) (h : utf_First.f k a0 = some (r1, r2, r3)) (hT : Tabs w := by first | exact Aside0.out (by with_reducible assumption) | exact Tabs.keepA (by with_reducible assumption) (by repeat (first | (with_reducible exact Aside0.out (by with_reducible assumption)) | (with_reducible apply below_alloc) | (with_reducible apply pw_below_drewN) | (with_reducible apply below_drew1) | (with_reducible refine below_set ?_ (Aside0.out (by with_reducible assumption)))))) :
  Calls Tryd.prog 85 #[.string a0] w fun e w' => e = .returned (.tuple #[.int .i32 r1, .int .i64 r2, .int .i64 r3]) ∧ Below w.heap.size w w' := by
 have HT := Aside0.mk (show Tabs w from hT)
 clear hT
 have HB := Aside0.mk (Below.refl w.heap.size w)
 have H : ((utf8_FullRuneInString.f a0).bind fun t124 => (if t124 = true then ((utf8_DecodeRuneInString.f a0).bind fun bt125 => (if bt125.1 = 65533 then (utf_First.j0 k a0 bt125.1 bt125.2 (decide (bt125.2 > 1))) else (utf_First.j0 k a0 bt125.1 bt125.2 true))) else (some (0, 0, 2)))) = some (r1, r2, r3) := h
 clear h
 replace H := Option.bind_eq_some_iff.mp H
 obtain ⟨t124, A20, H⟩ := H
 replace H : (if t124 = true then ((utf8_DecodeRuneInString.f a0).bind fun bt125 => (if bt125.1 = 65533 then (utf_First.j0 k a0 bt125.1 bt125.2 (decide (bt125.2 > 1))) else (utf_First.j0 k a0 bt125.1 bt125.2 true))) else (some (0, 0, 2))) = some (r1, r2, r3) := H
 have A2 := Aside0.mk A20
 clear A20
 by_cases c3 : t124 = true
 ·subst c3
  have H1 : ((utf8_DecodeRuneInString.f a0).bind fun bt125 => (if bt125.1 = 65533 then (utf_First.j0 k a0 bt125.1 bt125.2 (decide (bt125.2 > 1))) else (utf_First.j0 k a0 bt125.1 bt125.2 true))) = some (r1, r2, r3) := by rw [if_pos rfl] at H; exact H
  clear H
  have H := H1
  clear H1
  replace H := Option.bind_eq_some_iff.mp H
  obtain ⟨⟨t125, t126⟩, A40, H⟩ := H
  replace H : (if t125 = 65533 then (utf_First.j0 k a0 t125 t126 (decide (t126 > 1))) else (utf_First.j0 k a0 t125 t126 true)) = some (r1, r2, r3) := H
  have A4 := Aside0.mk A40
  clear A40
  have HC5 := Aside0.mk H
  clear H
  go_enter Tryd.func85, Tryd.ntmps85
  go_upto_region 4 with (first | ((with_reducible refine gate_callee (f := 102) rfl ?_); refine goesL_ (some 8) rfl rfl Tryd.func102 (by kernel_rfl) rfl #[.string a0] rfl zl ?_; (with_reducible refine (utf8_FullRuneInString.calls a0 true _ A2.out).mono ?_); rintro e w6 ⟨rfl, hb⟩; refine ⟨_, rfl, ?_⟩; replace HB := (zs HB hb); (try clear hb)) | ((with_reducible refine gate_callee (f := 103) rfl ?_); refine goesL_ (some 12) rfl rfl Tryd.func103 (by kernel_rfl) rfl #[.string a0] rfl zl ?_; (with_reducible refine (utf8_DecodeRuneInString.calls a0 t125 t126 _ A4.out).mono ?_); rintro e w7 ⟨rfl, hb⟩; refine ⟨_, rfl, ?_⟩; replace HB := (zs HB hb); (try clear hb)))
  (try simp only [Act.put, List.setIfInBounds_toArray, List.set_cons_zero, List.set_cons_succ])
  go_cut [20] (fun v20 wc => ∃ (kq : Nat) (x20_4 : Bool), v20 = .bool x20_4 ∧ Aside0 (utf_First.j0 kq a0 t125 t126 x20_4 = some (r1, r2, r3)) ∧ Aside0 (kq ≤ k) ∧ Aside0 (Below w.heap.size w wc))
  case first =>
   have H := HC5.out
   clear HC5
   by_cases c8 : t125 = 65533
   ·rw [if_pos c8] at H
    have c8b0 : (t125 == 65533) = true := beq_iff_eq.mpr c8
    have c8b1 : (t125 != 65533) = false := bne_eq_false_iff_eq.mpr c8
    clear c8
    (first | rw [c8b0] | (simp only [i64_w, i32_w]; rw [c8b0]) | skip)
    have H' := Aside0.mk H
    clear H
    go_wp2
    go_meet
    case rel => exact ⟨_, (decide (t126 > 1)), zf, H', ⟨by first | omega | exact Nat.le_refl _⟩, ⟨zb⟩⟩
   ·rw [if_neg c8] at H
    have c8b0 : (t125 == 65533) = false := beq_eq_false_iff_ne.mpr c8
    have c8b1 : (t125 != 65533) = true := bne_iff_ne.mpr c8
    (first | rw [c8b0] | (simp only [i64_w, i32_w]; rw [c8b0]) | skip)
    have H' := Aside0.mk H
    clear H
    go_wp2
    go_meet
    case rel => exact ⟨_, (true), zf, H', ⟨by first | omega | exact Nat.le_refl _⟩, ⟨zb⟩⟩
  case rest =>
   clear HC5
   try clear c3
   obtain ⟨kq, x20_4, rfl, HA, HJ4, HB⟩ := hcut
   cases kq with
   | zero => exact absurd HA.out (by simp [utf_First.j0])
   | succ kj4 =>
    have H := HA.out
    clear HA
    simp only [utf_First.j0] at H
    by_cases c9 : x20_4 = true
    ·subst c9
     have H1 : (some (t125, t126, 0)) = some (r1, r2, r3) := by rw [if_pos rfl] at H; exact H
     clear H
     have H := H1
     clear H1
     simp only [Option.some.injEq, Prod.mk.injEq] at H
     obtain ⟨rfl, rfl, rfl⟩ := H
     go_wp2
     go_ret3
     exact ⟨ze, zb⟩
    ·replace c9 := Bool.eq_false_iff.mpr c9
     subst c9
     have H1 : (utf_First.l0 kj4 a0 t126) = some (r1, r2, r3) := by rw [if_neg (show ¬ (false = true) by decide)] at H; exact H
     clear H
     have H := H1
     clear H1
     have H' := Aside0.mk H
     clear H
     go_wp2
     go_loopg [6] kj4 (fun kq v6 w' => ∃ (x6_2 : Int), v6 = .int .i64 x6_2 ∧ Aside0 (utf_First.l0 kq a0 x6_2 = some (r1, r2, r3)) ∧ Aside0 (kq ≤ kj4) ∧ Aside0 (Below w.heap.size w w'))
     case atStart => exact ⟨(t126), zf, H', ⟨Nat.le_refl _⟩, ⟨zb⟩⟩
     case round =>
      clear H'
      try clear c3
      try clear c9
      obtain ⟨x6_2, rfl, HA, HK2, HB⟩ := hrel
      cases gk with
      | zero => exact absurd HA.out (by simp [utf_First.l0])
      | succ k2 =>
       have H := HA.out
       clear HA
       simp only [utf_First.l0] at H
       by_cases c10 : x6_2 < (a0.size : Int)
       ·rw [if_pos c10] at H
        have c10b0 : decide (x6_2 < (a0.size : Int)) = true := decide_eq_true c10
        clear c10
        obtain ⟨ji11, hji11⟩ : ∃ j_ : Int, (wrap64 (x6_2 + 1)) = j_ := ⟨_, rfl⟩
        replace H : (if 0 ≤ (ji11) then (if (ji11) ≤ (a0.size : Int) then ((utf8_FullRuneInString.f (a0.extract 0 ((ji11) : Int).toNat)).bind fun t127 => (if t127 = true then (some (0, x6_2, 4)) else (utf_First.l0 k2 a0 ji11))) else (none)) else (none)) = some (r1, r2, r3) := by first | (rw [hji11] at H; exact H) | (simp only [hji11] at H ⊢; exact H)
        have hji11w : (IntKind.i64.wrap (x6_2 + 1)) = ji11 := (i64_w _).trans hji11
        by_cases c12 : 0 ≤ (ji11)
        ·rw [if_pos c12] at H
         have c12b0 := eq_true c12
         have c12b1 : decide (0 ≤ (ji11)) = true := decide_eq_true c12
         clear c12
         by_cases c13 : (ji11) ≤ (a0.size : Int)
         ·rw [if_pos c13] at H
          have c13b0 := eq_true c13
          have c13b1 : decide ((ji11) ≤ (a0.size : Int)) = true := decide_eq_true c13
          clear c13
          replace H := Option.bind_eq_some_iff.mp H
          obtain ⟨t127, A140, H⟩ := H
          replace H : (if t127 = true then (some (0, x6_2, 4)) else (utf_First.l0 k2 a0 ji11)) = some (r1, r2, r3) := H
          have A14 := Aside0.mk A140
          clear A140
          by_cases c15 : t127 = true
          ·subst c15
           have H1 : (some (0, x6_2, 4)) = some (r1, r2, r3) := by rw [if_pos rfl] at H; exact H
           clear H
           have H := H1
           clear H1
           simp only [Option.some.injEq, Prod.mk.injEq] at H
           obtain ⟨rfl, rfl, rfl⟩ := H
           go_wp2_with (first | (go_at_call 102; (with_reducible refine (utf8_FullRuneInString.calls (a0.extract 0 ((ji11) : Int).toNat) true _ A14.out).mono ?_); rintro e w16 ⟨rfl, hb⟩; replace HB := (zs HB hb); (try clear hb)))
           go_ret3
           exact ⟨by first | rfl | (simp [errW_none, errW_some] <;> rfl) | (simp only [← hji11]; first | rfl | (simp [errW_none, errW_some] <;> rfl)) | (simp [*, errW_none, errW_some] <;> rfl), zb⟩
          ·replace c15 := Bool.eq_false_iff.mpr c15
           subst c15
           have H1 : (utf_First.l0 k2 a0 ji11) = some (r1, r2, r3) := by rw [if_neg (show ¬ (false = true) by decide)] at H; exact H
           clear H
           have H := H1
           clear H1
           have H' := Aside0.mk H
           clear H
           go_wp2_with (first | (go_at_call 102; (with_reducible refine (utf8_FullRuneInString.calls (a0.extract 0 ((ji11) : Int).toNat) false _ A14.out).mono ?_); rintro e w17 ⟨rfl, hb⟩; replace HB := (zs HB hb); (try clear hb)))
           go_roundg k2
           case measure => have := HJ4.out; have := HK2.out; omega
           case rel => exact ⟨(ji11), (by first | rfl | (simp; done) | (simp only [← hji11] <;> (first | rfl | (simp; done))) | (simp [*]; done) | (simp; simp only [decide_eq_true_eq, eq_iff_iff, iff_true] at *; omega)), H', ⟨by have := HJ4.out; have := HK2.out; omega⟩, ⟨zb⟩⟩
         ·rw [if_neg c13] at H
          exact absurd H (by simp)
        ·rw [if_neg c12] at H
         exact absurd H (by simp)
       ·rw [if_neg c10] at H
        have c10b0 : decide (x6_2 < (a0.size : Int)) = false := decide_eq_false c10
        clear c10
        simp only [Option.some.injEq, Prod.mk.injEq] at H
        obtain ⟨rfl, rfl, rfl⟩ := H
        go_wp2
        go_ret3
        exact ⟨ze, zb⟩
 ·replace c3 := Bool.eq_false_iff.mpr c3
  subst c3
  have H1 : (some (0, 0, 2)) = some (r1, r2, r3) := by rw [if_neg (show ¬ (false = true) by decide)] at H; exact H
  clear H
  have H := H1
  clear H1
  simp only [Option.some.injEq, Prod.mk.injEq] at H
  obtain ⟨rfl, rfl, rfl⟩ := H
  go_enter Tryd.func85, Tryd.ntmps85
  go_wp2_with (first | ((with_reducible refine gate_callee (f := 102) rfl ?_); refine goesL_ (some 8) rfl rfl Tryd.func102 (by kernel_rfl) rfl #[.string a0] rfl zl ?_; (with_reducible refine (utf8_FullRuneInString.calls a0 false _ A2.out).mono ?_); rintro e w18 ⟨rfl, hb⟩; refine ⟨_, rfl, ?_⟩; replace HB := (zs HB hb); (try clear hb)))
  go_ret3
  exact ⟨ze, zb⟩
end Go.Proofs.YtckkdaehmccjlaaDoor.P
namespace Go.Proofs.YtckkdaehmccjlaaDoor.P
open Go.RowKit Go.Proofs.YtckkdaehmccjlaaDoorW.PrintWords Go.Proofs.YtckkdaehmccjlaaDoorW.PrintLast Go.Proofs.YtckkdaehmccjlaaDoorW.PrintMore
set_option linter.unusedVariables false
set_option linter.unusedSimpArgs false
def inAny (r : Int) (xs : List (Int × Int)) : Bool := xs.any fun p => decide (p.1 ≤ r) && decide (r ≤ p.2)
def SpanPost (r : Int) (xs : List (Int × Int)) (w : World) (e : Ending) (w' : World) : Prop :=
  ∃ v : Int, e = .returned (.int .i64 v) ∧ decide (0 ≤ v) = inAny r xs ∧ Below w.heap.size w w'
set_option maxHeartbeats 1000000 in
theorem within_clos (p1 p2 r : Int) (B : Nat) (w : World) (hB : w.cell? ⟨B, 0, none⟩ = some (.int .i32 r)) :
    Calls Tryd.prog 115 #[.agg #[.int .i32 p1, .int .i32 p2], .pointer (some ⟨B, 0, none⟩)] w fun e w' => e = .returned (.bool (decide (p1 ≤ r) && decide (r ≤ p2))) ∧ Below w.heap.size w w' := by
  have hB1 : (w.alloc (.cells #[.int .i32 p1, .int .i32 p2] 151)).cell? ⟨B, 0, none⟩ = some (.int .i32 r) := Lib.cell?_alloc_some _ hB
  by_cases h1 : p1 ≤ r
  · by_cases h2 : r ≤ p2
    · go_enter Tryd.func115, Tryd.ntmps115
      go_wp2
      go_ret
      exact ⟨by simp [h1, h2], (Below.refl _ _).alloc (Nat.le_refl _) _⟩
    · go_enter Tryd.func115, Tryd.ntmps115
      go_wp2
      go_ret
      exact ⟨by simp [h1, h2], (Below.refl _ _).alloc (Nat.le_refl _) _⟩
  · go_enter Tryd.func115, Tryd.ntmps115
    go_wp2
    go_ret
    exact ⟨by rw [decide_eq_false (by omega)]; rfl, (Below.refl _ _).alloc (Nat.le_refl _) _⟩
set_option maxHeartbeats 2000000 in
theorem span_index (r : Int) (B g c : Nat) (xs : List (Int × Int)) (w : World) (hm : xs.length ≤ 1000) (hB : w.cell? ⟨B, 0, none⟩ = some (.int .i32 r))
    (hc : ∀ j, j < xs.length → w.cell? ⟨g, j * 2, none⟩ = some (.int .i32 (xs.getD j (0, 0)).1) ∧ w.cell? ⟨g, j * 2 + 1, none⟩ = some (.int .i32 (xs.getD j (0, 0)).2)) :
    Calls Tryd.prog 120 #[.slice (some ⟨g, 0, none⟩) xs.length c, .func (.func 115) #[] #[.pointer (some ⟨B, 0, none⟩)]] w (SpanPost r xs w) := by
  go_enter Tryd.func120, Tryd.ntmps120
  go_wp2
  go_loopw [5, 8, 9, 10, 11, 12, 13, 14, 15, 16, 18] (fun _ i _ _ _ _ _ _ _ _ _ wr => ∃ k : Nat, k ≤ xs.length ∧ i = .int .i64 k ∧ Aside0 (inAny r (xs.take k) = false) ∧ Aside0 (Below w.heap.size w wr)) (fun _ i _ _ _ _ _ _ _ _ _ _ => xs.length - (intOf i).toNat)
  case atStart => exact ⟨0, Nat.zero_le _, rfl, ⟨rfl⟩, ⟨Below.refl _ _⟩⟩
  case round =>
    obtain ⟨k, hk, rfl, HA, HB⟩ := hrel
    by_cases hlt : k < xs.length
    · have hcell := hc k hlt
      obtain ⟨hc1, hc2⟩ := hcell
      have hw1 := pw_cell_below HB.out hc1
      have hw2 := pw_cell_below HB.out hc2
      have hwB := pw_cell_below HB.out hB
      clear hc hc1 hc2 hB
      have HS : Aside0 (inAny r (xs.take (k + 1)) = (decide ((xs.getD k (0, 0)).1 ≤ r) && decide (r ≤ (xs.getD k (0, 0)).2))) := ⟨by
        have h0 := HA.out
        unfold inAny at h0 ⊢
        rw [List.take_succ_eq_append_getElem hlt, List.any_append, h0]
        simp [List.getD_eq_getElem?_getD, hlt]⟩
      have HT : Aside0 (inAny r (xs.take (k + 1)) = true → inAny r xs = true) := ⟨fun h => by
        unfold inAny at h ⊢
        rw [← List.take_append_drop (k + 1) xs, List.any_append, h]; rfl⟩
      generalize (xs.getD k (0, 0)).1 = p1 at *
      generalize (xs.getD k (0, 0)).2 = p2 at *
      go_wp2_with (go_at_call 115; refine (within_clos p1 p2 r B _ hwB).mono ?_; rintro e w' ⟨rfl, hb⟩)
      · have hy : p1 ≤ r ∧ r ≤ p2 := by assumption
        go_ret
        exact ⟨k, rfl, by rw [HT.out (by rw [HS.out, decide_eq_true hy.1, decide_eq_true hy.2]; rfl)]; exact decide_eq_true (by omega), below_step HB.out hb⟩
      · have hy : r < p1 ∨ p2 < r := by assumption
        go_roundw
        case rel => exact ⟨k + 1, by omega, by go_num, ⟨by rw [HS.out]; rcases hy with hy | hy <;> simp <;> omega⟩, ⟨below_step HB.out hb⟩⟩
        case measure => simp [intOf]; omega
    · go_wp2
      go_ret
      obtain rfl : k = xs.length := by omega
      exact ⟨-1, rfl, by have h0 := HA.out; rw [List.take_length] at h0; rw [h0]; rfl, HB.out⟩
set_option maxHeartbeats 1000000 in
theorem span_contains (r : Int) (B g c : Nat) (xs : List (Int × Int)) (w : World) (hm : xs.length ≤ 1000) (hB : w.cell? ⟨B, 0, none⟩ = some (.int .i32 r))
    (hc : ∀ j, j < xs.length → w.cell? ⟨g, j * 2, none⟩ = some (.int .i32 (xs.getD j (0, 0)).1) ∧ w.cell? ⟨g, j * 2 + 1, none⟩ = some (.int .i32 (xs.getD j (0, 0)).2)) :
    Calls Tryd.prog 114 #[.slice (some ⟨g, 0, none⟩) xs.length c, .func (.func 115) #[] #[.pointer (some ⟨B, 0, none⟩)]] w fun e w' => e = .returned (.bool (inAny r xs)) ∧ Below w.heap.size w w' := by
  have cI := span_index r B g c xs w hm hB hc
  clear hc
  go_enter Tryd.func114, Tryd.ntmps114
  go_wp2_with (go_at_call 120; refine cI.mono ?_; rintro e w' ⟨v, rfl, hv, hb⟩; have HV := Aside0.mk hv; clear hv)
  go_ret
  exact ⟨by rw [← HV.out]; rfl, hb⟩
set_option maxHeartbeats 1000000 in
theorem span_within (r : Int) (g c : Nat) (xs : List (Int × Int)) (w : World) (hm : xs.length ≤ 1000)
    (hc : ∀ j, j < xs.length → w.cell? ⟨g, j * 2, none⟩ = some (.int .i32 (xs.getD j (0, 0)).1) ∧ w.cell? ⟨g, j * 2 + 1, none⟩ = some (.int .i32 (xs.getD j (0, 0)).2)) :
    Calls Tryd.prog 105 #[.slice (some ⟨g, 0, none⟩) xs.length c, .int .i32 r] w fun e w' => e = .returned (.bool (inAny r xs)) ∧ Below w.heap.size w w' := by
  have cI := span_contains r w.heap.size g c xs (w.alloc (.cells #[.int .i32 r] 21)) hm (by rw [World.cell?_alloc_new]; rfl) (fun j hj => ⟨Lib.cell?_alloc_some _ (hc j hj).1, Lib.cell?_alloc_some _ (hc j hj).2⟩)
  clear hc
  go_enter Tryd.func105, Tryd.ntmps105
  go_wp2_with (go_at_call 114; refine cI.mono ?_; rintro e w' ⟨rfl, hb⟩)
  go_ret
  exact ⟨rfl, ((Below.refl _ _).alloc (Nat.le_refl _) _).trans (hb.mono (by simp))⟩
def zeroSpans : List (Int × Int) := [(768, 879), (8203, 8205), (65024, 65039)]
def wideSpans : List (Int × Int) := [(4352, 4447), (12353, 19903), (19968, 40959), (44032, 55203), (63744, 64255), (65281, 65376), (127744, 129791), (131072, 262141)]
theorem zero_calls (w : World) : Calls Tryd.prog 106 #[] w fun e w' => e = .returned (.slice (some ⟨w.heap.size, 0, none⟩) 3 3) ∧
    (∀ j, j < zeroSpans.length → w'.cell? ⟨w.heap.size, j * 2, none⟩ = some (.int .i32 (zeroSpans.getD j (0, 0)).1) ∧ w'.cell? ⟨w.heap.size, j * 2 + 1, none⟩ = some (.int .i32 (zeroSpans.getD j (0, 0)).2)) ∧ Below w.heap.size w w' := by
  go_enter Tryd.func106, Tryd.ntmps106
  go_wp2
  go_ret
  refine ⟨rfl, fun j hj => ?_, (Below.refl _ _).alloc (Nat.le_refl _) _⟩
  have hj' : j = 0 ∨ j = 1 ∨ j = 2 := by have : zeroSpans.length = 3 := rfl; omega
  rcases hj' with rfl | rfl | rfl <;> exact ⟨by rw [World.cell?_alloc_new]; rfl, by rw [World.cell?_alloc_new]; rfl⟩
theorem wide_calls (w : World) : Calls Tryd.prog 107 #[] w fun e w' => e = .returned (.slice (some ⟨w.heap.size, 0, none⟩) 8 8) ∧
    (∀ j, j < wideSpans.length → w'.cell? ⟨w.heap.size, j * 2, none⟩ = some (.int .i32 (wideSpans.getD j (0, 0)).1) ∧ w'.cell? ⟨w.heap.size, j * 2 + 1, none⟩ = some (.int .i32 (wideSpans.getD j (0, 0)).2)) ∧ Below w.heap.size w w' := by
  go_enter Tryd.func107, Tryd.ntmps107
  go_wp2
  go_ret
  refine ⟨rfl, fun j hj => ?_, (Below.refl _ _).alloc (Nat.le_refl _) _⟩
  have hj' : j = 0 ∨ j = 1 ∨ j = 2 ∨ j = 3 ∨ j = 4 ∨ j = 5 ∨ j = 6 ∨ j = 7 := by have : wideSpans.length = 8 := rfl; omega
  rcases hj' with rfl | rfl | rfl | rfl | rfl | rfl | rfl | rfl <;> exact ⟨by rw [World.cell?_alloc_new]; rfl, by rw [World.cell?_alloc_new]; rfl⟩
def noLetter (r : Int) : Bool := !Lib.validRune r || decide (r < 32) || (decide (127 ≤ r) && decide (r < 160))
def utf_Width.f (a0 : Int) : Option Int := some (if noLetter a0 = true then -1 else if inAny a0 zeroSpans = true then 0 else if inAny a0 wideSpans = true then 2 else 1)
set_option maxHeartbeats 4000000 in
theorem width_no (r : Int) (w : World) (h : noLetter r = true) :
    Calls Tryd.prog 86 #[.int .i32 r] w fun e w' => e = .returned (.int .i64 (-1)) ∧ Below w.heap.size w w' := by
  unfold noLetter at h
  by_cases hv : Lib.validRune r = true
  · by_cases h1 : r < 32
    · clear h
      go_enter Tryd.func86, Tryd.ntmps86
      go_wp2_with (go_at_call 104; refine (Tryd.utf8_ValidRune r _).mono ?_; rintro e w' ⟨rfl, rfl⟩; rw [hv])
      go_ret
      exact ⟨rfl, Below.refl _ _⟩
    · have h2 : r ≥ 127 := by simp [hv, h1] at h; omega
      have h3 : r < 160 := by simp [hv, h1] at h; omega
      clear h
      go_enter Tryd.func86, Tryd.ntmps86
      go_wp2_with (go_at_call 104; refine (Tryd.utf8_ValidRune r _).mono ?_; rintro e w' ⟨rfl, rfl⟩; rw [hv])
      go_ret
      exact ⟨rfl, Below.refl _ _⟩
  · have hv' : Lib.validRune r = false := by simpa using hv
    clear h hv
    go_enter Tryd.func86, Tryd.ntmps86
    go_wp2_with (go_at_call 104; refine (Tryd.utf8_ValidRune r _).mono ?_; rintro e w' ⟨rfl, rfl⟩; rw [hv'])
    go_ret
    exact ⟨rfl, Below.refl _ _⟩
theorem within_zero (r : Int) (g : Nat) (w : World) (hc : ∀ j, j < zeroSpans.length → w.cell? ⟨g, j * 2, none⟩ = some (.int .i32 (zeroSpans.getD j (0, 0)).1) ∧ w.cell? ⟨g, j * 2 + 1, none⟩ = some (.int .i32 (zeroSpans.getD j (0, 0)).2)) :
    Calls Tryd.prog 105 #[.slice (some ⟨g, 0, none⟩) 3 3, .int .i32 r] w fun e w' => e = .returned (.bool (inAny r zeroSpans)) ∧ Below w.heap.size w w' := span_within r g 3 zeroSpans w (by decide) hc
theorem within_wide (r : Int) (g : Nat) (w : World) (hc : ∀ j, j < wideSpans.length → w.cell? ⟨g, j * 2, none⟩ = some (.int .i32 (wideSpans.getD j (0, 0)).1) ∧ w.cell? ⟨g, j * 2 + 1, none⟩ = some (.int .i32 (wideSpans.getD j (0, 0)).2)) :
    Calls Tryd.prog 105 #[.slice (some ⟨g, 0, none⟩) 8 8, .int .i32 r] w fun e w' => e = .returned (.bool (inAny r wideSpans)) ∧ Below w.heap.size w w' := span_within r g 8 wideSpans w (by decide) hc
set_option maxHeartbeats 4000000 in
theorem width_yes (r : Int) (w : World) (h : noLetter r = false) :
    Calls Tryd.prog 86 #[.int .i32 r] w fun e w' => e = .returned (.int .i64 (if inAny r zeroSpans = true then 0 else if inAny r wideSpans = true then 2 else 1)) ∧ Below w.heap.size w w' := by
  unfold noLetter at h
  have hv : Lib.validRune r = true := by cases h' : Lib.validRune r <;> simp [h'] at h ⊢
  have h1 : ¬ r < 32 := fun h' => by simp [h'] at h
  have h2 : r < 127 ∨ 160 ≤ r := by simp [hv] at h; omega
  clear h
  have h32 : decide (r < 32) = false := decide_eq_false h1
  clear h1
  rcases h2 with h2 | h2
  all_goals
    first
    | (have h127 : decide (r ≥ 127) = false := decide_eq_false (by omega))
    | (have h127 : decide (r ≥ 127) = true := decide_eq_true (by omega)
       have h160 : decide (r < 160) = false := decide_eq_false (by omega))
    clear h2
    cases hz : inAny r zeroSpans with
    | true =>
      rw [if_pos rfl]
      go_enter Tryd.func86, Tryd.ntmps86
      go_wp2_with (first | (go_at_call 104; refine (Tryd.utf8_ValidRune r _).mono ?_; rintro e w' ⟨rfl, rfl⟩; rw [hv]) | (go_at_call 106; refine (zero_calls _).mono ?_; rintro e w1 ⟨rfl, hc1, hb1⟩; have HC1 := Aside0.mk hc1; have HB1 := Aside0.mk hb1; clear hc1 hb1) | (go_at_call 105; refine (within_zero r _ _ HC1.out).mono ?_; rintro e w2 ⟨rfl, hb2⟩; have HB2 := Aside0.mk hb2; clear hb2; rw [hz]))
      go_ret
      exact ⟨rfl, below_step HB1.out HB2.out⟩
    | false =>
      rw [if_neg (by simp)]
      cases hw : inAny r wideSpans with
      | true =>
        go_enter Tryd.func86, Tryd.ntmps86
        go_wp2_with (first | (go_at_call 104; refine (Tryd.utf8_ValidRune r _).mono ?_; rintro e w' ⟨rfl, rfl⟩; rw [hv]) | (go_at_call 106; refine (zero_calls _).mono ?_; rintro e w1 ⟨rfl, hc1, hb1⟩; have HC1 := Aside0.mk hc1; have HB1 := Aside0.mk hb1; clear hc1 hb1) | (go_at_call 107; refine (wide_calls _).mono ?_; rintro e w3 ⟨rfl, hc3, hb3⟩; have HC3 := Aside0.mk hc3; have HB3 := Aside0.mk hb3; clear hc3 hb3) | (go_at_call 105; ((with_reducible refine (within_wide r _ _ HC3.out).mono ?_); rintro e w4 ⟨rfl, hb4⟩; have HB4 := Aside0.mk hb4; clear hb4; rw [hw])) | (go_at_call 105; ((with_reducible refine (within_zero r _ _ HC1.out).mono ?_); rintro e w2 ⟨rfl, hb2⟩; have HB2 := Aside0.mk hb2; clear hb2; rw [hz])))
        go_ret
        exact ⟨rfl, below_step (below_step (below_step HB1.out HB2.out) HB3.out) HB4.out⟩
      | false =>
        go_enter Tryd.func86, Tryd.ntmps86
        go_wp2_with (first | (go_at_call 104; refine (Tryd.utf8_ValidRune r _).mono ?_; rintro e w' ⟨rfl, rfl⟩; rw [hv]) | (go_at_call 106; refine (zero_calls _).mono ?_; rintro e w1 ⟨rfl, hc1, hb1⟩; have HC1 := Aside0.mk hc1; have HB1 := Aside0.mk hb1; clear hc1 hb1) | (go_at_call 107; refine (wide_calls _).mono ?_; rintro e w3 ⟨rfl, hc3, hb3⟩; have HC3 := Aside0.mk hc3; have HB3 := Aside0.mk hb3; clear hc3 hb3) | (go_at_call 105; ((with_reducible refine (within_wide r _ _ HC3.out).mono ?_); rintro e w4 ⟨rfl, hb4⟩; have HB4 := Aside0.mk hb4; clear hb4; rw [hw])) | (go_at_call 105; ((with_reducible refine (within_zero r _ _ HC1.out).mono ?_); rintro e w2 ⟨rfl, hb2⟩; have HB2 := Aside0.mk hb2; clear hb2; rw [hz])))
        go_ret
        exact ⟨rfl, below_step (below_step (below_step HB1.out HB2.out) HB3.out) HB4.out⟩
theorem utf_Width.calls (a0 : Int) (r : Int) (w : World) (h : utf_Width.f a0 = some r) :
    Calls Tryd.prog 86 #[.int .i32 a0] w fun e w' => e = .returned (.int .i64 r) ∧ Below w.heap.size w w' := by
  have e := Option.some.inj h
  subst e
  cases hn : noLetter a0 with
  | true => rw [if_pos rfl]; exact width_no a0 w hn
  | false => rw [if_neg (by simp)]; exact width_yes a0 w hn
end Go.Proofs.YtckkdaehmccjlaaDoor.P
