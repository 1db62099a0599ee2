/- A part of the proof of a law of this seat: The seat: its types, and that they agree with its program. No condition. -/
import Derived.Test.YtcmiahkfbnojnaaA28
import Derived.Test.YtcmiahkfbnojnaaA20
import Derived.Test.YtcmiahkfbnojnaaProg
import Derived.KernelRfl
set_option linter.all false
set_option linter.unusedVariables false
/-! The seat: its types, and that they agree with its program. -/
namespace Go.Av
open Go.Proofs
def T1 : TI := { size := 1, bytes := 8, agg := false, zero := [.nilfn], kind := .func }
@[simp] theorem T1_size : T1.size = 1 := rfl
@[simp] theorem T1_agg : T1.agg = false := rfl
@[simp] theorem T1_zero : T1.zero = [.nilfn] := rfl
@[simp] theorem T1_kind : T1.kind = .func := rfl
def T2 : TI := { size := 1, bytes := 8, agg := false, zero := [.int .i64 0], kind := .int .i64 }
@[simp] theorem T2_size : T2.size = 1 := rfl
@[simp] theorem T2_agg : T2.agg = false := rfl
@[simp] theorem T2_zero : T2.zero = [.int .i64 0] := rfl
@[simp] theorem T2_kind : T2.kind = .int .i64 := rfl
def T3 : TI := { size := 1, bytes := 8, agg := false, zero := [.int .i64 0], kind := .int .i64 }
@[simp] theorem T3_size : T3.size = 1 := rfl
@[simp] theorem T3_agg : T3.agg = false := rfl
@[simp] theorem T3_zero : T3.zero = [.int .i64 0] := rfl
@[simp] theorem T3_kind : T3.kind = .int .i64 := rfl
def T4 : TI := { size := 1, bytes := 1, agg := false, zero := [.bool false], kind := .bool }
@[simp] theorem T4_size : T4.size = 1 := rfl
@[simp] theorem T4_agg : T4.agg = false := rfl
@[simp] theorem T4_zero : T4.zero = [.bool false] := rfl
@[simp] theorem T4_kind : T4.kind = .bool := rfl
def T5 : TI := { size := 1, bytes := 1, agg := false, zero := [.int .u8 0], kind := .int .u8 }
@[simp] theorem T5_size : T5.size = 1 := rfl
@[simp] theorem T5_agg : T5.agg = false := rfl
@[simp] theorem T5_zero : T5.zero = [.int .u8 0] := rfl
@[simp] theorem T5_kind : T5.kind = .int .u8 := rfl
def T6 : TI := { size := 1, bytes := 1, agg := false, zero := [.int .u8 0], kind := .int .u8 }
@[simp] theorem T6_size : T6.size = 1 := rfl
@[simp] theorem T6_agg : T6.agg = false := rfl
@[simp] theorem T6_zero : T6.zero = [.int .u8 0] := rfl
@[simp] theorem T6_kind : T6.kind = .int .u8 := rfl
def T7 : TI := { size := 4, bytes := 24, agg := true, zero := [.int .i64 0, .int .i64 0, .bool false, .int .u8 0], kind := .struct [(0, 2, 1), (1, 3, 1), (2, 4, 1), (3, 6, 1)] }
@[simp] theorem T7_size : T7.size = 4 := rfl
@[simp] theorem T7_agg : T7.agg = true := rfl
@[simp] theorem T7_zero : T7.zero = [.int .i64 0, .int .i64 0, .bool false, .int .u8 0] := rfl
@[simp] theorem T7_kind : T7.kind = .struct [(0, 2, 1), (1, 3, 1), (2, 4, 1), (3, 6, 1)] := rfl
def T8 : TI := { size := 4, bytes := 24, agg := true, zero := [.int .i64 0, .int .i64 0, .bool false, .int .u8 0], kind := .struct [(0, 2, 1), (1, 3, 1), (2, 4, 1), (3, 6, 1)] }
@[simp] theorem T8_size : T8.size = 4 := rfl
@[simp] theorem T8_agg : T8.agg = true := rfl
@[simp] theorem T8_zero : T8.zero = [.int .i64 0, .int .i64 0, .bool false, .int .u8 0] := rfl
@[simp] theorem T8_kind : T8.kind = .struct [(0, 2, 1), (1, 3, 1), (2, 4, 1), (3, 6, 1)] := rfl
def T9 : TI := { size := 1, bytes := 16, agg := false, zero := [.str []], kind := .str }
@[simp] theorem T9_size : T9.size = 1 := rfl
@[simp] theorem T9_agg : T9.agg = false := rfl
@[simp] theorem T9_zero : T9.zero = [.str []] := rfl
@[simp] theorem T9_kind : T9.kind = .str := rfl
def T10 : TI := { size := 1, bytes := 16, agg := false, zero := [.str []], kind := .str }
@[simp] theorem T10_size : T10.size = 1 := rfl
@[simp] theorem T10_agg : T10.agg = false := rfl
@[simp] theorem T10_zero : T10.zero = [.str []] := rfl
@[simp] theorem T10_kind : T10.kind = .str := rfl
def T11 : TI := { size := 1, bytes := 16, agg := false, zero := [.str []], kind := .str }
@[simp] theorem T11_size : T11.size = 1 := rfl
@[simp] theorem T11_agg : T11.agg = false := rfl
@[simp] theorem T11_zero : T11.zero = [.str []] := rfl
@[simp] theorem T11_kind : T11.kind = .str := rfl
def T12 : TI := { size := 1, bytes := 8, agg := false, zero := [.int .u64 0], kind := .int .u64 }
@[simp] theorem T12_size : T12.size = 1 := rfl
@[simp] theorem T12_agg : T12.agg = false := rfl
@[simp] theorem T12_zero : T12.zero = [.int .u64 0] := rfl
@[simp] theorem T12_kind : T12.kind = .int .u64 := rfl
def T13 : TI := { size := 2, bytes := 24, agg := true, zero := [.str [], .int .u64 0], kind := .struct [(0, 9, 1), (1, 12, 1)] }
@[simp] theorem T13_size : T13.size = 2 := rfl
@[simp] theorem T13_agg : T13.agg = true := rfl
@[simp] theorem T13_zero : T13.zero = [.str [], .int .u64 0] := rfl
@[simp] theorem T13_kind : T13.kind = .struct [(0, 9, 1), (1, 12, 1)] := rfl
def T14 : TI := { size := 2, bytes := 24, agg := true, zero := [.str [], .int .u64 0], kind := .struct [(0, 9, 1), (1, 12, 1)] }
@[simp] theorem T14_size : T14.size = 2 := rfl
@[simp] theorem T14_agg : T14.agg = true := rfl
@[simp] theorem T14_zero : T14.zero = [.str [], .int .u64 0] := rfl
@[simp] theorem T14_kind : T14.kind = .struct [(0, 9, 1), (1, 12, 1)] := rfl
def T15 : TI := { size := 1, bytes := 8, agg := false, zero := [.nil], kind := .ptr 115 }
@[simp] theorem T15_size : T15.size = 1 := rfl
@[simp] theorem T15_agg : T15.agg = false := rfl
@[simp] theorem T15_zero : T15.zero = [.nil] := rfl
@[simp] theorem T15_kind : T15.kind = .ptr 115 := rfl
def T16 : TI := { size := 1, bytes := 8, agg := false, zero := [.nil], kind := .ptr 118 }
@[simp] theorem T16_size : T16.size = 1 := rfl
@[simp] theorem T16_agg : T16.agg = false := rfl
@[simp] theorem T16_zero : T16.zero = [.nil] := rfl
@[simp] theorem T16_kind : T16.kind = .ptr 118 := rfl
def T17 : TI := { size := 1, bytes := 8, agg := false, zero := [.nil], kind := .ptr 125 }
@[simp] theorem T17_size : T17.size = 1 := rfl
@[simp] theorem T17_agg : T17.agg = false := rfl
@[simp] theorem T17_zero : T17.zero = [.nil] := rfl
@[simp] theorem T17_kind : T17.kind = .ptr 125 := rfl
def T18 : TI := { size := 1, bytes := 8, agg := true, zero := [.nil], kind := .struct [(0, 17, 1)] }
@[simp] theorem T18_size : T18.size = 1 := rfl
@[simp] theorem T18_agg : T18.agg = true := rfl
@[simp] theorem T18_zero : T18.zero = [.nil] := rfl
@[simp] theorem T18_kind : T18.kind = .struct [(0, 17, 1)] := rfl
def T19 : TI := { size := 1, bytes := 8, agg := true, zero := [.nil], kind := .struct [(0, 17, 1)] }
@[simp] theorem T19_size : T19.size = 1 := rfl
@[simp] theorem T19_agg : T19.agg = true := rfl
@[simp] theorem T19_zero : T19.zero = [.nil] := rfl
@[simp] theorem T19_kind : T19.kind = .struct [(0, 17, 1)] := rfl
def T20 : TI := { size := 1, bytes := 16, agg := false, zero := [.nilifc], kind := .iface }
@[simp] theorem T20_size : T20.size = 1 := rfl
@[simp] theorem T20_agg : T20.agg = false := rfl
@[simp] theorem T20_zero : T20.zero = [.nilifc] := rfl
@[simp] theorem T20_kind : T20.kind = .iface := rfl
def T21 : TI := { size := 1, bytes := 4, agg := false, zero := [.int .i32 0], kind := .int .i32 }
@[simp] theorem T21_size : T21.size = 1 := rfl
@[simp] theorem T21_agg : T21.agg = false := rfl
@[simp] theorem T21_zero : T21.zero = [.int .i32 0] := rfl
@[simp] theorem T21_kind : T21.kind = .int .i32 := rfl
def T22 : TI := { size := 1, bytes := 24, agg := false, zero := [.vs 2 [] .nil], kind := .slice 31 }
@[simp] theorem T22_size : T22.size = 1 := rfl
@[simp] theorem T22_agg : T22.agg = false := rfl
@[simp] theorem T22_zero : T22.zero = [.vs 2 [] .nil] := rfl
@[simp] theorem T22_kind : T22.kind = .slice 31 := rfl
def T23 : TI := { size := 1, bytes := 8, agg := false, zero := [.nilfn], kind := .func }
@[simp] theorem T23_size : T23.size = 1 := rfl
@[simp] theorem T23_agg : T23.agg = false := rfl
@[simp] theorem T23_zero : T23.zero = [.nilfn] := rfl
@[simp] theorem T23_kind : T23.kind = .func := rfl
def T24 : TI := { size := 1, bytes := 8, agg := false, zero := [.map none], kind := .map 3 65 }
@[simp] theorem T24_size : T24.size = 1 := rfl
@[simp] theorem T24_agg : T24.agg = false := rfl
@[simp] theorem T24_zero : T24.zero = [.map none] := rfl
@[simp] theorem T24_kind : T24.kind = .map 3 65 := rfl
def T25 : TI := { size := 1, bytes := 24, agg := false, zero := [.vs 1 [] .nil], kind := .slice 3 }
@[simp] theorem T25_size : T25.size = 1 := rfl
@[simp] theorem T25_agg : T25.agg = false := rfl
@[simp] theorem T25_zero : T25.zero = [.vs 1 [] .nil] := rfl
@[simp] theorem T25_kind : T25.kind = .slice 3 := rfl
def T26 : TI := { size := 3, bytes := 40, agg := true, zero := [.map none, .int .i64 0, .vs 1 [] .nil], kind := .struct [(0, 24, 1), (1, 3, 1), (2, 25, 1)] }
@[simp] theorem T26_size : T26.size = 3 := rfl
@[simp] theorem T26_agg : T26.agg = true := rfl
@[simp] theorem T26_zero : T26.zero = [.map none, .int .i64 0, .vs 1 [] .nil] := rfl
@[simp] theorem T26_kind : T26.kind = .struct [(0, 24, 1), (1, 3, 1), (2, 25, 1)] := rfl
def T27 : TI := { size := 3, bytes := 40, agg := true, zero := [.map none, .int .i64 0, .vs 1 [] .nil], kind := .struct [(0, 24, 1), (1, 3, 1), (2, 25, 1)] }
@[simp] theorem T27_size : T27.size = 3 := rfl
@[simp] theorem T27_agg : T27.agg = true := rfl
@[simp] theorem T27_zero : T27.zero = [.map none, .int .i64 0, .vs 1 [] .nil] := rfl
@[simp] theorem T27_kind : T27.kind = .struct [(0, 24, 1), (1, 3, 1), (2, 25, 1)] := rfl
def T28 : TI := { size := 3, bytes := 72, agg := true, zero := [.vs 1 [] .nil, .vs 1 [] .nil, .vs 1 [] .nil], kind := .struct [(0, 25, 1), (1, 25, 1), (2, 25, 1)] }
@[simp] theorem T28_size : T28.size = 3 := rfl
@[simp] theorem T28_agg : T28.agg = true := rfl
@[simp] theorem T28_zero : T28.zero = [.vs 1 [] .nil, .vs 1 [] .nil, .vs 1 [] .nil] := rfl
@[simp] theorem T28_kind : T28.kind = .struct [(0, 25, 1), (1, 25, 1), (2, 25, 1)] := rfl
def T29 : TI := { size := 3, bytes := 72, agg := true, zero := [.vs 1 [] .nil, .vs 1 [] .nil, .vs 1 [] .nil], kind := .struct [(0, 25, 1), (1, 25, 1), (2, 25, 1)] }
@[simp] theorem T29_size : T29.size = 3 := rfl
@[simp] theorem T29_agg : T29.agg = true := rfl
@[simp] theorem T29_zero : T29.zero = [.vs 1 [] .nil, .vs 1 [] .nil, .vs 1 [] .nil] := rfl
@[simp] theorem T29_kind : T29.kind = .struct [(0, 25, 1), (1, 25, 1), (2, 25, 1)] := rfl
def T30 : TI := { size := 2, bytes := 2, agg := true, zero := [.int .u8 0, .int .u8 0], kind := .struct [(0, 5, 1), (1, 5, 1)] }
@[simp] theorem T30_size : T30.size = 2 := rfl
@[simp] theorem T30_agg : T30.agg = true := rfl
@[simp] theorem T30_zero : T30.zero = [.int .u8 0, .int .u8 0] := rfl
@[simp] theorem T30_kind : T30.kind = .struct [(0, 5, 1), (1, 5, 1)] := rfl
def T31 : TI := { size := 2, bytes := 2, agg := true, zero := [.int .u8 0, .int .u8 0], kind := .struct [(0, 5, 1), (1, 5, 1)] }
@[simp] theorem T31_size : T31.size = 2 := rfl
@[simp] theorem T31_agg : T31.agg = true := rfl
@[simp] theorem T31_zero : T31.zero = [.int .u8 0, .int .u8 0] := rfl
@[simp] theorem T31_kind : T31.kind = .struct [(0, 5, 1), (1, 5, 1)] := rfl
def T32 : TI := { size := 1, bytes := 8, agg := false, zero := [.nilfn], kind := .func }
@[simp] theorem T32_size : T32.size = 1 := rfl
@[simp] theorem T32_agg : T32.agg = false := rfl
@[simp] theorem T32_zero : T32.zero = [.nilfn] := rfl
@[simp] theorem T32_kind : T32.kind = .func := rfl
def T34 : TI := { size := 1, bytes := 8, agg := false, zero := [.nilfn], kind := .func }
@[simp] theorem T34_size : T34.size = 1 := rfl
@[simp] theorem T34_agg : T34.agg = false := rfl
@[simp] theorem T34_zero : T34.zero = [.nilfn] := rfl
@[simp] theorem T34_kind : T34.kind = .func := rfl
def T35 : TI := { size := 1, bytes := 8, agg := false, zero := [.nilfn], kind := .func }
@[simp] theorem T35_size : T35.size = 1 := rfl
@[simp] theorem T35_agg : T35.agg = false := rfl
@[simp] theorem T35_zero : T35.zero = [.nilfn] := rfl
@[simp] theorem T35_kind : T35.kind = .func := rfl
def T36 : TI := { size := 1, bytes := 8, agg := false, zero := [.nilfn], kind := .func }
@[simp] theorem T36_size : T36.size = 1 := rfl
@[simp] theorem T36_agg : T36.agg = false := rfl
@[simp] theorem T36_zero : T36.zero = [.nilfn] := rfl
@[simp] theorem T36_kind : T36.kind = .func := rfl
def T37 : TI := { size := 1, bytes := 8, agg := false, zero := [.nilfn], kind := .func }
@[simp] theorem T37_size : T37.size = 1 := rfl
@[simp] theorem T37_agg : T37.agg = false := rfl
@[simp] theorem T37_zero : T37.zero = [.nilfn] := rfl
@[simp] theorem T37_kind : T37.kind = .func := rfl
def T38 : TI := { size := 1, bytes := 8, agg := false, zero := [.nilfn], kind := .func }
@[simp] theorem T38_size : T38.size = 1 := rfl
@[simp] theorem T38_agg : T38.agg = false := rfl
@[simp] theorem T38_zero : T38.zero = [.nilfn] := rfl
@[simp] theorem T38_kind : T38.kind = .func := rfl
def T39 : TI := { size := 1, bytes := 24, agg := false, zero := [.vs 1 [] .nil], kind := .slice 40 }
@[simp] theorem T39_size : T39.size = 1 := rfl
@[simp] theorem T39_agg : T39.agg = false := rfl
@[simp] theorem T39_zero : T39.zero = [.vs 1 [] .nil] := rfl
@[simp] theorem T39_kind : T39.kind = .slice 40 := rfl
def T40 : TI := { size := 1, bytes := 24, agg := false, zero := [.vs 1 [] .nil], kind := .slice 9 }
@[simp] theorem T40_size : T40.size = 1 := rfl
@[simp] theorem T40_agg : T40.agg = false := rfl
@[simp] theorem T40_zero : T40.zero = [.vs 1 [] .nil] := rfl
@[simp] theorem T40_kind : T40.kind = .slice 9 := rfl
def T41 : TI := { size := 1, bytes := 8, agg := false, zero := [.nilfn], kind := .func }
@[simp] theorem T41_size : T41.size = 1 := rfl
@[simp] theorem T41_agg : T41.agg = false := rfl
@[simp] theorem T41_zero : T41.zero = [.nilfn] := rfl
@[simp] theorem T41_kind : T41.kind = .func := rfl
def T42 : TI := { size := 1, bytes := 24, agg := false, zero := [.vs 2 [] .nil], kind := .slice 48 }
@[simp] theorem T42_size : T42.size = 1 := rfl
@[simp] theorem T42_agg : T42.agg = false := rfl
@[simp] theorem T42_zero : T42.zero = [.vs 2 [] .nil] := rfl
@[simp] theorem T42_kind : T42.kind = .slice 48 := rfl
def T43 : TI := { size := 1, bytes := 8, agg := false, zero := [.nilfn], kind := .func }
@[simp] theorem T43_size : T43.size = 1 := rfl
@[simp] theorem T43_agg : T43.agg = false := rfl
@[simp] theorem T43_zero : T43.zero = [.nilfn] := rfl
@[simp] theorem T43_kind : T43.kind = .func := rfl
def T44 : TI := { size := 1, bytes := 24, agg := false, zero := [.vs 2 [] .nil], kind := .slice 49 }
@[simp] theorem T44_size : T44.size = 1 := rfl
@[simp] theorem T44_agg : T44.agg = false := rfl
@[simp] theorem T44_zero : T44.zero = [.vs 2 [] .nil] := rfl
@[simp] theorem T44_kind : T44.kind = .slice 49 := rfl
def T45 : TI := { size := 1, bytes := 8, agg := false, zero := [.nilfn], kind := .func }
@[simp] theorem T45_size : T45.size = 1 := rfl
@[simp] theorem T45_agg : T45.agg = false := rfl
@[simp] theorem T45_zero : T45.zero = [.nilfn] := rfl
@[simp] theorem T45_kind : T45.kind = .func := rfl
def T46 : TI := { size := 1, bytes := 8, agg := false, zero := [.nilfn], kind := .func }
@[simp] theorem T46_size : T46.size = 1 := rfl
@[simp] theorem T46_agg : T46.agg = false := rfl
@[simp] theorem T46_zero : T46.zero = [.nilfn] := rfl
@[simp] theorem T46_kind : T46.kind = .func := rfl
def T47 : TI := { size := 2, bytes := 24, agg := true, zero := [.str [], .int .i64 0], kind := .struct [(0, 9, 1), (1, 3, 1)] }
@[simp] theorem T47_size : T47.size = 2 := rfl
@[simp] theorem T47_agg : T47.agg = true := rfl
@[simp] theorem T47_zero : T47.zero = [.str [], .int .i64 0] := rfl
@[simp] theorem T47_kind : T47.kind = .struct [(0, 9, 1), (1, 3, 1)] := rfl
def T48 : TI := { size := 2, bytes := 24, agg := true, zero := [.str [], .int .i64 0], kind := .struct [(0, 9, 1), (1, 3, 1)] }
@[simp] theorem T48_size : T48.size = 2 := rfl
@[simp] theorem T48_agg : T48.agg = true := rfl
@[simp] theorem T48_zero : T48.zero = [.str [], .int .i64 0] := rfl
@[simp] theorem T48_kind : T48.kind = .struct [(0, 9, 1), (1, 3, 1)] := rfl
def T49 : TI := { size := 2, bytes := 24, agg := true, zero := [.str [], .int .i64 0], kind := .struct [(0, 9, 1), (1, 3, 1)] }
@[simp] theorem T49_size : T49.size = 2 := rfl
@[simp] theorem T49_agg : T49.agg = true := rfl
@[simp] theorem T49_zero : T49.zero = [.str [], .int .i64 0] := rfl
@[simp] theorem T49_kind : T49.kind = .struct [(0, 9, 1), (1, 3, 1)] := rfl
def T50 : TI := { size := 1, bytes := 8, agg := false, zero := [.nilfn], kind := .func }
@[simp] theorem T50_size : T50.size = 1 := rfl
@[simp] theorem T50_agg : T50.agg = false := rfl
@[simp] theorem T50_zero : T50.zero = [.nilfn] := rfl
@[simp] theorem T50_kind : T50.kind = .func := rfl
def T51 : TI := { size := 1, bytes := 8, agg := false, zero := [.nilfn], kind := .func }
@[simp] theorem T51_size : T51.size = 1 := rfl
@[simp] theorem T51_agg : T51.agg = false := rfl
@[simp] theorem T51_zero : T51.zero = [.nilfn] := rfl
@[simp] theorem T51_kind : T51.kind = .func := rfl
def T52 : TI := { size := 1, bytes := 8, agg := false, zero := [.nilfn], kind := .func }
@[simp] theorem T52_size : T52.size = 1 := rfl
@[simp] theorem T52_agg : T52.agg = false := rfl
@[simp] theorem T52_zero : T52.zero = [.nilfn] := rfl
@[simp] theorem T52_kind : T52.kind = .func := rfl
def T53 : TI := { size := 1, bytes := 24, agg := false, zero := [.vs 2 [] .nil], kind := .slice 62 }
@[simp] theorem T53_size : T53.size = 1 := rfl
@[simp] theorem T53_agg : T53.agg = false := rfl
@[simp] theorem T53_zero : T53.zero = [.vs 2 [] .nil] := rfl
@[simp] theorem T53_kind : T53.kind = .slice 62 := rfl
def T54 : TI := { size := 1, bytes := 8, agg := false, zero := [.nilfn], kind := .func }
@[simp] theorem T54_size : T54.size = 1 := rfl
@[simp] theorem T54_agg : T54.agg = false := rfl
@[simp] theorem T54_zero : T54.zero = [.nilfn] := rfl
@[simp] theorem T54_kind : T54.kind = .func := rfl
def T55 : TI := { size := 1, bytes := 8, agg := false, zero := [.nilfn], kind := .func }
@[simp] theorem T55_size : T55.size = 1 := rfl
@[simp] theorem T55_agg : T55.agg = false := rfl
@[simp] theorem T55_zero : T55.zero = [.nilfn] := rfl
@[simp] theorem T55_kind : T55.kind = .func := rfl
def T56 : TI := { size := 1, bytes := 8, agg := false, zero := [.nilfn], kind := .func }
@[simp] theorem T56_size : T56.size = 1 := rfl
@[simp] theorem T56_agg : T56.agg = false := rfl
@[simp] theorem T56_zero : T56.zero = [.nilfn] := rfl
@[simp] theorem T56_kind : T56.kind = .func := rfl
def T57 : TI := { size := 2, bytes := 16, agg := true, zero := [.int .i64 0, .int .i64 0], kind := .array 2 3 }
@[simp] theorem T57_size : T57.size = 2 := rfl
@[simp] theorem T57_agg : T57.agg = true := rfl
@[simp] theorem T57_zero : T57.zero = [.int .i64 0, .int .i64 0] := rfl
@[simp] theorem T57_kind : T57.kind = .array 2 3 := rfl
def T58 : TI := { size := 1, bytes := 8, agg := false, zero := [.nilfn], kind := .func }
@[simp] theorem T58_size : T58.size = 1 := rfl
@[simp] theorem T58_agg : T58.agg = false := rfl
@[simp] theorem T58_zero : T58.zero = [.nilfn] := rfl
@[simp] theorem T58_kind : T58.kind = .func := rfl
def T59 : TI := { size := 1, bytes := 8, agg := false, zero := [.nilfn], kind := .func }
@[simp] theorem T59_size : T59.size = 1 := rfl
@[simp] theorem T59_agg : T59.agg = false := rfl
@[simp] theorem T59_zero : T59.zero = [.nilfn] := rfl
@[simp] theorem T59_kind : T59.kind = .func := rfl
def T60 : TI := { size := 1, bytes := 8, agg := false, zero := [.nilfn], kind := .func }
@[simp] theorem T60_size : T60.size = 1 := rfl
@[simp] theorem T60_agg : T60.agg = false := rfl
@[simp] theorem T60_zero : T60.zero = [.nilfn] := rfl
@[simp] theorem T60_kind : T60.kind = .func := rfl
def T61 : TI := { size := 2, bytes := 24, agg := true, zero := [.int .i64 0, .str []], kind := .struct [(0, 3, 1), (1, 9, 1)] }
@[simp] theorem T61_size : T61.size = 2 := rfl
@[simp] theorem T61_agg : T61.agg = true := rfl
@[simp] theorem T61_zero : T61.zero = [.int .i64 0, .str []] := rfl
@[simp] theorem T61_kind : T61.kind = .struct [(0, 3, 1), (1, 9, 1)] := rfl
def T62 : TI := { size := 2, bytes := 24, agg := true, zero := [.int .i64 0, .str []], kind := .struct [(0, 3, 1), (1, 9, 1)] }
@[simp] theorem T62_size : T62.size = 2 := rfl
@[simp] theorem T62_agg : T62.agg = true := rfl
@[simp] theorem T62_zero : T62.zero = [.int .i64 0, .str []] := rfl
@[simp] theorem T62_kind : T62.kind = .struct [(0, 3, 1), (1, 9, 1)] := rfl
def T63 : TI := { size := 1, bytes := 8, agg := false, zero := [.nilfn], kind := .func }
@[simp] theorem T63_size : T63.size = 1 := rfl
@[simp] theorem T63_agg : T63.agg = false := rfl
@[simp] theorem T63_zero : T63.zero = [.nilfn] := rfl
@[simp] theorem T63_kind : T63.kind = .func := rfl
def T64 : TI := { size := 1, bytes := 8, agg := false, zero := [.nil], kind := .ptr 27 }
@[simp] theorem T64_size : T64.size = 1 := rfl
@[simp] theorem T64_agg : T64.agg = false := rfl
@[simp] theorem T64_zero : T64.zero = [.nil] := rfl
@[simp] theorem T64_kind : T64.kind = .ptr 27 := rfl
def T65 : TI := { size := 0, bytes := 0, agg := true, zero := [], kind := .struct [] }
@[simp] theorem T65_size : T65.size = 0 := rfl
@[simp] theorem T65_agg : T65.agg = true := rfl
@[simp] theorem T65_zero : T65.zero = [] := rfl
@[simp] theorem T65_kind : T65.kind = .struct [] := rfl
def T66 : TI := { size := 1, bytes := 8, agg := false, zero := [.nilfn], kind := .func }
@[simp] theorem T66_size : T66.size = 1 := rfl
@[simp] theorem T66_agg : T66.agg = false := rfl
@[simp] theorem T66_zero : T66.zero = [.nilfn] := rfl
@[simp] theorem T66_kind : T66.kind = .func := rfl
def T67 : TI := { size := 1, bytes := 8, agg := false, zero := [.nilfn], kind := .func }
@[simp] theorem T67_size : T67.size = 1 := rfl
@[simp] theorem T67_agg : T67.agg = false := rfl
@[simp] theorem T67_zero : T67.zero = [.nilfn] := rfl
@[simp] theorem T67_kind : T67.kind = .func := rfl
def T68 : TI := { size := 1, bytes := 8, agg := false, zero := [.nilfn], kind := .func }
@[simp] theorem T68_size : T68.size = 1 := rfl
@[simp] theorem T68_agg : T68.agg = false := rfl
@[simp] theorem T68_zero : T68.zero = [.nilfn] := rfl
@[simp] theorem T68_kind : T68.kind = .func := rfl
def T70 : TI := { size := 1, bytes := 8, agg := false, zero := [.nilfn], kind := .func }
@[simp] theorem T70_size : T70.size = 1 := rfl
@[simp] theorem T70_agg : T70.agg = false := rfl
@[simp] theorem T70_zero : T70.zero = [.nilfn] := rfl
@[simp] theorem T70_kind : T70.kind = .func := rfl
def T71 : TI := { size := 1, bytes := 8, agg := false, zero := [.nil], kind := .ptr 76 }
@[simp] theorem T71_size : T71.size = 1 := rfl
@[simp] theorem T71_agg : T71.agg = false := rfl
@[simp] theorem T71_zero : T71.zero = [.nil] := rfl
@[simp] theorem T71_kind : T71.kind = .ptr 76 := rfl
def T72 : TI := { size := 1, bytes := 8, agg := false, zero := [.nilfn], kind := .func }
@[simp] theorem T72_size : T72.size = 1 := rfl
@[simp] theorem T72_agg : T72.agg = false := rfl
@[simp] theorem T72_zero : T72.zero = [.nilfn] := rfl
@[simp] theorem T72_kind : T72.kind = .func := rfl
def T73 : TI := { size := 1, bytes := 8, agg := false, zero := [.nilfn], kind := .func }
@[simp] theorem T73_size : T73.size = 1 := rfl
@[simp] theorem T73_agg : T73.agg = false := rfl
@[simp] theorem T73_zero : T73.zero = [.nilfn] := rfl
@[simp] theorem T73_kind : T73.kind = .func := rfl
def T74 : TI := { size := 1, bytes := 24, agg := false, zero := [.vs 3 [] .nil], kind := .slice 78 }
@[simp] theorem T74_size : T74.size = 1 := rfl
@[simp] theorem T74_agg : T74.agg = false := rfl
@[simp] theorem T74_zero : T74.zero = [.vs 3 [] .nil] := rfl
@[simp] theorem T74_kind : T74.kind = .slice 78 := rfl
def T75 : TI := { size := 2, bytes := 32, agg := true, zero := [.vs 3 [] .nil, .nilfn], kind := .struct [(0, 74, 1), (1, 72, 1)] }
@[simp] theorem T75_size : T75.size = 2 := rfl
@[simp] theorem T75_agg : T75.agg = true := rfl
@[simp] theorem T75_zero : T75.zero = [.vs 3 [] .nil, .nilfn] := rfl
@[simp] theorem T75_kind : T75.kind = .struct [(0, 74, 1), (1, 72, 1)] := rfl
def T76 : TI := { size := 2, bytes := 32, agg := true, zero := [.vs 3 [] .nil, .nilfn], kind := .struct [(0, 74, 1), (1, 72, 1)] }
@[simp] theorem T76_size : T76.size = 2 := rfl
@[simp] theorem T76_agg : T76.agg = true := rfl
@[simp] theorem T76_zero : T76.zero = [.vs 3 [] .nil, .nilfn] := rfl
@[simp] theorem T76_kind : T76.kind = .struct [(0, 74, 1), (1, 72, 1)] := rfl
def T77 : TI := { size := 3, bytes := 48, agg := true, zero := [.str [], .int .i64 0, .vs 1 [] .nil], kind := .struct [(0, 48, 2), (2, 40, 1)] }
@[simp] theorem T77_size : T77.size = 3 := rfl
@[simp] theorem T77_agg : T77.agg = true := rfl
@[simp] theorem T77_zero : T77.zero = [.str [], .int .i64 0, .vs 1 [] .nil] := rfl
@[simp] theorem T77_kind : T77.kind = .struct [(0, 48, 2), (2, 40, 1)] := rfl
def T78 : TI := { size := 3, bytes := 48, agg := true, zero := [.str [], .int .i64 0, .vs 1 [] .nil], kind := .struct [(0, 48, 2), (2, 40, 1)] }
@[simp] theorem T78_size : T78.size = 3 := rfl
@[simp] theorem T78_agg : T78.agg = true := rfl
@[simp] theorem T78_zero : T78.zero = [.str [], .int .i64 0, .vs 1 [] .nil] := rfl
@[simp] theorem T78_kind : T78.kind = .struct [(0, 48, 2), (2, 40, 1)] := rfl
def T79 : TI := { size := 1, bytes := 8, agg := false, zero := [.nilfn], kind := .func }
@[simp] theorem T79_size : T79.size = 1 := rfl
@[simp] theorem T79_agg : T79.agg = false := rfl
@[simp] theorem T79_zero : T79.zero = [.nilfn] := rfl
@[simp] theorem T79_kind : T79.kind = .func := rfl
def T80 : TI := { size := 1, bytes := 8, agg := false, zero := [.nil], kind := .ptr 78 }
@[simp] theorem T80_size : T80.size = 1 := rfl
@[simp] theorem T80_agg : T80.agg = false := rfl
@[simp] theorem T80_zero : T80.zero = [.nil] := rfl
@[simp] theorem T80_kind : T80.kind = .ptr 78 := rfl
def T81 : TI := { size := 1, bytes := 8, agg := false, zero := [.nilfn], kind := .func }
@[simp] theorem T81_size : T81.size = 1 := rfl
@[simp] theorem T81_agg : T81.agg = false := rfl
@[simp] theorem T81_zero : T81.zero = [.nilfn] := rfl
@[simp] theorem T81_kind : T81.kind = .func := rfl
def T82 : TI := { size := 1, bytes := 8, agg := false, zero := [.nilfn], kind := .func }
@[simp] theorem T82_size : T82.size = 1 := rfl
@[simp] theorem T82_agg : T82.agg = false := rfl
@[simp] theorem T82_zero : T82.zero = [.nilfn] := rfl
@[simp] theorem T82_kind : T82.kind = .func := rfl
def T83 : TI := { size := 1, bytes := 8, agg := false, zero := [.nil], kind := .ptr 86 }
@[simp] theorem T83_size : T83.size = 1 := rfl
@[simp] theorem T83_agg : T83.agg = false := rfl
@[simp] theorem T83_zero : T83.zero = [.nil] := rfl
@[simp] theorem T83_kind : T83.kind = .ptr 86 := rfl
def T84 : TI := { size := 1, bytes := 24, agg := false, zero := [.vs 1 [] .nil], kind := .slice 5 }
@[simp] theorem T84_size : T84.size = 1 := rfl
@[simp] theorem T84_agg : T84.agg = false := rfl
@[simp] theorem T84_zero : T84.zero = [.vs 1 [] .nil] := rfl
@[simp] theorem T84_kind : T84.kind = .slice 5 := rfl
def T85 : TI := { size := 2, bytes := 32, agg := true, zero := [.nil, .vs 1 [] .nil], kind := .struct [(0, 83, 1), (1, 84, 1)] }
@[simp] theorem T85_size : T85.size = 2 := rfl
@[simp] theorem T85_agg : T85.agg = true := rfl
@[simp] theorem T85_zero : T85.zero = [.nil, .vs 1 [] .nil] := rfl
@[simp] theorem T85_kind : T85.kind = .struct [(0, 83, 1), (1, 84, 1)] := rfl
def T86 : TI := { size := 2, bytes := 32, agg := true, zero := [.nil, .vs 1 [] .nil], kind := .struct [(0, 83, 1), (1, 84, 1)] }
@[simp] theorem T86_size : T86.size = 2 := rfl
@[simp] theorem T86_agg : T86.agg = true := rfl
@[simp] theorem T86_zero : T86.zero = [.nil, .vs 1 [] .nil] := rfl
@[simp] theorem T86_kind : T86.kind = .struct [(0, 83, 1), (1, 84, 1)] := rfl
def T87 : TI := { size := 1, bytes := 16, agg := false, zero := [.nilifc], kind := .iface }
@[simp] theorem T87_size : T87.size = 1 := rfl
@[simp] theorem T87_agg : T87.agg = false := rfl
@[simp] theorem T87_zero : T87.zero = [.nilifc] := rfl
@[simp] theorem T87_kind : T87.kind = .iface := rfl
def T88 : TI := { size := 1, bytes := 16, agg := false, zero := [.nilifc], kind := .iface }
@[simp] theorem T88_size : T88.size = 1 := rfl
@[simp] theorem T88_agg : T88.agg = false := rfl
@[simp] theorem T88_zero : T88.zero = [.nilifc] := rfl
@[simp] theorem T88_kind : T88.kind = .iface := rfl
def T90 : TI := { size := 1, bytes := 8, agg := false, zero := [.nilfn], kind := .func }
@[simp] theorem T90_size : T90.size = 1 := rfl
@[simp] theorem T90_agg : T90.agg = false := rfl
@[simp] theorem T90_zero : T90.zero = [.nilfn] := rfl
@[simp] theorem T90_kind : T90.kind = .func := rfl
def T91 : TI := { size := 1, bytes := 8, agg := false, zero := [.nilfn], kind := .func }
@[simp] theorem T91_size : T91.size = 1 := rfl
@[simp] theorem T91_agg : T91.agg = false := rfl
@[simp] theorem T91_zero : T91.zero = [.nilfn] := rfl
@[simp] theorem T91_kind : T91.kind = .func := rfl
def T92 : TI := { size := 1, bytes := 8, agg := false, zero := [.nilfn], kind := .func }
@[simp] theorem T92_size : T92.size = 1 := rfl
@[simp] theorem T92_agg : T92.agg = false := rfl
@[simp] theorem T92_zero : T92.zero = [.nilfn] := rfl
@[simp] theorem T92_kind : T92.kind = .func := rfl
def T93 : TI := { size := 1, bytes := 8, agg := false, zero := [.nilfn], kind := .func }
@[simp] theorem T93_size : T93.size = 1 := rfl
@[simp] theorem T93_agg : T93.agg = false := rfl
@[simp] theorem T93_zero : T93.zero = [.nilfn] := rfl
@[simp] theorem T93_kind : T93.kind = .func := rfl
def T94 : TI := { size := 1, bytes := 16, agg := false, zero := [.nilifc], kind := .iface }
@[simp] theorem T94_size : T94.size = 1 := rfl
@[simp] theorem T94_agg : T94.agg = false := rfl
@[simp] theorem T94_zero : T94.zero = [.nilifc] := rfl
@[simp] theorem T94_kind : T94.kind = .iface := rfl
def T95 : TI := { size := 1, bytes := 16, agg := false, zero := [.nilifc], kind := .iface }
@[simp] theorem T95_size : T95.size = 1 := rfl
@[simp] theorem T95_agg : T95.agg = false := rfl
@[simp] theorem T95_zero : T95.zero = [.nilifc] := rfl
@[simp] theorem T95_kind : T95.kind = .iface := rfl
def T96 : TI := { size := 1, bytes := 8, agg := false, zero := [.nilfn], kind := .func }
@[simp] theorem T96_size : T96.size = 1 := rfl
@[simp] theorem T96_agg : T96.agg = false := rfl
@[simp] theorem T96_zero : T96.zero = [.nilfn] := rfl
@[simp] theorem T96_kind : T96.kind = .func := rfl
def T97 : TI := { size := 1, bytes := 8, agg := false, zero := [.nilfn], kind := .func }
@[simp] theorem T97_size : T97.size = 1 := rfl
@[simp] theorem T97_agg : T97.agg = false := rfl
@[simp] theorem T97_zero : T97.zero = [.nilfn] := rfl
@[simp] theorem T97_kind : T97.kind = .func := rfl
def T98 : TI := { size := 1, bytes := 8, agg := false, zero := [.nilfn], kind := .func }
@[simp] theorem T98_size : T98.size = 1 := rfl
@[simp] theorem T98_agg : T98.agg = false := rfl
@[simp] theorem T98_zero : T98.zero = [.nilfn] := rfl
@[simp] theorem T98_kind : T98.kind = .func := rfl
def T99 : TI := { size := 1, bytes := 8, agg := false, zero := [.int .u64 0], kind := .int .u64 }
@[simp] theorem T99_size : T99.size = 1 := rfl
@[simp] theorem T99_agg : T99.agg = false := rfl
@[simp] theorem T99_zero : T99.zero = [.int .u64 0] := rfl
@[simp] theorem T99_kind : T99.kind = .int .u64 := rfl
def T101 : TI := { size := 1, bytes := 8, agg := false, zero := [.nilfn], kind := .func }
@[simp] theorem T101_size : T101.size = 1 := rfl
@[simp] theorem T101_agg : T101.agg = false := rfl
@[simp] theorem T101_zero : T101.zero = [.nilfn] := rfl
@[simp] theorem T101_kind : T101.kind = .func := rfl
def T102 : TI := { size := 1, bytes := 8, agg := false, zero := [.nilfn], kind := .func }
@[simp] theorem T102_size : T102.size = 1 := rfl
@[simp] theorem T102_agg : T102.agg = false := rfl
@[simp] theorem T102_zero : T102.zero = [.nilfn] := rfl
@[simp] theorem T102_kind : T102.kind = .func := rfl
def T103 : TI := { size := 1, bytes := 8, agg := false, zero := [.nil], kind := .ptr 5 }
@[simp] theorem T103_size : T103.size = 1 := rfl
@[simp] theorem T103_agg : T103.agg = false := rfl
@[simp] theorem T103_zero : T103.zero = [.nil] := rfl
@[simp] theorem T103_kind : T103.kind = .ptr 5 := rfl
def T104 : TI := { size := 1, bytes := 8, agg := false, zero := [.nilfn], kind := .func }
@[simp] theorem T104_size : T104.size = 1 := rfl
@[simp] theorem T104_agg : T104.agg = false := rfl
@[simp] theorem T104_zero : T104.zero = [.nilfn] := rfl
@[simp] theorem T104_kind : T104.kind = .func := rfl
def T106 : TI := { size := 1, bytes := 8, agg := false, zero := [.nilfn], kind := .func }
@[simp] theorem T106_size : T106.size = 1 := rfl
@[simp] theorem T106_agg : T106.agg = false := rfl
@[simp] theorem T106_zero : T106.zero = [.nilfn] := rfl
@[simp] theorem T106_kind : T106.kind = .func := rfl
def T107 : TI := { size := 1, bytes := 4, agg := false, zero := [.int .u32 0], kind := .int .u32 }
@[simp] theorem T107_size : T107.size = 1 := rfl
@[simp] theorem T107_agg : T107.agg = false := rfl
@[simp] theorem T107_zero : T107.zero = [.int .u32 0] := rfl
@[simp] theorem T107_kind : T107.kind = .int .u32 := rfl
def T109 : TI := { size := 1, bytes := 8, agg := false, zero := [.nilfn], kind := .func }
@[simp] theorem T109_size : T109.size = 1 := rfl
@[simp] theorem T109_agg : T109.agg = false := rfl
@[simp] theorem T109_zero : T109.zero = [.nilfn] := rfl
@[simp] theorem T109_kind : T109.kind = .func := rfl
def T110 : TI := { size := 1, bytes := 8, agg := false, zero := [.int .u64 0], kind := .int .u64 }
@[simp] theorem T110_size : T110.size = 1 := rfl
@[simp] theorem T110_agg : T110.agg = false := rfl
@[simp] theorem T110_zero : T110.zero = [.int .u64 0] := rfl
@[simp] theorem T110_kind : T110.kind = .int .u64 := rfl
def T112 : TI := { size := 1, bytes := 8, agg := false, zero := [.nilfn], kind := .func }
@[simp] theorem T112_size : T112.size = 1 := rfl
@[simp] theorem T112_agg : T112.agg = false := rfl
@[simp] theorem T112_zero : T112.zero = [.nilfn] := rfl
@[simp] theorem T112_kind : T112.kind = .func := rfl
def T113 : TI := { size := 1, bytes := 8, agg := false, zero := [.nilfn], kind := .func }
@[simp] theorem T113_size : T113.size = 1 := rfl
@[simp] theorem T113_agg : T113.agg = false := rfl
@[simp] theorem T113_zero : T113.zero = [.nilfn] := rfl
@[simp] theorem T113_kind : T113.kind = .func := rfl
def T114 : TI := { size := 4, bytes := 40, agg := true, zero := [.nil, .nil, .nil, .str []], kind := .struct [(0, 17, 1), (1, 17, 1), (2, 17, 1), (3, 9, 1)] }
@[simp] theorem T114_size : T114.size = 4 := rfl
@[simp] theorem T114_agg : T114.agg = true := rfl
@[simp] theorem T114_zero : T114.zero = [.nil, .nil, .nil, .str []] := rfl
@[simp] theorem T114_kind : T114.kind = .struct [(0, 17, 1), (1, 17, 1), (2, 17, 1), (3, 9, 1)] := rfl
def T115 : TI := { size := 4, bytes := 40, agg := true, zero := [.nil, .nil, .nil, .str []], kind := .struct [(0, 17, 1), (1, 17, 1), (2, 17, 1), (3, 9, 1)] }
@[simp] theorem T115_size : T115.size = 4 := rfl
@[simp] theorem T115_agg : T115.agg = true := rfl
@[simp] theorem T115_zero : T115.zero = [.nil, .nil, .nil, .str []] := rfl
@[simp] theorem T115_kind : T115.kind = .struct [(0, 17, 1), (1, 17, 1), (2, 17, 1), (3, 9, 1)] := rfl
def T116 : TI := { size := 0, bytes := 0, agg := true, zero := [], kind := .array 0 16 }
@[simp] theorem T116_size : T116.size = 0 := rfl
@[simp] theorem T116_agg : T116.agg = true := rfl
@[simp] theorem T116_zero : T116.zero = [] := rfl
@[simp] theorem T116_kind : T116.kind = .array 0 16 := rfl
def T117 : TI := { size := 0, bytes := 0, agg := true, zero := [], kind := .struct [(0, 116, 0)] }
@[simp] theorem T117_size : T117.size = 0 := rfl
@[simp] theorem T117_agg : T117.agg = true := rfl
@[simp] theorem T117_zero : T117.zero = [] := rfl
@[simp] theorem T117_kind : T117.kind = .struct [(0, 116, 0)] := rfl
def T118 : TI := { size := 0, bytes := 0, agg := true, zero := [], kind := .struct [(0, 116, 0)] }
@[simp] theorem T118_size : T118.size = 0 := rfl
@[simp] theorem T118_agg : T118.agg = true := rfl
@[simp] theorem T118_zero : T118.zero = [] := rfl
@[simp] theorem T118_kind : T118.kind = .struct [(0, 116, 0)] := rfl
def T119 : TI := { size := 1, bytes := 1, agg := false, zero := [.int .u8 0], kind := .int .u8 }
@[simp] theorem T119_size : T119.size = 1 := rfl
@[simp] theorem T119_agg : T119.agg = false := rfl
@[simp] theorem T119_zero : T119.zero = [.int .u8 0] := rfl
@[simp] theorem T119_kind : T119.kind = .int .u8 := rfl
def T120 : TI := { size := 1, bytes := 1, agg := false, zero := [.int .u8 0], kind := .int .u8 }
@[simp] theorem T120_size : T120.size = 1 := rfl
@[simp] theorem T120_agg : T120.agg = false := rfl
@[simp] theorem T120_zero : T120.zero = [.int .u8 0] := rfl
@[simp] theorem T120_kind : T120.kind = .int .u8 := rfl
def T121 : TI := { size := 1, bytes := 8, agg := false, zero := [.nilfn], kind := .func }
@[simp] theorem T121_size : T121.size = 1 := rfl
@[simp] theorem T121_agg : T121.agg = false := rfl
@[simp] theorem T121_zero : T121.zero = [.nilfn] := rfl
@[simp] theorem T121_kind : T121.kind = .func := rfl
def T122 : TI := { size := 1, bytes := 4, agg := false, zero := [.int .i32 0], kind := .int .i32 }
@[simp] theorem T122_size : T122.size = 1 := rfl
@[simp] theorem T122_agg : T122.agg = false := rfl
@[simp] theorem T122_zero : T122.zero = [.int .i32 0] := rfl
@[simp] theorem T122_kind : T122.kind = .int .i32 := rfl
def T123 : TI := { size := 1, bytes := 4, agg := false, zero := [.int .i32 0], kind := .int .i32 }
@[simp] theorem T123_size : T123.size = 1 := rfl
@[simp] theorem T123_agg : T123.agg = false := rfl
@[simp] theorem T123_zero : T123.zero = [.int .i32 0] := rfl
@[simp] theorem T123_kind : T123.kind = .int .i32 := rfl
def T124 : TI := { size := 11, bytes := 48, agg := true, zero := [.int .u64 0, .int .u64 0, .int .u32 0, .int .u8 0, .int .u8 0, .int .u8 0, .int .u8 0, .nilfn, .nil, .int .i32 0, .int .i32 0], kind := .struct [(0, 12, 1), (1, 12, 1), (2, 107, 1), (3, 119, 1), (4, 5, 1), (5, 5, 1), (6, 120, 1), (7, 121, 1), (8, 103, 1), (9, 122, 1), (10, 123, 1)] }
@[simp] theorem T124_size : T124.size = 11 := rfl
@[simp] theorem T124_agg : T124.agg = true := rfl
@[simp] theorem T124_zero : T124.zero = [.int .u64 0, .int .u64 0, .int .u32 0, .int .u8 0, .int .u8 0, .int .u8 0, .int .u8 0, .nilfn, .nil, .int .i32 0, .int .i32 0] := rfl
@[simp] theorem T124_kind : T124.kind = .struct [(0, 12, 1), (1, 12, 1), (2, 107, 1), (3, 119, 1), (4, 5, 1), (5, 5, 1), (6, 120, 1), (7, 121, 1), (8, 103, 1), (9, 122, 1), (10, 123, 1)] := rfl
def T125 : TI := { size := 11, bytes := 48, agg := true, zero := [.int .u64 0, .int .u64 0, .int .u32 0, .int .u8 0, .int .u8 0, .int .u8 0, .int .u8 0, .nilfn, .nil, .int .i32 0, .int .i32 0], kind := .struct [(0, 12, 1), (1, 12, 1), (2, 107, 1), (3, 119, 1), (4, 5, 1), (5, 5, 1), (6, 120, 1), (7, 121, 1), (8, 103, 1), (9, 122, 1), (10, 123, 1)] }
@[simp] theorem T125_size : T125.size = 11 := rfl
@[simp] theorem T125_agg : T125.agg = true := rfl
@[simp] theorem T125_zero : T125.zero = [.int .u64 0, .int .u64 0, .int .u32 0, .int .u8 0, .int .u8 0, .int .u8 0, .int .u8 0, .nilfn, .nil, .int .i32 0, .int .i32 0] := rfl
@[simp] theorem T125_kind : T125.kind = .struct [(0, 12, 1), (1, 12, 1), (2, 107, 1), (3, 119, 1), (4, 5, 1), (5, 5, 1), (6, 120, 1), (7, 121, 1), (8, 103, 1), (9, 122, 1), (10, 123, 1)] := rfl
def T126 : TI := { size := 1, bytes := 8, agg := false, zero := [.nilfn], kind := .func }
@[simp] theorem T126_size : T126.size = 1 := rfl
@[simp] theorem T126_agg : T126.agg = false := rfl
@[simp] theorem T126_zero : T126.zero = [.nilfn] := rfl
@[simp] theorem T126_kind : T126.kind = .func := rfl
def tyOf : Nat → TI
  | 1 => T1
  | 2 => T2
  | 3 => T3
  | 4 => T4
  | 5 => T5
  | 6 => T6
  | 7 => T7
  | 8 => T8
  | 9 => T9
  | 10 => T10
  | 11 => T11
  | 12 => T12
  | 13 => T13
  | 14 => T14
  | 15 => T15
  | 16 => T16
  | 17 => T17
  | 18 => T18
  | 19 => T19
  | 20 => T20
  | 21 => T21
  | 22 => T22
  | 23 => T23
  | 24 => T24
  | 25 => T25
  | 26 => T26
  | 27 => T27
  | 28 => T28
  | 29 => T29
  | 30 => T30
  | 31 => T31
  | 32 => T32
  | 34 => T34
  | 35 => T35
  | 36 => T36
  | 37 => T37
  | 38 => T38
  | 39 => T39
  | 40 => T40
  | 41 => T41
  | 42 => T42
  | 43 => T43
  | 44 => T44
  | 45 => T45
  | 46 => T46
  | 47 => T47
  | 48 => T48
  | 49 => T49
  | 50 => T50
  | 51 => T51
  | 52 => T52
  | 53 => T53
  | 54 => T54
  | 55 => T55
  | 56 => T56
  | 57 => T57
  | 58 => T58
  | 59 => T59
  | 60 => T60
  | 61 => T61
  | 62 => T62
  | 63 => T63
  | 64 => T64
  | 65 => T65
  | 66 => T66
  | 67 => T67
  | 68 => T68
  | 70 => T70
  | 71 => T71
  | 72 => T72
  | 73 => T73
  | 74 => T74
  | 75 => T75
  | 76 => T76
  | 77 => T77
  | 78 => T78
  | 79 => T79
  | 80 => T80
  | 81 => T81
  | 82 => T82
  | 83 => T83
  | 84 => T84
  | 85 => T85
  | 86 => T86
  | 87 => T87
  | 88 => T88
  | 90 => T90
  | 91 => T91
  | 92 => T92
  | 93 => T93
  | 94 => T94
  | 95 => T95
  | 96 => T96
  | 97 => T97
  | 98 => T98
  | 99 => T99
  | 101 => T101
  | 102 => T102
  | 103 => T103
  | 104 => T104
  | 106 => T106
  | 107 => T107
  | 109 => T109
  | 110 => T110
  | 112 => T112
  | 113 => T113
  | 114 => T114
  | 115 => T115
  | 116 => T116
  | 117 => T117
  | 118 => T118
  | 119 => T119
  | 120 => T120
  | 121 => T121
  | 122 => T122
  | 123 => T123
  | 124 => T124
  | 125 => T125
  | 126 => T126
  | n => { size := 0, bytes := 0, agg := false, zero := [], kind := match n with | 0 | 33 | 69 | 89 | 100 | 108 | 111 => .tuple | _ => .other }
def locOf : Nat → Nat → Bool
  | 3, 4 => true
  | 3, 6 => true
  | 5, 10 => true
  | 8, 5 => true
  | 9, 6 => true
  | 12, 2 => true
  | 12, 4 => true
  | 14, 2 => true
  | 14, 4 => true
  | 16, 2 => true
  | 16, 4 => true
  | 20, 5 => true
  | 21, 2 => true
  | 26, 5 => true
  | 27, 5 => true
  | 29, 5 => true
  | 30, 7 => true
  | 32, 11 => true
  | 39, 2 => true
  | 39, 3 => true
  | 78, 4 => true
  | _, _ => false
def liveOf : Nat → Nat → List Nat × List Nat
  | 3, 8 => ([17], [4])
  | 4, 6 => ([22], [])
  | 4, 12 => ([30], [])
  | 4, 18 => ([45], [])
  | 4, 24 => ([60], [])
  | 4, 27 => ([12], [])
  | 5, 6 => ([18], [])
  | 5, 16 => ([7, 44], [])
  | 6, 6 => ([21], [])
  | 6, 18 => ([74], [])
  | 9, 8 => ([4, 17], [])
  | 9, 13 => ([28], [6])
  | 23, 2 => ([3], [])
  | 24, 4 => ([4, 13], [])
  | 24, 12 => ([7], [])
  | 25, 3 => ([4], [])
  | 25, 5 => ([5, 6], [])
  | 26, 3 => ([3, 8], [])
  | 27, 3 => ([3, 9], [])
  | 29, 3 => ([3, 8], [])
  | 30, 3 => ([5, 10], [])
  | 31, 4 => ([5], [])
  | 32, 6 => ([32], [])
  | 33, 5 => ([9, 10], [])
  | 34, 3 => ([0, 3, 4], [])
  | 34, 5 => ([5], [])
  | 35, 2 => ([12], [])
  | 36, 2 => ([5], [])
  | 37, 3 => ([5, 6], [])
  | 38, 2 => ([5], [])
  | 40, 2 => ([3], [])
  | 48, 2 => ([5], [])
  | 49, 2 => ([7], [])
  | 50, 0 => ([1], [])
  | _, _ => ([], [])
def hasL : List Nat := [1, 2, 3, 4, 5, 6, 7, 8, 9, 10, 11, 12, 13, 14, 15, 16, 17, 18, 19, 20, 21, 22, 23, 24, 25, 26, 27, 28, 29, 30, 31, 32, 34, 35, 36, 37, 38, 39, 40, 41, 42, 43, 44, 45, 46, 47, 48, 49, 50, 51, 52, 53, 54, 55, 56, 57, 58, 59, 60, 61, 62, 63, 64, 65, 66, 67, 68, 70, 71, 72, 73, 74, 75, 76, 77, 78, 79, 80, 81, 82, 83, 84, 85, 86, 87, 88, 90, 91, 92, 93, 94, 95, 96, 97, 98, 99, 101, 102, 103, 104, 106, 107, 109, 110, 112, 113, 114, 115, 116, 117, 118, 119, 120, 121, 122, 123, 124, 125, 126]
def hasOf : Nat → Bool
  | 1 => true
  | 2 => true
  | 3 => true
  | 4 => true
  | 5 => true
  | 6 => true
  | 7 => true
  | 8 => true
  | 9 => true
  | 10 => true
  | 11 => true
  | 12 => true
  | 13 => true
  | 14 => true
  | 15 => true
  | 16 => true
  | 17 => true
  | 18 => true
  | 19 => true
  | 20 => true
  | 21 => true
  | 22 => true
  | 23 => true
  | 24 => true
  | 25 => true
  | 26 => true
  | 27 => true
  | 28 => true
  | 29 => true
  | 30 => true
  | 31 => true
  | 32 => true
  | 34 => true
  | 35 => true
  | 36 => true
  | 37 => true
  | 38 => true
  | 39 => true
  | 40 => true
  | 41 => true
  | 42 => true
  | 43 => true
  | 44 => true
  | 45 => true
  | 46 => true
  | 47 => true
  | 48 => true
  | 49 => true
  | 50 => true
  | 51 => true
  | 52 => true
  | 53 => true
  | 54 => true
  | 55 => true
  | 56 => true
  | 57 => true
  | 58 => true
  | 59 => true
  | 60 => true
  | 61 => true
  | 62 => true
  | 63 => true
  | 64 => true
  | 65 => true
  | 66 => true
  | 67 => true
  | 68 => true
  | 70 => true
  | 71 => true
  | 72 => true
  | 73 => true
  | 74 => true
  | 75 => true
  | 76 => true
  | 77 => true
  | 78 => true
  | 79 => true
  | 80 => true
  | 81 => true
  | 82 => true
  | 83 => true
  | 84 => true
  | 85 => true
  | 86 => true
  | 87 => true
  | 88 => true
  | 90 => true
  | 91 => true
  | 92 => true
  | 93 => true
  | 94 => true
  | 95 => true
  | 96 => true
  | 97 => true
  | 98 => true
  | 99 => true
  | 101 => true
  | 102 => true
  | 103 => true
  | 104 => true
  | 106 => true
  | 107 => true
  | 109 => true
  | 110 => true
  | 112 => true
  | 113 => true
  | 114 => true
  | 115 => true
  | 116 => true
  | 117 => true
  | 118 => true
  | 119 => true
  | 120 => true
  | 121 => true
  | 122 => true
  | 123 => true
  | 124 => true
  | 125 => true
  | 126 => true
  | _ => false
def eqkL : List Nat := [7, 8, 30, 31, 47, 48, 49, 61, 62, 65]
def eqkOf : Nat → Bool
  | 7 => true
  | 8 => true
  | 30 => true
  | 31 => true
  | 47 => true
  | 48 => true
  | 49 => true
  | 61 => true
  | 62 => true
  | 65 => true
  | _ => false
def byrefOf : Nat → Bool
  | 78 => true
  | _ => false
def methOf (t : Nat) (m : String) : Option Nat :=
  match t with
  | 71 => if m = "Len" then some 41 else if m = "Less" then some 77 else if m = "Pop" then some 78 else if m = "Swap" then some 79 else none
  | _ => none
def C : Ctx := { ty := tyOf, has := hasOf, eqk := eqkOf, loc := locOf, byref := byrefOf, meth := methOf, live := liveOf }
noncomputable def En (w0 : World) : Env := ⟨Try.prog, C, w0⟩
theorem hasOf_mem : ∀ t, hasOf t = true → hasL.elem t = true := by
  intro t h
  unfold hasOf at h
  split at h <;> first | rfl | cases h
theorem eqkOf_mem : ∀ t, eqkOf t = true → eqkL.elem t = true := by
  intro t h
  unfold eqkOf at h
  split at h <;> first | rfl | cases h
theorem tabOk : hasL.all (fun t => tyCheck Try.prog t (tyOf t)) = true := by kernel_rfl
theorem eqkOk : eqkL.all (fun t => eqkCheck Try.prog t (tyOf t).zero) = true := by kernel_rfl
theorem meth0 (v : Value) (w : World) : (method (Try.prog.types.size + Made.depth) 71 v "Len").run Try.prog w = .ok (41, v) w := by kernel_rfl
theorem meth1 (v : Value) (w : World) : (method (Try.prog.types.size + Made.depth) 71 v "Less").run Try.prog w = .ok (77, v) w := by kernel_rfl
theorem meth2 (v : Value) (w : World) : (method (Try.prog.types.size + Made.depth) 71 v "Pop").run Try.prog w = .ok (78, v) w := by kernel_rfl
theorem meth3 (v : Value) (w : World) : (method (Try.prog.types.size + Made.depth) 71 v "Swap").run Try.prog w = .ok (79, v) w := by kernel_rfl
theorem methOk : ∀ t m g, methOf t m = some g → ∀ v w, (method (Try.prog.types.size + Made.depth) t v m).run Try.prog w = .ok (g, v) w := by
  intro t m g h v w
  unfold methOf at h
  split at h
  · split at h
    · rename_i e; subst e; cases h; exact meth0 v w
    split at h
    · rename_i e; subst e; cases h; exact meth1 v w
    split at h
    · rename_i e; subst e; cases h; exact meth2 v w
    split at h
    · rename_i e; subst e; cases h; exact meth3 v w
    cases h
  · cases h
theorem agree (w0 : World) : Agree (En w0) := agree_of (En w0) hasL eqkL hasOf_mem eqkOf_mem tabOk eqkOk methOk
theorem mixed : Try.prog.follows .mixedOrders = true := by kernel_rfl
/-- What stands for a call: the call. -/
theorem Ca_sound (w0 : World) : CaSound (En w0) (ACalls (En w0)) := fun _ _ _ _ h => h
theorem Ca_mono (w0 : World) : CaMono (ACalls (En w0)) := fun g xs S Q Q' h hq => ⟨h.1, fun G w hr hro args' hl ha => (h.2 G w hr hro args' hl ha).mono fun e w' ⟨v, r, S', G', h1, h2, h3⟩ => ⟨v, r, S', G', h1, hq _ _ h2, h3⟩⟩
theorem fn_ok (w0 : World) {n : Nat} {fn : Func} (hf : Try.prog.funcs[n]? = some fn) (hname : (fn.name == "runtime.NumGoroutine") = false) {args : List AV} {S : St} {Q : AV → St → Prop}
    (h : WF C (ACalls (En w0)) n (Drw C (ACalls (En w0)) n) fn args S Q) : ACalls (En w0) n args S Q :=
  WF_sound (E := En w0) (agree w0) (Ca_sound w0) (Ca_mono w0) (Drw_sound (agree w0) (Ca_sound w0) (Ca_mono w0) mixed) (Drw_mono (Ca_mono w0)) hf hname h
end Go.Av
