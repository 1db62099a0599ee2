/- Parts of the proofs of this seat: abstract values over the model, and what the functions of the program do. No condition. -/
import Derived.Test.YtdjfhghokfiieaaGreatDoorM8
import Derived.Test.YtdjfhghokfiieaaGreatDoorM7
import Derived.Test.YtdjfhghokfiieaaGreatDoorProg
import Derived.KernelRfl
set_option linter.all false
set_option maxRecDepth 100000
namespace Go.Av
open Go.Proofs
abbrev DH : Nat := 3
abbrev KA : Nat := 5
abbrev CN : Nat := 9
abbrev IL : Nat := 22
abbrev PP : Nat := 44
abbrev Iu : Nat := 73
abbrev CW : Nat := 167
abbrev IU : Nat := 172
abbrev B9 : Nat := 178
abbrev E9 : Nat := 183
abbrev A3 : Nat := 214
abbrev Bz : Nat := 240
abbrev Fu : Nat := 7
abbrev JH : Nat := 9
abbrev G5 : Nat := 26
abbrev GU : Nat := 27
abbrev E6 : Nat := 28
abbrev Cq : Nat := 29
abbrev Gi : Nat := 30
abbrev Hf : Nat := 34
abbrev D8 : Nat := 35
abbrev Eq : Nat := 54
abbrev HS : Nat := 55
abbrev Hk : Nat := 56
abbrev E3 : Nat := 57
abbrev HJ : Nat := 58
abbrev Ii : Nat := 59
abbrev CI : Nat := 60
abbrev Fj : Nat := 63
abbrev HO : Nat := 64
abbrev Fn : Nat := 65
abbrev Fk : Nat := 66
abbrev Ir : Nat := 67
abbrev Fl : Nat := 75
abbrev Da : Nat := 85
abbrev Dl : Nat := 86
abbrev Cx : Nat := 87
abbrev Eu : Nat := 88
abbrev Gf : Nat := 89
abbrev B7 : Nat := 90
abbrev GD : Nat := 91
abbrev C7 : Nat := 92
abbrev JY : Nat := 93
abbrev GH : Nat := 94
abbrev Fm : Nat := 96
abbrev MP : Nat := 104
abbrev Ix : Nat := 107
abbrev Ey : Nat := 111
abbrev GI : Nat := 112
abbrev IW : Nat := 113
abbrev M2 : Nat := 114
abbrev C9 : Nat := 115
abbrev GX : Nat := 116
abbrev JM : Nat := 117
abbrev GJ : Nat := 118
abbrev Bp : Nat := 119
abbrev HY : Nat := 120
abbrev F8 : Nat := 121
abbrev FP : Nat := 122
abbrev EO : Nat := 134
abbrev D5 : Nat := 135
abbrev KZ : Nat := 136
abbrev Gg : Nat := 137
abbrev Ik : Nat := 138
abbrev FB : Nat := 139
abbrev BP : Nat := 140
abbrev CZ : Nat := 141
abbrev Jr : Nat := 142
abbrev GV : Nat := 143
abbrev IX : Nat := 144
abbrev JF : Nat := 156
abbrev Jj : Nat := 157
abbrev IA : Nat := 160
abbrev DS : Nat := 161
abbrev Eb : Nat := 162
abbrev Lm : Nat := 220
abbrev MS : Nat := 221
abbrev L1 : Nat := 222
def PV : TI := { size := 1, bytes := 8, agg := false, zero := [.nilfn], kind := .func, id := 1 }
@[simp] theorem Z5 : PV.size = 1 := rfl
@[simp] theorem cf : PV.agg = false ∧ PV.zero = [.nilfn] ∧ PV.kind = .func := ⟨rfl, rfl, rfl⟩
def Ld : TI := { size := 1, bytes := 8, agg := false, zero := [.int .i64 0], kind := .int .i64, id := 2 }
@[simp] theorem ZF : Ld.size = 1 := rfl
@[simp] theorem bo : Ld.agg = false ∧ Ld.zero = [.int .i64 0] ∧ Ld.kind = .int .i64 := ⟨rfl, rfl, rfl⟩
def Aj : TI := { size := 1, bytes := 8, agg := false, zero := [.int .i64 0], kind := .int .i64, id := 3 }
@[simp] theorem aY : Aj.size = 1 := rfl
@[simp] theorem d7 : Aj.agg = false ∧ Aj.zero = [.int .i64 0] ∧ Aj.kind = .int .i64 := ⟨rfl, rfl, rfl⟩
@[simp] theorem cy : Aj.id = DH := rfl
def C3 : TI := { size := 1, bytes := 1, agg := false, zero := [.bool false], kind := .bool, id := 4 }
@[simp] theorem Z4 : C3.size = 1 := rfl
@[simp] theorem cZ : C3.agg = false ∧ C3.zero = [.bool false] ∧ C3.kind = .bool := ⟨rfl, rfl, rfl⟩
def Dh : TI := { size := 1, bytes := 1, agg := false, zero := [.int .u8 0], kind := .int .u8, id := 5 }
@[simp] theorem Rb : Dh.size = 1 := rfl
@[simp] theorem cG : Dh.agg = false ∧ Dh.zero = [.int .u8 0] ∧ Dh.kind = .int .u8 := ⟨rfl, rfl, rfl⟩
@[simp] theorem aM : Dh.id = KA := rfl
def CF : TI := { size := 1, bytes := 1, agg := false, zero := [.int .u8 0], kind := .int .u8, id := 6 }
@[simp] theorem PN : CF.size = 1 := rfl
@[simp] theorem Qa : CF.agg = false ∧ CF.zero = [.int .u8 0] ∧ CF.kind = .int .u8 := ⟨rfl, rfl, rfl⟩
def AS : TI := { size := 4, bytes := 24, agg := true, zero := [.int .i64 0, .int .i64 0, .bool false, .int .u8 0], kind := .struct [(0, 2, 1), (1, 3, 1), (2, 4, 1), (3, 6, 1)], id := 7 }
@[simp] theorem Ei : AS.size = 4 := rfl
@[simp] theorem FK : AS.agg = true ∧ AS.zero = [.int .i64 0, .int .i64 0, .bool false, .int .u8 0] ∧ AS.kind = .struct [(0, 2, 1), (1, 3, 1), (2, 4, 1), (3, 6, 1)] := ⟨rfl, rfl, rfl⟩
def CC : TI := { size := 4, bytes := 24, agg := true, zero := [.int .i64 0, .int .i64 0, .bool false, .int .u8 0], kind := .struct [(0, 2, 1), (1, 3, 1), (2, 4, 1), (3, 6, 1)], id := 8 }
@[simp] theorem OI : CC.size = 4 := rfl
@[simp] theorem QZ : CC.agg = true ∧ CC.zero = [.int .i64 0, .int .i64 0, .bool false, .int .u8 0] ∧ CC.kind = .struct [(0, 2, 1), (1, 3, 1), (2, 4, 1), (3, 6, 1)] := ⟨rfl, rfl, rfl⟩
def AF : TI := { size := 1, bytes := 16, agg := false, zero := [.str []], kind := .str, id := 9 }
@[simp] theorem Yp : AF.size = 1 := rfl
@[simp] theorem aS : AF.agg = false ∧ AF.zero = [.str []] ∧ AF.kind = .str := ⟨rfl, rfl, rfl⟩
@[simp] theorem Zs : AF.id = CN := rfl
def CB : TI := { size := 1, bytes := 16, agg := false, zero := [.str []], kind := .str, id := 10 }
@[simp] theorem Ou : CB.size = 1 := rfl
@[simp] theorem Qj : CB.agg = false ∧ CB.zero = [.str []] ∧ CB.kind = .str := ⟨rfl, rfl, rfl⟩
def H5 : TI := { size := 1, bytes := 8, agg := false, zero := [.int .u64 0], kind := .int .u64, id := 12 }
@[simp] theorem XF : H5.size = 1 := rfl
@[simp] theorem Z2 : H5.agg = false ∧ H5.zero = [.int .u64 0] ∧ H5.kind = .int .u64 := ⟨rfl, rfl, rfl⟩
def Bv : TI := { size := 1, bytes := 8, agg := false, zero := [.nil], kind := .ptr 304, id := 16 }
@[simp] theorem MZ : Bv.size = 1 := rfl
@[simp] theorem No : Bv.agg = false ∧ Bv.zero = [.nil] ∧ Bv.kind = .ptr 304 := ⟨rfl, rfl, rfl⟩
def E4 : TI := { size := 1, bytes := 8, agg := false, zero := [.nil], kind := .ptr 311, id := 17 }
@[simp] theorem Vr : E4.size = 1 := rfl
@[simp] theorem YG : E4.agg = false ∧ E4.zero = [.nil] ∧ E4.kind = .ptr 311 := ⟨rfl, rfl, rfl⟩
def Fz : TI := { size := 1, bytes := 16, agg := false, zero := [.nilifc], kind := .iface, id := 20 }
@[simp] theorem WZ : Fz.size = 1 := rfl
@[simp] theorem Ym : Fz.agg = false ∧ Fz.zero = [.nilifc] ∧ Fz.kind = .iface := ⟨rfl, rfl, rfl⟩
def LP : TI := { size := 1, bytes := 4, agg := false, zero := [.int .i32 0], kind := .int .i32, id := 21 }
@[simp] theorem Zf : LP.size = 1 := rfl
@[simp] theorem cN : LP.agg = false ∧ LP.zero = [.int .i32 0] ∧ LP.kind = .int .i32 := ⟨rfl, rfl, rfl⟩
def Au : TI := { size := 1, bytes := 24, agg := false, zero := [.vs 7 [] .nil], kind := .slice 73, id := 22 }
@[simp] theorem VI : Au.size = 1 := rfl
@[simp] theorem XC : Au.agg = false ∧ Au.zero = [.vs 7 [] .nil] ∧ Au.kind = .slice 73 := ⟨rfl, rfl, rfl⟩
@[simp] theorem W7 : Au.id = IL := rfl
def An : TI := { size := 3, bytes := 48, agg := true, zero := [.vs 7 [] .nil, .str [], .bool false], kind := .struct [(0, 22, 1), (1, 9, 1), (2, 4, 1)], id := 23 }
@[simp] theorem GA : An.size = 3 := rfl
@[simp] theorem GP : An.agg = true ∧ An.zero = [.vs 7 [] .nil, .str [], .bool false] ∧ An.kind = .struct [(0, 22, 1), (1, 9, 1), (2, 4, 1)] := ⟨rfl, rfl, rfl⟩
def Cn : TI := { size := 3, bytes := 48, agg := true, zero := [.vs 7 [] .nil, .str [], .bool false], kind := .struct [(0, 22, 1), (1, 9, 1), (2, 4, 1)], id := 24 }
@[simp] theorem Q6 : Cn.size = 3 := rfl
@[simp] theorem Sv : Cn.agg = true ∧ Cn.zero = [.vs 7 [] .nil, .str [], .bool false] ∧ Cn.kind = .struct [(0, 22, 1), (1, 9, 1), (2, 4, 1)] := ⟨rfl, rfl, rfl⟩
def CA : TI := { size := 1, bytes := 24, agg := false, zero := [.vs 2 [] .nil], kind := .slice 133, id := 27 }
@[simp] theorem TH : CA.size = 1 := rfl
@[simp] theorem Vd : CA.agg = false ∧ CA.zero = [.vs 2 [] .nil] ∧ CA.kind = .slice 133 := ⟨rfl, rfl, rfl⟩
def BD : TI := { size := 2, bytes := 32, agg := true, zero := [.vs 2 [] .nil, .int .i64 0], kind := .struct [(0, 27, 1), (1, 3, 1)], id := 28 }
@[simp] theorem Jz : BD.size = 2 := rfl
@[simp] theorem Kd : BD.agg = true ∧ BD.zero = [.vs 2 [] .nil, .int .i64 0] ∧ BD.kind = .struct [(0, 27, 1), (1, 3, 1)] := ⟨rfl, rfl, rfl⟩
def Ai : TI := { size := 2, bytes := 32, agg := true, zero := [.vs 2 [] .nil, .int .i64 0], kind := .struct [(0, 27, 1), (1, 3, 1)], id := 29 }
@[simp] theorem VF : Ai.size = 2 := rfl
@[simp] theorem W0 : Ai.agg = true ∧ Ai.zero = [.vs 2 [] .nil, .int .i64 0] ∧ Ai.kind = .struct [(0, 27, 1), (1, 3, 1)] := ⟨rfl, rfl, rfl⟩
def BR : TI := { size := 1, bytes := 8, agg := false, zero := [.nilfn], kind := .func, id := 32 }
@[simp] theorem Ka : BR.size = 1 := rfl
@[simp] theorem L6 : BR.agg = false ∧ BR.zero = [.nilfn] ∧ BR.kind = .func := ⟨rfl, rfl, rfl⟩
def Bb : TI := { size := 2, bytes := 16, agg := true, zero := [.int .i64 0, .int .i64 0], kind := .struct [(0, 3, 1), (1, 3, 1)], id := 33 }
@[simp] theorem LJ : Bb.size = 2 := rfl
@[simp] theorem MK : Bb.agg = true ∧ Bb.zero = [.int .i64 0, .int .i64 0] ∧ Bb.kind = .struct [(0, 3, 1), (1, 3, 1)] := ⟨rfl, rfl, rfl⟩
def Fv : TI := { size := 2, bytes := 16, agg := true, zero := [.int .i64 0, .int .i64 0], kind := .struct [(0, 3, 1), (1, 3, 1)], id := 34 }
@[simp] theorem V9 : Fv.size = 2 := rfl
@[simp] theorem Yc : Fv.agg = true ∧ Fv.zero = [.int .i64 0, .int .i64 0] ∧ Fv.kind = .struct [(0, 3, 1), (1, 3, 1)] := ⟨rfl, rfl, rfl⟩
def EN : TI := { size := 1, bytes := 24, agg := false, zero := [.vs 2 [] .nil], kind := .slice 34, id := 35 }
@[simp] theorem U8 : EN.size = 1 := rfl
@[simp] theorem Wv : EN.agg = false ∧ EN.zero = [.vs 2 [] .nil] ∧ EN.kind = .slice 34 := ⟨rfl, rfl, rfl⟩
def Ez : TI := { size := 1, bytes := 24, agg := false, zero := [.vs 2 [] .nil], kind := .slice 34, id := 36 }
@[simp] theorem Vm : Ez.size = 1 := rfl
@[simp] theorem Xm : Ez.agg = false ∧ Ez.zero = [.vs 2 [] .nil] ∧ Ez.kind = .slice 34 := ⟨rfl, rfl, rfl⟩
def Ax : TI := { size := 4, bytes := 48, agg := true, zero := [.int .i64 0, .int .i64 0, .int .i64 0, .vs 2 [] .nil], kind := .struct [(0, 3, 1), (1, 34, 2), (3, 36, 1)], id := 37 }
@[simp] theorem HB : Ax.size = 4 := rfl
@[simp] theorem Ht : Ax.agg = true ∧ Ax.zero = [.int .i64 0, .int .i64 0, .int .i64 0, .vs 2 [] .nil] ∧ Ax.kind = .struct [(0, 3, 1), (1, 34, 2), (3, 36, 1)] := ⟨rfl, rfl, rfl⟩
def Eo : TI := { size := 4, bytes := 48, agg := true, zero := [.int .i64 0, .int .i64 0, .int .i64 0, .vs 2 [] .nil], kind := .struct [(0, 3, 1), (1, 34, 2), (3, 36, 1)], id := 38 }
@[simp] theorem Ve : Eo.size = 4 := rfl
@[simp] theorem X6 : Eo.agg = true ∧ Eo.zero = [.int .i64 0, .int .i64 0, .int .i64 0, .vs 2 [] .nil] ∧ Eo.kind = .struct [(0, 3, 1), (1, 34, 2), (3, 36, 1)] := ⟨rfl, rfl, rfl⟩
def BL : TI := { size := 5, bytes := 64, agg := true, zero := [.str [], .int .i64 0, .int .i64 0, .int .i64 0, .vs 2 [] .nil], kind := .struct [(0, 9, 1), (1, 38, 4)], id := 39 }
@[simp] theorem KS : BL.size = 5 := rfl
@[simp] theorem LF : BL.agg = true ∧ BL.zero = [.str [], .int .i64 0, .int .i64 0, .int .i64 0, .vs 2 [] .nil] ∧ BL.kind = .struct [(0, 9, 1), (1, 38, 4)] := ⟨rfl, rfl, rfl⟩
def EF : TI := { size := 5, bytes := 64, agg := true, zero := [.str [], .int .i64 0, .int .i64 0, .int .i64 0, .vs 2 [] .nil], kind := .struct [(0, 9, 1), (1, 38, 4)], id := 40 }
@[simp] theorem Ui : EF.size = 5 := rfl
@[simp] theorem Wu : EF.agg = true ∧ EF.zero = [.str [], .int .i64 0, .int .i64 0, .int .i64 0, .vs 2 [] .nil] ∧ EF.kind = .struct [(0, 9, 1), (1, 38, 4)] := ⟨rfl, rfl, rfl⟩
def F1 : TI := { size := 1, bytes := 8, agg := false, zero := [.int .i64 0], kind := .int .i64, id := 41 }
@[simp] theorem WV : F1.size = 1 := rfl
@[simp] theorem YV : F1.agg = false ∧ F1.zero = [.int .i64 0] ∧ F1.kind = .int .i64 := ⟨rfl, rfl, rfl⟩
def A1 : TI := { size := 1, bytes := 24, agg := false, zero := [.vs 1 [] .nil], kind := .slice 9, id := 44 }
@[simp] theorem Wt : A1.size = 1 := rfl
@[simp] theorem Za : A1.agg = false ∧ A1.zero = [.vs 1 [] .nil] ∧ A1.kind = .slice 9 := ⟨rfl, rfl, rfl⟩
@[simp] theorem Yg : A1.id = PP := rfl
def AZ : TI := { size := 8, bytes := 88, agg := true, zero := [.int .i64 0, .int .i64 0, .int .i64 0, .int .i64 0, .int .i64 0, .str [], .vs 1 [] .nil, .bool false], kind := .struct [(0, 41, 1), (1, 3, 1), (2, 3, 1), (3, 3, 1), (4, 3, 1), (5, 9, 1), (6, 44, 1), (7, 4, 1)], id := 45 }
@[simp] theorem Ej : AZ.size = 8 := rfl
@[simp] theorem FJ : AZ.agg = true ∧ AZ.zero = [.int .i64 0, .int .i64 0, .int .i64 0, .int .i64 0, .int .i64 0, .str [], .vs 1 [] .nil, .bool false] ∧ AZ.kind = .struct [(0, 41, 1), (1, 3, 1), (2, 3, 1), (3, 3, 1), (4, 3, 1), (5, 9, 1), (6, 44, 1), (7, 4, 1)] := ⟨rfl, rfl, rfl⟩
def E0 : TI := { size := 8, bytes := 88, agg := true, zero := [.int .i64 0, .int .i64 0, .int .i64 0, .int .i64 0, .int .i64 0, .str [], .vs 1 [] .nil, .bool false], kind := .struct [(0, 41, 1), (1, 3, 1), (2, 3, 1), (3, 3, 1), (4, 3, 1), (5, 9, 1), (6, 44, 1), (7, 4, 1)], id := 46 }
@[simp] theorem VN : E0.size = 8 := rfl
@[simp] theorem YM : E0.agg = true ∧ E0.zero = [.int .i64 0, .int .i64 0, .int .i64 0, .int .i64 0, .int .i64 0, .str [], .vs 1 [] .nil, .bool false] ∧ E0.kind = .struct [(0, 41, 1), (1, 3, 1), (2, 3, 1), (3, 3, 1), (4, 3, 1), (5, 9, 1), (6, 44, 1), (7, 4, 1)] := ⟨rfl, rfl, rfl⟩
def AY : TI := { size := 6, bytes := 64, agg := true, zero := [.int .i64 0, .str [], .int .i64 0, .int .i64 0, .int .i64 0, .str []], kind := .struct [(0, 3, 1), (1, 9, 1), (2, 3, 1), (3, 3, 1), (4, 3, 1), (5, 9, 1)], id := 48 }
@[simp] theorem El : AY.size = 6 := rfl
@[simp] theorem FE : AY.agg = true ∧ AY.zero = [.int .i64 0, .str [], .int .i64 0, .int .i64 0, .int .i64 0, .str []] ∧ AY.kind = .struct [(0, 3, 1), (1, 9, 1), (2, 3, 1), (3, 3, 1), (4, 3, 1), (5, 9, 1)] := ⟨rfl, rfl, rfl⟩
def Bl : TI := { size := 6, bytes := 64, agg := true, zero := [.int .i64 0, .str [], .int .i64 0, .int .i64 0, .int .i64 0, .str []], kind := .struct [(0, 3, 1), (1, 9, 1), (2, 3, 1), (3, 3, 1), (4, 3, 1), (5, 9, 1)], id := 49 }
@[simp] theorem Ye : Bl.size = 6 := rfl
@[simp] theorem al : Bl.agg = true ∧ Bl.zero = [.int .i64 0, .str [], .int .i64 0, .int .i64 0, .int .i64 0, .str []] ∧ Bl.kind = .struct [(0, 3, 1), (1, 9, 1), (2, 3, 1), (3, 3, 1), (4, 3, 1), (5, 9, 1)] := ⟨rfl, rfl, rfl⟩
def HL : TI := { size := 1, bytes := 24, agg := false, zero := [.vs 1 [] .nil], kind := .slice 3, id := 54 }
@[simp] theorem Yt : HL.size = 1 := rfl
@[simp] theorem bp : HL.agg = false ∧ HL.zero = [.vs 1 [] .nil] ∧ HL.kind = .slice 3 := ⟨rfl, rfl, rfl⟩
def BZ : TI := { size := 1, bytes := 8, agg := false, zero := [.nilfn], kind := .func, id := 56 }
@[simp] theorem LA : BZ.size = 1 := rfl
@[simp] theorem MB : BZ.agg = false ∧ BZ.zero = [.nilfn] ∧ BZ.kind = .func := ⟨rfl, rfl, rfl⟩
def DW : TI := { size := 1, bytes := 24, agg := false, zero := [.vs 2 [] .nil], kind := .slice 68, id := 60 }
@[simp] theorem Tw : DW.size = 1 := rfl
@[simp] theorem VL : DW.agg = false ∧ DW.zero = [.vs 2 [] .nil] ∧ DW.kind = .slice 68 := ⟨rfl, rfl, rfl⟩
def CD : TI := { size := 1, bytes := 24, agg := false, zero := [.vs 2 [] .nil], kind := .slice 69, id := 63 }
@[simp] theorem N5 : CD.size = 1 := rfl
@[simp] theorem Qg : CD.agg = false ∧ CD.zero = [.vs 2 [] .nil] ∧ CD.kind = .slice 69 := ⟨rfl, rfl, rfl⟩
def BY : TI := { size := 2, bytes := 24, agg := true, zero := [.str [], .int .i64 0], kind := .struct [(0, 9, 1), (1, 3, 1)], id := 67 }
@[simp] theorem Ke : BY.size = 2 := rfl
@[simp] theorem MA : BY.agg = true ∧ BY.zero = [.str [], .int .i64 0] ∧ BY.kind = .struct [(0, 9, 1), (1, 3, 1)] := ⟨rfl, rfl, rfl⟩
def EL : TI := { size := 2, bytes := 24, agg := true, zero := [.str [], .int .i64 0], kind := .struct [(0, 9, 1), (1, 3, 1)], id := 68 }
@[simp] theorem Up : EL.size = 2 := rfl
@[simp] theorem Wr : EL.agg = true ∧ EL.zero = [.str [], .int .i64 0] ∧ EL.kind = .struct [(0, 9, 1), (1, 3, 1)] := ⟨rfl, rfl, rfl⟩
def Ce : TI := { size := 2, bytes := 24, agg := true, zero := [.str [], .int .i64 0], kind := .struct [(0, 9, 1), (1, 3, 1)], id := 69 }
@[simp] theorem Pe : Ce.size = 2 := rfl
@[simp] theorem SN : Ce.agg = true ∧ Ce.zero = [.str [], .int .i64 0] ∧ Ce.kind = .struct [(0, 9, 1), (1, 3, 1)] := ⟨rfl, rfl, rfl⟩
def As : TI := { size := 1, bytes := 24, agg := false, zero := [.vs 2 [] .nil], kind := .slice 172, id := 71 }
@[simp] theorem T8 : As.size = 1 := rfl
@[simp] theorem WJ : As.agg = false ∧ As.zero = [.vs 2 [] .nil] ∧ As.kind = .slice 172 := ⟨rfl, rfl, rfl⟩
def AT : TI := { size := 7, bytes := 112, agg := true, zero := [.int .i64 0, .bool false, .vs 1 [] .nil, .vs 7 [] .nil, .int .i64 0, .vs 2 [] .nil, .str []], kind := .struct [(0, 3, 1), (1, 4, 1), (2, 44, 1), (3, 22, 1), (4, 3, 1), (5, 71, 1), (6, 9, 1)], id := 72 }
@[simp] theorem Ee : AT.size = 7 := rfl
@[simp] theorem FH : AT.agg = true ∧ AT.zero = [.int .i64 0, .bool false, .vs 1 [] .nil, .vs 7 [] .nil, .int .i64 0, .vs 2 [] .nil, .str []] ∧ AT.kind = .struct [(0, 3, 1), (1, 4, 1), (2, 44, 1), (3, 22, 1), (4, 3, 1), (5, 71, 1), (6, 9, 1)] := ⟨rfl, rfl, rfl⟩
def AB : TI := { size := 7, bytes := 112, agg := true, zero := [.int .i64 0, .bool false, .vs 1 [] .nil, .vs 7 [] .nil, .int .i64 0, .vs 2 [] .nil, .str []], kind := .struct [(0, 3, 1), (1, 4, 1), (2, 44, 1), (3, 22, 1), (4, 3, 1), (5, 71, 1), (6, 9, 1)], id := 73 }
@[simp] theorem Wq : AB.size = 7 := rfl
@[simp] theorem Zl : AB.agg = true ∧ AB.zero = [.int .i64 0, .bool false, .vs 1 [] .nil, .vs 7 [] .nil, .int .i64 0, .vs 2 [] .nil, .str []] ∧ AB.kind = .struct [(0, 3, 1), (1, 4, 1), (2, 44, 1), (3, 22, 1), (4, 3, 1), (5, 71, 1), (6, 9, 1)] := ⟨rfl, rfl, rfl⟩
@[simp] theorem Yi : AB.id = Iu := rfl
def Bf : TI := { size := 1, bytes := 8, agg := false, zero := [.nilfn], kind := .func, id := 80 }
@[simp] theorem LV : Bf.size = 1 := rfl
@[simp] theorem Mw : Bf.agg = false ∧ Bf.zero = [.nilfn] ∧ Bf.kind = .func := ⟨rfl, rfl, rfl⟩
def DY : TI := { size := 1, bytes := 8, agg := false, zero := [.nil], kind := .ptr 141, id := 88 }
@[simp] theorem TQ : DY.size = 1 := rfl
@[simp] theorem VK : DY.agg = false ∧ DY.zero = [.nil] ∧ DY.kind = .ptr 141 := ⟨rfl, rfl, rfl⟩
def Ak : TI := { size := 1, bytes := 8, agg := false, zero := [.nilfn], kind := .func, id := 96 }
@[simp] theorem Fi : Ak.size = 1 := rfl
@[simp] theorem F3 : Ak.agg = false ∧ Ak.zero = [.nilfn] ∧ Ak.kind = .func := ⟨rfl, rfl, rfl⟩
def Cs : TI := { size := 1, bytes := 8, agg := false, zero := [.nil], kind := .ptr 178, id := 97 }
@[simp] theorem Ra : Cs.size = 1 := rfl
@[simp] theorem UG : Cs.agg = false ∧ Cs.zero = [.nil] ∧ Cs.kind = .ptr 178 := ⟨rfl, rfl, rfl⟩
def Ap : TI := { size := 3, bytes := 56, agg := true, zero := [.vs 1 [] .nil, .vs 7 [] .nil, .int .i64 0], kind := .struct [(0, 44, 1), (1, 22, 1), (2, 3, 1)], id := 103 }
@[simp] theorem GC : Ap.size = 3 := rfl
@[simp] theorem GY : Ap.agg = true ∧ Ap.zero = [.vs 1 [] .nil, .vs 7 [] .nil, .int .i64 0] ∧ Ap.kind = .struct [(0, 44, 1), (1, 22, 1), (2, 3, 1)] := ⟨rfl, rfl, rfl⟩
def DC : TI := { size := 3, bytes := 56, agg := true, zero := [.vs 1 [] .nil, .vs 7 [] .nil, .int .i64 0], kind := .struct [(0, 44, 1), (1, 22, 1), (2, 3, 1)], id := 104 }
@[simp] theorem SP : DC.size = 3 := rfl
@[simp] theorem Ul : DC.agg = true ∧ DC.zero = [.vs 1 [] .nil, .vs 7 [] .nil, .int .i64 0] ∧ DC.kind = .struct [(0, 44, 1), (1, 22, 1), (2, 3, 1)] := ⟨rfl, rfl, rfl⟩
def A2 : TI := { size := 3, bytes := 24, agg := true, zero := [.int .i64 0, .int .i64 0, .int .i64 0], kind := .struct [(0, 3, 1), (1, 3, 1), (2, 3, 1)], id := 111 }
@[simp] theorem Hs : A2.size = 3 := rfl
@[simp] theorem Ia : A2.agg = true ∧ A2.zero = [.int .i64 0, .int .i64 0, .int .i64 0] ∧ A2.kind = .struct [(0, 3, 1), (1, 3, 1), (2, 3, 1)] := ⟨rfl, rfl, rfl⟩
def B3 : TI := { size := 3, bytes := 24, agg := true, zero := [.int .i64 0, .int .i64 0, .int .i64 0], kind := .struct [(0, 3, 1), (1, 3, 1), (2, 3, 1)], id := 112 }
@[simp] theorem Sd : B3.size = 3 := rfl
@[simp] theorem Va : B3.agg = true ∧ B3.zero = [.int .i64 0, .int .i64 0, .int .i64 0] ∧ B3.kind = .struct [(0, 3, 1), (1, 3, 1), (2, 3, 1)] := ⟨rfl, rfl, rfl⟩
def Bi : TI := { size := 1, bytes := 24, agg := false, zero := [.vs 1 [] .nil], kind := .slice 118, id := 113 }
@[simp] theorem Vb : Bi.size = 1 := rfl
@[simp] theorem Xl : Bi.agg = false ∧ Bi.zero = [.vs 1 [] .nil] ∧ Bi.kind = .slice 118 := ⟨rfl, rfl, rfl⟩
def AX : TI := { size := 6, bytes := 96, agg := true, zero := [.int .i64 0, .int .i64 0, .int .i64 0, .vs 1 [] .nil, .vs 1 [] .nil, .vs 1 [] .nil], kind := .struct [(0, 112, 3), (3, 44, 1), (4, 113, 1), (5, 54, 1)], id := 114 }
@[simp] theorem Ef : AX.size = 6 := rfl
@[simp] theorem FI : AX.agg = true ∧ AX.zero = [.int .i64 0, .int .i64 0, .int .i64 0, .vs 1 [] .nil, .vs 1 [] .nil, .vs 1 [] .nil] ∧ AX.kind = .struct [(0, 112, 3), (3, 44, 1), (4, 113, 1), (5, 54, 1)] := ⟨rfl, rfl, rfl⟩
def A9 : TI := { size := 6, bytes := 96, agg := true, zero := [.int .i64 0, .int .i64 0, .int .i64 0, .vs 1 [] .nil, .vs 1 [] .nil, .vs 1 [] .nil], kind := .struct [(0, 112, 3), (3, 44, 1), (4, 113, 1), (5, 54, 1)], id := 115 }
@[simp] theorem Sk : A9.size = 6 := rfl
@[simp] theorem Vx : A9.agg = true ∧ A9.zero = [.int .i64 0, .int .i64 0, .int .i64 0, .vs 1 [] .nil, .vs 1 [] .nil, .vs 1 [] .nil] ∧ A9.kind = .struct [(0, 112, 3), (3, 44, 1), (4, 113, 1), (5, 54, 1)] := ⟨rfl, rfl, rfl⟩
def BS : TI := { size := 1, bytes := 24, agg := false, zero := [.vs 6 [] .nil], kind := .slice 49, id := 118 }
@[simp] theorem Wz : BS.size = 1 := rfl
@[simp] theorem ZW : BS.agg = false ∧ BS.zero = [.vs 6 [] .nil] ∧ BS.kind = .slice 49 := ⟨rfl, rfl, rfl⟩
def BV : TI := { size := 8, bytes := 120, agg := true, zero := [.int .i64 0, .bool false, .vs 1 [] .nil, .vs 7 [] .nil, .int .i64 0, .vs 2 [] .nil, .str [], .int .i64 0], kind := .struct [(0, 73, 7), (7, 3, 1)], id := 124 }
@[simp] theorem KX : BV.size = 8 := rfl
@[simp] theorem LQ : BV.agg = true ∧ BV.zero = [.int .i64 0, .bool false, .vs 1 [] .nil, .vs 7 [] .nil, .int .i64 0, .vs 2 [] .nil, .str [], .int .i64 0] ∧ BV.kind = .struct [(0, 73, 7), (7, 3, 1)] := ⟨rfl, rfl, rfl⟩
def Al : TI := { size := 8, bytes := 120, agg := true, zero := [.int .i64 0, .bool false, .vs 1 [] .nil, .vs 7 [] .nil, .int .i64 0, .vs 2 [] .nil, .str [], .int .i64 0], kind := .struct [(0, 73, 7), (7, 3, 1)], id := 125 }
@[simp] theorem R5 : Al.size = 8 := rfl
@[simp] theorem T9 : Al.agg = true ∧ Al.zero = [.int .i64 0, .bool false, .vs 1 [] .nil, .vs 7 [] .nil, .int .i64 0, .vs 2 [] .nil, .str [], .int .i64 0] ∧ Al.kind = .struct [(0, 73, 7), (7, 3, 1)] := ⟨rfl, rfl, rfl⟩
def Lw : TI := { size := 1, bytes := 8, agg := false, zero := [.nil], kind := .ptr 3, id := 131 }
@[simp] theorem ZS : Lw.size = 1 := rfl
@[simp] theorem bq : Lw.agg = false ∧ Lw.zero = [.nil] ∧ Lw.kind = .ptr 3 := ⟨rfl, rfl, rfl⟩
def BJ : TI := { size := 2, bytes := 16, agg := true, zero := [.int .i64 0, .nil], kind := .struct [(0, 3, 1), (1, 97, 1)], id := 132 }
@[simp] theorem KQ : BJ.size = 2 := rfl
@[simp] theorem LH : BJ.agg = true ∧ BJ.zero = [.int .i64 0, .nil] ∧ BJ.kind = .struct [(0, 3, 1), (1, 97, 1)] := ⟨rfl, rfl, rfl⟩
def C4 : TI := { size := 2, bytes := 16, agg := true, zero := [.int .i64 0, .nil], kind := .struct [(0, 3, 1), (1, 97, 1)], id := 133 }
@[simp] theorem UP : C4.size = 2 := rfl
@[simp] theorem W8 : C4.agg = true ∧ C4.zero = [.int .i64 0, .nil] ∧ C4.kind = .struct [(0, 3, 1), (1, 97, 1)] := ⟨rfl, rfl, rfl⟩
def BM : TI := { size := 2, bytes := 40, agg := true, zero := [.str [], .vs 2 [] .nil], kind := .struct [(0, 9, 1), (1, 36, 1)], id := 136 }
@[simp] theorem KN : BM.size = 2 := rfl
@[simp] theorem LE : BM.agg = true ∧ BM.zero = [.str [], .vs 2 [] .nil] ∧ BM.kind = .struct [(0, 9, 1), (1, 36, 1)] := ⟨rfl, rfl, rfl⟩
def GR : TI := { size := 2, bytes := 40, agg := true, zero := [.str [], .vs 2 [] .nil], kind := .struct [(0, 9, 1), (1, 36, 1)], id := 137 }
@[simp] theorem W4 : GR.size = 2 := rfl
@[simp] theorem ZL : GR.agg = true ∧ GR.zero = [.str [], .vs 2 [] .nil] ∧ GR.kind = .struct [(0, 9, 1), (1, 36, 1)] := ⟨rfl, rfl, rfl⟩
def E5 : TI := { size := 1, bytes := 24, agg := false, zero := [.vs 2 [] .nil], kind := .slice 137, id := 138 }
@[simp] theorem VH : E5.size = 1 := rfl
@[simp] theorem X8 : E5.agg = false ∧ E5.zero = [.vs 2 [] .nil] ∧ E5.kind = .slice 137 := ⟨rfl, rfl, rfl⟩
def DV : TI := { size := 1, bytes := 8, agg := false, zero := [.nil], kind := .ptr 40, id := 139 }
@[simp] theorem TD : DV.size = 1 := rfl
@[simp] theorem VS : DV.agg = false ∧ DV.zero = [.nil] ∧ DV.kind = .ptr 40 := ⟨rfl, rfl, rfl⟩
def AW : TI := { size := 5, bytes := 72, agg := true, zero := [.vs 1 [] .nil, .vs 2 [] .nil, .bool false, .int .i64 0, .nil], kind := .struct [(0, 44, 1), (1, 138, 1), (2, 4, 1), (3, 3, 1), (4, 139, 1)], id := 140 }
@[simp] theorem Eh : AW.size = 5 := rfl
@[simp] theorem FG : AW.agg = true ∧ AW.zero = [.vs 1 [] .nil, .vs 2 [] .nil, .bool false, .int .i64 0, .nil] ∧ AW.kind = .struct [(0, 44, 1), (1, 138, 1), (2, 4, 1), (3, 3, 1), (4, 139, 1)] := ⟨rfl, rfl, rfl⟩
def EJ : TI := { size := 5, bytes := 72, agg := true, zero := [.vs 1 [] .nil, .vs 2 [] .nil, .bool false, .int .i64 0, .nil], kind := .struct [(0, 44, 1), (1, 138, 1), (2, 4, 1), (3, 3, 1), (4, 139, 1)], id := 141 }
@[simp] theorem Ux : EJ.size = 5 := rfl
@[simp] theorem Wy : EJ.agg = true ∧ EJ.zero = [.vs 1 [] .nil, .vs 2 [] .nil, .bool false, .int .i64 0, .nil] ∧ EJ.kind = .struct [(0, 44, 1), (1, 138, 1), (2, 4, 1), (3, 3, 1), (4, 139, 1)] := ⟨rfl, rfl, rfl⟩
def Bg : TI := { size := 8, bytes := 136, agg := true, zero := [.int .i64 0, .bool false, .vs 1 [] .nil, .vs 7 [] .nil, .int .i64 0, .vs 2 [] .nil, .str [], .vs 1 [] .nil], kind := .struct [(0, 73, 7), (7, 54, 1)], id := 145 }
@[simp] theorem Lo : Bg.size = 8 := rfl
@[simp] theorem Ml : Bg.agg = true ∧ Bg.zero = [.int .i64 0, .bool false, .vs 1 [] .nil, .vs 7 [] .nil, .int .i64 0, .vs 2 [] .nil, .str [], .vs 1 [] .nil] ∧ Bg.kind = .struct [(0, 73, 7), (7, 54, 1)] := ⟨rfl, rfl, rfl⟩
def BU : TI := { size := 8, bytes := 136, agg := true, zero := [.int .i64 0, .bool false, .vs 1 [] .nil, .vs 7 [] .nil, .int .i64 0, .vs 2 [] .nil, .str [], .vs 1 [] .nil], kind := .struct [(0, 73, 7), (7, 54, 1)], id := 146 }
@[simp] theorem UC : BU.size = 8 := rfl
@[simp] theorem WU : BU.agg = true ∧ BU.zero = [.int .i64 0, .bool false, .vs 1 [] .nil, .vs 7 [] .nil, .int .i64 0, .vs 2 [] .nil, .str [], .vs 1 [] .nil] ∧ BU.kind = .struct [(0, 73, 7), (7, 54, 1)] := ⟨rfl, rfl, rfl⟩
def Hz : TI := { size := 1, bytes := 24, agg := false, zero := [.vs 1 [] .nil], kind := .slice 5, id := 154 }
@[simp] theorem Xx : Hz.size = 1 := rfl
@[simp] theorem Zw : Hz.agg = false ∧ Hz.zero = [.vs 1 [] .nil] ∧ Hz.kind = .slice 5 := ⟨rfl, rfl, rfl⟩
def E1 : TI := { size := 1, bytes := 24, agg := false, zero := [.vs 1 [] .nil], kind := .slice 44, id := 156 }
@[simp] theorem Vf : E1.size = 1 := rfl
@[simp] theorem YR : E1.agg = false ∧ E1.zero = [.vs 1 [] .nil] ∧ E1.kind = .slice 44 := ⟨rfl, rfl, rfl⟩
def ED : TI := { size := 1, bytes := 24, agg := false, zero := [.vs 2 [] .nil], kind := .slice 162, id := 158 }
@[simp] theorem UZ : ED.size = 1 := rfl
@[simp] theorem W1 : ED.agg = false ∧ ED.zero = [.vs 2 [] .nil] ∧ ED.kind = .slice 162 := ⟨rfl, rfl, rfl⟩
def Bd : TI := { size := 2, bytes := 24, agg := true, zero := [.str [], .int .i64 0], kind := .struct [(0, 9, 1), (1, 3, 1)], id := 161 }
@[simp] theorem LI : Bd.size = 2 := rfl
@[simp] theorem MI : Bd.agg = true ∧ Bd.zero = [.str [], .int .i64 0] ∧ Bd.kind = .struct [(0, 9, 1), (1, 3, 1)] := ⟨rfl, rfl, rfl⟩
def F0 : TI := { size := 2, bytes := 24, agg := true, zero := [.str [], .int .i64 0], kind := .struct [(0, 9, 1), (1, 3, 1)], id := 162 }
@[simp] theorem WC : F0.size = 2 := rfl
@[simp] theorem Yh : F0.agg = true ∧ F0.zero = [.str [], .int .i64 0] ∧ F0.kind = .struct [(0, 9, 1), (1, 3, 1)] := ⟨rfl, rfl, rfl⟩
def BN : TI := { size := 7, bytes := 104, agg := true, zero := [.int .i64 0, .int .i64 0, .int .i64 0, .vs 1 [] .nil, .vs 1 [] .nil, .vs 1 [] .nil, .int .i64 0], kind := .struct [(0, 115, 6), (6, 3, 1)], id := 166 }
@[simp] theorem KO : BN.size = 7 := rfl
@[simp] theorem LK : BN.agg = true ∧ BN.zero = [.int .i64 0, .int .i64 0, .int .i64 0, .vs 1 [] .nil, .vs 1 [] .nil, .vs 1 [] .nil, .int .i64 0] ∧ BN.kind = .struct [(0, 115, 6), (6, 3, 1)] := ⟨rfl, rfl, rfl⟩
def CT : TI := { size := 7, bytes := 104, agg := true, zero := [.int .i64 0, .int .i64 0, .int .i64 0, .vs 1 [] .nil, .vs 1 [] .nil, .vs 1 [] .nil, .int .i64 0], kind := .struct [(0, 115, 6), (6, 3, 1)], id := 167 }
@[simp] theorem Tn : CT.size = 7 := rfl
@[simp] theorem VT : CT.agg = true ∧ CT.zero = [.int .i64 0, .int .i64 0, .int .i64 0, .vs 1 [] .nil, .vs 1 [] .nil, .vs 1 [] .nil, .int .i64 0] ∧ CT.kind = .struct [(0, 115, 6), (6, 3, 1)] := ⟨rfl, rfl, rfl⟩
@[simp] theorem Ur : CT.id = CW := rfl
def Bc : TI := { size := 2, bytes := 24, agg := true, zero := [.int .i64 0, .str []], kind := .struct [(0, 3, 1), (1, 9, 1)], id := 171 }
@[simp] theorem LG : Bc.size = 2 := rfl
@[simp] theorem MW : Bc.agg = true ∧ Bc.zero = [.int .i64 0, .str []] ∧ Bc.kind = .struct [(0, 3, 1), (1, 9, 1)] := ⟨rfl, rfl, rfl⟩
def Ah : TI := { size := 2, bytes := 24, agg := true, zero := [.int .i64 0, .str []], kind := .struct [(0, 3, 1), (1, 9, 1)], id := 172 }
@[simp] theorem Vv : Ah.size = 2 := rfl
@[simp] theorem X3 : Ah.agg = true ∧ Ah.zero = [.int .i64 0, .str []] ∧ Ah.kind = .struct [(0, 3, 1), (1, 9, 1)] := ⟨rfl, rfl, rfl⟩
@[simp] theorem Ws : Ah.id = IU := rfl
def BG : TI := { size := 1, bytes := 24, agg := false, zero := [.vs 8 [] .nil], kind := .slice 146, id := 176 }
@[simp] theorem SS : BG.size = 1 := rfl
@[simp] theorem U5 : BG.agg = false ∧ BG.zero = [.vs 8 [] .nil] ∧ BG.kind = .slice 146 := ⟨rfl, rfl, rfl⟩
def BX : TI := { size := 1, bytes := 24, agg := true, zero := [.vs 8 [] .nil], kind := .struct [(0, 176, 1)], id := 177 }
@[simp] theorem Kg : BX.size = 1 := rfl
@[simp] theorem L9 : BX.agg = true ∧ BX.zero = [.vs 8 [] .nil] ∧ BX.kind = .struct [(0, 176, 1)] := ⟨rfl, rfl, rfl⟩
def CU : TI := { size := 1, bytes := 24, agg := true, zero := [.vs 8 [] .nil], kind := .struct [(0, 176, 1)], id := 178 }
@[simp] theorem Tr : CU.size = 1 := rfl
@[simp] theorem VM : CU.agg = true ∧ CU.zero = [.vs 8 [] .nil] ∧ CU.kind = .struct [(0, 176, 1)] := ⟨rfl, rfl, rfl⟩
@[simp] theorem VB : CU.id = B9 := rfl
def Cd : TI := { size := 1, bytes := 8, agg := false, zero := [.nil], kind := .ptr 183, id := 181 }
@[simp] theorem P3 : Cd.size = 1 := rfl
@[simp] theorem SO : Cd.agg = false ∧ Cd.zero = [.nil] ∧ Cd.kind = .ptr 183 := ⟨rfl, rfl, rfl⟩
def Ay : TI := { size := 2, bytes := 32, agg := true, zero := [.nil, .vs 1 [] .nil], kind := .struct [(0, 181, 1), (1, 154, 1)], id := 182 }
@[simp] theorem G9 : Ay.size = 2 := rfl
@[simp] theorem Hr : Ay.agg = true ∧ Ay.zero = [.nil, .vs 1 [] .nil] ∧ Ay.kind = .struct [(0, 181, 1), (1, 154, 1)] := ⟨rfl, rfl, rfl⟩
def CS : TI := { size := 2, bytes := 32, agg := true, zero := [.nil, .vs 1 [] .nil], kind := .struct [(0, 181, 1), (1, 154, 1)], id := 183 }
@[simp] theorem SL : CS.size = 2 := rfl
@[simp] theorem UH : CS.agg = true ∧ CS.zero = [.nil, .vs 1 [] .nil] ∧ CS.kind = .struct [(0, 181, 1), (1, 154, 1)] := ⟨rfl, rfl, rfl⟩
@[simp] theorem Tk : CS.id = E9 := rfl
def By : TI := { size := 1, bytes := 16, agg := false, zero := [.nilifc], kind := .iface, id := 184 }
@[simp] theorem Me : By.size = 1 := rfl
@[simp] theorem N1 : By.agg = false ∧ By.zero = [.nilifc] ∧ By.kind = .iface := ⟨rfl, rfl, rfl⟩
def Lp : TI := { size := 1, bytes := 16, agg := false, zero := [.nilifc], kind := .iface, id := 185 }
@[simp] theorem Yv : Lp.size = 1 := rfl
@[simp] theorem bb : Lp.agg = false ∧ Lp.zero = [.nilifc] ∧ Lp.kind = .iface := ⟨rfl, rfl, rfl⟩
def Dn : TI := { size := 1, bytes := 8, agg := false, zero := [.nil], kind := .ptr 195, id := 190 }
@[simp] theorem UF : Dn.size = 1 := rfl
@[simp] theorem WL : Dn.agg = false ∧ Dn.zero = [.nil] ∧ Dn.kind = .ptr 195 := ⟨rfl, rfl, rfl⟩
def BK : TI := { size := 1, bytes := 8, agg := false, zero := [.nilfn], kind := .func, id := 191 }
@[simp] theorem KR : BK.size = 1 := rfl
@[simp] theorem LL : BK.agg = false ∧ BK.zero = [.nilfn] ∧ BK.kind = .func := ⟨rfl, rfl, rfl⟩
def EI : TI := { size := 1, bytes := 24, agg := false, zero := [.vs 3 [] .nil], kind := .slice 197, id := 193 }
@[simp] theorem Ua : EI.size = 1 := rfl
@[simp] theorem W6 : EI.agg = false ∧ EI.zero = [.vs 3 [] .nil] ∧ EI.kind = .slice 197 := ⟨rfl, rfl, rfl⟩
def Ac : TI := { size := 2, bytes := 32, agg := true, zero := [.vs 3 [] .nil, .nilfn], kind := .struct [(0, 193, 1), (1, 191, 1)], id := 194 }
@[simp] theorem Ew : Ac.size = 2 := rfl
@[simp] theorem FQ : Ac.agg = true ∧ Ac.zero = [.vs 3 [] .nil, .nilfn] ∧ Ac.kind = .struct [(0, 193, 1), (1, 191, 1)] := ⟨rfl, rfl, rfl⟩
def E7 : TI := { size := 2, bytes := 32, agg := true, zero := [.vs 3 [] .nil, .nilfn], kind := .struct [(0, 193, 1), (1, 191, 1)], id := 195 }
@[simp] theorem Vc : E7.size = 2 := rfl
@[simp] theorem XZ : E7.agg = true ∧ E7.zero = [.vs 3 [] .nil, .nilfn] ∧ E7.kind = .struct [(0, 193, 1), (1, 191, 1)] := ⟨rfl, rfl, rfl⟩
def BH : TI := { size := 3, bytes := 48, agg := true, zero := [.str [], .int .i64 0, .vs 1 [] .nil], kind := .struct [(0, 162, 2), (2, 44, 1)], id := 196 }
@[simp] theorem KD : BH.size = 3 := rfl
@[simp] theorem Kj : BH.agg = true ∧ BH.zero = [.str [], .int .i64 0, .vs 1 [] .nil] ∧ BH.kind = .struct [(0, 162, 2), (2, 44, 1)] := ⟨rfl, rfl, rfl⟩
def Ft : TI := { size := 3, bytes := 48, agg := true, zero := [.str [], .int .i64 0, .vs 1 [] .nil], kind := .struct [(0, 162, 2), (2, 44, 1)], id := 197 }
@[simp] theorem Wg : Ft.size = 3 := rfl
@[simp] theorem Yl : Ft.agg = true ∧ Ft.zero = [.str [], .int .i64 0, .vs 1 [] .nil] ∧ Ft.kind = .struct [(0, 162, 2), (2, 44, 1)] := ⟨rfl, rfl, rfl⟩
def EG : TI := { size := 1, bytes := 8, agg := false, zero := [.nil], kind := .ptr 197, id := 199 }
@[simp] theorem U4 : EG.size = 1 := rfl
@[simp] theorem W5 : EG.agg = false ∧ EG.zero = [.nil] ∧ EG.kind = .ptr 197 := ⟨rfl, rfl, rfl⟩
def Cv : TI := { size := 1, bytes := 8, agg := false, zero := [.nil], kind := .ptr 167, id := 204 }
@[simp] theorem RU : Cv.size = 1 := rfl
@[simp] theorem UA : Cv.agg = false ∧ Cv.zero = [.nil] ∧ Cv.kind = .ptr 167 := ⟨rfl, rfl, rfl⟩
def DD : TI := { size := 1, bytes := 8, agg := false, zero := [.nil], kind := .ptr 214, id := 210 }
@[simp] theorem SQ : DD.size = 1 := rfl
@[simp] theorem U0 : DD.agg = false ∧ DD.zero = [.nil] ∧ DD.kind = .ptr 214 := ⟨rfl, rfl, rfl⟩
def B8 : TI := { size := 1, bytes := 8, agg := false, zero := [.nil], kind := .ptr 240, id := 211 }
@[simp] theorem S9 : B8.size = 1 := rfl
@[simp] theorem Vl : B8.agg = false ∧ B8.zero = [.nil] ∧ B8.kind = .ptr 240 := ⟨rfl, rfl, rfl⟩
def A4 : TI := { size := 3, bytes := 24, agg := true, zero := [.nil, .bool false, .int .i64 0], kind := .struct [(0, 211, 1), (1, 4, 1), (2, 3, 1)], id := 213 }
@[simp] theorem Hq : A4.size = 3 := rfl
@[simp] theorem IP : A4.agg = true ∧ A4.zero = [.nil, .bool false, .int .i64 0] ∧ A4.kind = .struct [(0, 211, 1), (1, 4, 1), (2, 3, 1)] := ⟨rfl, rfl, rfl⟩
def CP : TI := { size := 3, bytes := 24, agg := true, zero := [.nil, .bool false, .int .i64 0], kind := .struct [(0, 211, 1), (1, 4, 1), (2, 3, 1)], id := 214 }
@[simp] theorem UE : CP.size = 3 := rfl
@[simp] theorem WQ : CP.agg = true ∧ CP.zero = [.nil, .bool false, .int .i64 0] ∧ CP.kind = .struct [(0, 211, 1), (1, 4, 1), (2, 3, 1)] := ⟨rfl, rfl, rfl⟩
@[simp] theorem VV : CP.id = A3 := rfl
def OJ : TI := { size := 1, bytes := 8, agg := false, zero := [.int .u64 0], kind := .int .u64, id := 219 }
@[simp] theorem Z9 : OJ.size = 1 := rfl
@[simp] theorem dA : OJ.agg = false ∧ OJ.zero = [.int .u64 0] ∧ OJ.kind = .int .u64 := ⟨rfl, rfl, rfl⟩
def H1 : TI := { size := 1, bytes := 8, agg := false, zero := [.nil], kind := .ptr 5, id := 223 }
@[simp] theorem XR : H1.size = 1 := rfl
@[simp] theorem aE : H1.agg = false ∧ H1.zero = [.nil] ∧ H1.kind = .ptr 5 := ⟨rfl, rfl, rfl⟩
def AR : TI := { size := 1, bytes := 16, agg := false, zero := [.nilifc], kind := .iface, id := 224 }
@[simp] theorem Ek : AR.size = 1 := rfl
@[simp] theorem FD : AR.agg = false ∧ AR.zero = [.nilifc] ∧ AR.kind = .iface := ⟨rfl, rfl, rfl⟩
def DF : TI := { size := 1, bytes := 16, agg := false, zero := [.nilifc], kind := .iface, id := 225 }
@[simp] theorem SR : DF.size = 1 := rfl
@[simp] theorem UL : DF.agg = false ∧ DF.zero = [.nilifc] ∧ DF.kind = .iface := ⟨rfl, rfl, rfl⟩
def DL : TI := { size := 10, bytes := 160, agg := true, zero := [.str [], .str [], .str [], .str [], .str [], .str [], .str [], .str [], .str [], .str []], kind := .array 10 9, id := 235 }
@[simp] theorem Wj : DL.size = 10 := rfl
@[simp] theorem Yj : DL.agg = true ∧ DL.zero = [.str [], .str [], .str [], .str [], .str [], .str [], .str [], .str [], .str [], .str []] ∧ DL.kind = .array 10 9 := ⟨rfl, rfl, rfl⟩
def Cu : TI := { size := 1, bytes := 16, agg := true, zero := [.str []], kind := .struct [(0, 9, 1)], id := 239 }
@[simp] theorem Rl : Cu.size = 1 := rfl
@[simp] theorem UD : Cu.agg = true ∧ Cu.zero = [.str []] ∧ Cu.kind = .struct [(0, 9, 1)] := ⟨rfl, rfl, rfl⟩
def C5 : TI := { size := 1, bytes := 16, agg := true, zero := [.str []], kind := .struct [(0, 9, 1)], id := 240 }
@[simp] theorem Uf : C5.size = 1 := rfl
@[simp] theorem W2 : C5.agg = true ∧ C5.zero = [.str []] ∧ C5.kind = .struct [(0, 9, 1)] := ⟨rfl, rfl, rfl⟩
@[simp] theorem V4 : C5.id = Bz := rfl
def JV : TI := { size := 1, bytes := 4, agg := false, zero := [.int .u32 0], kind := .int .u32, id := 244 }
@[simp] theorem Yf : JV.size = 1 := rfl
@[simp] theorem ab : JV.agg = false ∧ JV.zero = [.int .u32 0] ∧ JV.kind = .int .u32 := ⟨rfl, rfl, rfl⟩
def Bj : TI := { size := 0, bytes := 0, agg := true, zero := [], kind := .array 0 16, id := 302 }
@[simp] theorem LX : Bj.size = 0 := rfl
@[simp] theorem Md : Bj.agg = true ∧ Bj.zero = [] ∧ Bj.kind = .array 0 16 := ⟨rfl, rfl, rfl⟩
def BB : TI := { size := 0, bytes := 0, agg := true, zero := [], kind := .struct [(0, 302, 0)], id := 303 }
@[simp] theorem I7 : BB.size = 0 := rfl
@[simp] theorem KM : BB.agg = true ∧ BB.zero = [] ∧ BB.kind = .struct [(0, 302, 0)] := ⟨rfl, rfl, rfl⟩
def B6 : TI := { size := 0, bytes := 0, agg := true, zero := [], kind := .struct [(0, 302, 0)], id := 304 }
@[simp] theorem NR : B6.size = 0 := rfl
@[simp] theorem PX : B6.agg = true ∧ B6.zero = [] ∧ B6.kind = .struct [(0, 302, 0)] := ⟨rfl, rfl, rfl⟩
def Fy : TI := { size := 1, bytes := 1, agg := false, zero := [.int .u8 0], kind := .int .u8, id := 305 }
@[simp] theorem Wi : Fy.size = 1 := rfl
@[simp] theorem Yn : Fy.agg = false ∧ Fy.zero = [.int .u8 0] ∧ Fy.kind = .int .u8 := ⟨rfl, rfl, rfl⟩
def GW : TI := { size := 1, bytes := 1, agg := false, zero := [.int .u8 0], kind := .int .u8, id := 306 }
@[simp] theorem Ww : GW.size = 1 := rfl
@[simp] theorem Y6 : GW.agg = false ∧ GW.zero = [.int .u8 0] ∧ GW.kind = .int .u8 := ⟨rfl, rfl, rfl⟩
def A0 : TI := { size := 1, bytes := 8, agg := false, zero := [.nilfn], kind := .func, id := 307 }
@[simp] theorem Hm : A0.size = 1 := rfl
@[simp] theorem IB : A0.agg = false ∧ A0.zero = [.nilfn] ∧ A0.kind = .func := ⟨rfl, rfl, rfl⟩
def EB : TI := { size := 1, bytes := 4, agg := false, zero := [.int .i32 0], kind := .int .i32, id := 308 }
@[simp] theorem Ub : EB.size = 1 := rfl
@[simp] theorem Wx : EB.agg = false ∧ EB.zero = [.int .i32 0] ∧ EB.kind = .int .i32 := ⟨rfl, rfl, rfl⟩
def D7 : TI := { size := 1, bytes := 4, agg := false, zero := [.int .i32 0], kind := .int .i32, id := 309 }
@[simp] theorem UX : D7.size = 1 := rfl
@[simp] theorem Wp : D7.agg = false ∧ D7.zero = [.int .i32 0] ∧ D7.kind = .int .i32 := ⟨rfl, rfl, rfl⟩
def AU : TI := { size := 11, bytes := 48, agg := true, zero := [.int .u64 0, .int .u64 0, .int .u32 0, .int .u8 0, .int .u8 0, .int .u8 0, .int .u8 0, .nilfn, .nil, .int .i32 0, .int .i32 0], kind := .struct [(0, 12, 1), (1, 12, 1), (2, 244, 1), (3, 305, 1), (4, 5, 1), (5, 5, 1), (6, 306, 1), (7, 307, 1), (8, 223, 1), (9, 308, 1), (10, 309, 1)], id := 310 }
@[simp] theorem Eg : AU.size = 11 := rfl
@[simp] theorem FF : AU.agg = true ∧ AU.zero = [.int .u64 0, .int .u64 0, .int .u32 0, .int .u8 0, .int .u8 0, .int .u8 0, .int .u8 0, .nilfn, .nil, .int .i32 0, .int .i32 0] ∧ AU.kind = .struct [(0, 12, 1), (1, 12, 1), (2, 244, 1), (3, 305, 1), (4, 5, 1), (5, 5, 1), (6, 306, 1), (7, 307, 1), (8, 223, 1), (9, 308, 1), (10, 309, 1)] := ⟨rfl, rfl, rfl⟩
def Gt : TI := { size := 11, bytes := 48, agg := true, zero := [.int .u64 0, .int .u64 0, .int .u32 0, .int .u8 0, .int .u8 0, .int .u8 0, .int .u8 0, .nilfn, .nil, .int .i32 0, .int .i32 0], kind := .struct [(0, 12, 1), (1, 12, 1), (2, 244, 1), (3, 305, 1), (4, 5, 1), (5, 5, 1), (6, 306, 1), (7, 307, 1), (8, 223, 1), (9, 308, 1), (10, 309, 1)], id := 311 }
@[simp] theorem W3 : Gt.size = 11 := rfl
@[simp] theorem Zk : Gt.agg = true ∧ Gt.zero = [.int .u64 0, .int .u64 0, .int .u32 0, .int .u8 0, .int .u8 0, .int .u8 0, .int .u8 0, .nilfn, .nil, .int .i32 0, .int .i32 0] ∧ Gt.kind = .struct [(0, 12, 1), (1, 12, 1), (2, 244, 1), (3, 305, 1), (4, 5, 1), (5, 5, 1), (6, 306, 1), (7, 307, 1), (8, 223, 1), (9, 308, 1), (10, 309, 1)] := ⟨rfl, rfl, rfl⟩
def Zj : Nat → TI
 | 1 => PV
 | 2 => Ld
 | 3 => Aj
 | 4 => C3
 | 5 => Dh
 | 6 => CF
 | 7 => AS
 | 8 => CC
 | 9 => AF
 | 10 => CB
 | 12 => H5
 | 16 => Bv
 | 17 => E4
 | 20 => Fz
 | 21 => LP
 | 22 => Au
 | 23 => An
 | 24 => Cn
 | 27 => CA
 | 28 => BD
 | 29 => Ai
 | 32 => BR
 | 33 => Bb
 | 34 => Fv
 | 35 => EN
 | 36 => Ez
 | 37 => Ax
 | 38 => Eo
 | 39 => BL
 | 40 => EF
 | 41 => F1
 | 44 => A1
 | 45 => AZ
 | 46 => E0
 | 48 => AY
 | 49 => Bl
 | 54 => HL
 | 56 => BZ
 | 60 => DW
 | 63 => CD
 | 67 => BY
 | 68 => EL
 | 69 => Ce
 | 71 => As
 | 72 => AT
 | 73 => AB
 | 80 => Bf
 | 88 => DY
 | 96 => Ak
 | 97 => Cs
 | 103 => Ap
 | 104 => DC
 | 111 => A2
 | 112 => B3
 | 113 => Bi
 | 114 => AX
 | 115 => A9
 | 118 => BS
 | 124 => BV
 | 125 => Al
 | 131 => Lw
 | 132 => BJ
 | 133 => C4
 | 136 => BM
 | 137 => GR
 | 138 => E5
 | 139 => DV
 | 140 => AW
 | 141 => EJ
 | 145 => Bg
 | 146 => BU
 | 154 => Hz
 | 156 => E1
 | 158 => ED
 | 161 => Bd
 | 162 => F0
 | 166 => BN
 | 167 => CT
 | 171 => Bc
 | 172 => Ah
 | 176 => BG
 | 177 => BX
 | 178 => CU
 | 181 => Cd
 | 182 => Ay
 | 183 => CS
 | 184 => By
 | 185 => Lp
 | 190 => Dn
 | 191 => BK
 | 193 => EI
 | 194 => Ac
 | 195 => E7
 | 196 => BH
 | 197 => Ft
 | 199 => EG
 | 204 => Cv
 | 210 => DD
 | 211 => B8
 | 213 => A4
 | 214 => CP
 | 219 => OJ
 | 223 => H1
 | 224 => AR
 | 225 => DF
 | 235 => DL
 | 239 => Cu
 | 240 => C5
 | 244 => JV
 | 302 => Bj
 | 303 => BB
 | 304 => B6
 | 305 => Fy
 | 306 => GW
 | 307 => A0
 | 308 => EB
 | 309 => D7
 | 310 => AU
 | 311 => Gt
 | n => { size := 0, bytes := 0, agg := false, zero := [], kind := match n with | 0 | 30 | 42 | 61 | 64 | 74 | 76 | 79 | 89 | 92 | 95 | 116 | 120 | 122 | 134 | 143 | 150 | 173 | 186 | 205 | 208 | 220 | 233 | 237 | 245 | 248 | 251 | 259 | 272 | 278 | 287 => .tuple | _ => .other }
def aF : Nat → Nat → Bool
 | 3, 3 => true
 | 3, 7 => true
 | 3, 9 => true
 | 3, 11 => true
 | 3, 12 => true
 | 4, 3 => true
 | 4, 5 => true
 | 6, 5 => true
 | 6, 14 => true
 | 6, 16 => true
 | 7, 9 => true
 | 7, 12 => true
 | 7, 16 => true
 | 7, 18 => true
 | 8, 1 => true
 | 9, 4 => true
 | 10, 2 => true
 | 10, 5 => true
 | 10, 6 => true
 | 11, 2 => true
 | 11, 9 => true
 | 11, 11 => true
 | 11, 13 => true
 | 12, 3 => true
 | 12, 6 => true
 | 12, 14 => true
 | 13, 2 => true
 | 13, 3 => true
 | 13, 4 => true
 | 13, 6 => true
 | 14, 1 => true
 | 14, 3 => true
 | 14, 4 => true
 | 14, 5 => true
 | 15, 2 => true
 | 15, 3 => true
 | 16, 5 => true
 | 16, 6 => true
 | 16, 7 => true
 | 16, 10 => true
 | 21, 1 => true
 | 22, 3 => true
 | 22, 4 => true
 | 22, 5 => true
 | 22, 6 => true
 | 23, 2 => true
 | 23, 7 => true
 | 24, 7 => true
 | 26, 1 => true
 | 26, 3 => true
 | 27, 1 => true
 | 28, 2 => true
 | 28, 4 => true
 | 29, 1 => true
 | 30, 2 => true
 | 30, 4 => true
 | 31, 2 => true
 | 31, 4 => true
 | 31, 6 => true
 | 32, 4 => true
 | 33, 2 => true
 | 34, 1 => true
 | 35, 1 => true
 | 36, 2 => true
 | 38, 1 => true
 | 40, 2 => true
 | 40, 3 => true
 | 40, 4 => true
 | 41, 3 => true
 | 41, 6 => true
 | 41, 8 => true
 | 41, 10 => true
 | 42, 2 => true
 | 44, 5 => true
 | 45, 2 => true
 | 46, 2 => true
 | 47, 6 => true
 | 48, 6 => true
 | 51, 9 => true
 | 52, 2 => true
 | 52, 7 => true
 | 52, 11 => true
 | 54, 2 => true
 | 55, 1 => true
 | 56, 4 => true
 | 57, 2 => true
 | 57, 4 => true
 | 58, 4 => true
 | 58, 5 => true
 | 58, 6 => true
 | 58, 15 => true
 | 59, 1 => true
 | 63, 3 => true
 | 63, 8 => true
 | 63, 10 => true
 | 64, 1 => true
 | 65, 1 => true
 | 66, 1 => true
 | 69, 2 => true
 | 70, 8 => true
 | 72, 4 => true
 | 76, 10 => true
 | 77, 2 => true
 | 79, 11 => true
 | 81, 5 => true
 | 86, 12 => true
 | 89, 2 => true
 | 89, 5 => true
 | 91, 1 => true
 | 92, 3 => true
 | 92, 6 => true
 | 92, 8 => true
 | 93, 1 => true
 | 102, 2 => true
 | 102, 3 => true
 | 113, 2 => true
 | 115, 4 => true
 | 115, 5 => true
 | 118, 3 => true
 | 118, 11 => true
 | 121, 1 => true
 | 138, 0 => true
 | 142, 1 => true
 | 143, 7 => true
 | 144, 1 => true
 | 221, 4 => true
 | _, _ => false
def XE : Nat → Nat → List Nat × List Nat
 | 6, 17 => ([69], [5])
 | 7, 7 => ([7, 32], [])
 | 9, 4 => ([10], [])
 | 10, 4 => ([14], [2])
 | 11, 5 => ([30], [2])
 | 12, 4 => ([], [3, 6])
 | 15, 4 => ([5], [2, 3])
 | 17, 3 => ([3, 7], [])
 | 18, 3 => ([3, 6], [])
 | 25, 3 => ([3, 4], [])
 | 28, 3 => ([11], [2, 4])
 | 31, 3 => ([11], [2, 4])
 | 38, 3 => ([3, 7], [1])
 | 39, 1 => ([], [])
 | 41, 3 => ([17], [3, 8])
 | 48, 2 => ([5], [])
 | 48, 7 => ([7, 8], [6])
 | 49, 5 => ([9, 10], [])
 | 52, 3 => ([22], [2])
 | 52, 11 => ([9, 45], [2])
 | 53, 3 => ([3, 4], [])
 | 53, 6 => ([3, 5], [])
 | 53, 11 => ([6, 7], [])
 | 54, 4 => ([16], [2])
 | 55, 5 => ([3, 4], [1])
 | 55, 14 => ([3, 6], [1])
 | 58, 13 => ([0, 7, 9], [4, 5, 6])
 | 58, 28 => ([0, 7, 13], [4, 5, 6])
 | 62, 3 => ([0, 3, 4], [])
 | 62, 5 => ([5], [])
 | 63, 3 => ([27], [])
 | 63, 11 => ([59], [])
 | 64, 2 => ([3], [1])
 | 65, 3 => ([3, 4], [1])
 | 66, 3 => ([3, 4], [1])
 | 67, 4 => ([2, 17], [])
 | 75, 6 => ([0, 4, 5, 6], [])
 | 77, 2 => ([5], [2])
 | 78, 2 => ([5], [])
 | 79, 6 => ([32], [])
 | 81, 3 => ([3, 8], [])
 | 82, 4 => ([4, 13], [])
 | 82, 12 => ([7], [])
 | 83, 4 => ([5, 6, 7], [])
 | 84, 7 => ([6], [])
 | 87, 3 => ([1, 8], [])
 | 92, 5 => ([29], [6])
 | 95, 3 => ([7, 8], [])
 | 96, 4 => ([3], [])
 | 97, 3 => ([5, 6], [])
 | 103, 2 => ([3], [])
 | 107, 2 => ([5], [])
 | 108, 3 => ([5, 6], [])
 | 109, 3 => ([3, 4], [])
 | 111, 3 => ([4, 11], [])
 | 112, 5 => ([4, 5], [])
 | 113, 5 => ([24], [2])
 | 115, 11 => ([6], [5])
 | 115, 19 => ([9], [5])
 | 117, 3 => ([3, 4], [])
 | 118, 16 => ([66], [])
 | 120, 4 => ([5], [])
 | 121, 4 => ([3], [1])
 | 129, 2 => ([7], [])
 | 130, 0 => ([1], [])
 | 139, 9 => ([11, 31], [])
 | 143, 3 => ([5, 10], [])
 | 144, 2 => ([8], [1])
 | 161, 5 => ([6, 24], [])
 | _, _ => ([], [])
def XK : List Nat := [1, 2, 3, 4, 5, 6, 7, 8, 9, 10, 12, 16, 17, 20, 21, 22, 23, 24, 27, 28, 29, 32, 33, 34, 35, 36, 37, 38, 39, 40, 41, 44, 45, 46, 48, 49, 54, 56, 60, 63, 67, 68, 69, 71, 72, 73, 80, 88, 96, 97, 103, 104, 111, 112, 113, 114, 115, 118, 124, 125, 131, 132, 133, 136, 137, 138, 139, 140, 141, 145, 146, 154, 156, 158, 161, 162, 166, 167, 171, 172, 176, 177, 178, 181, 182, 183, 184, 185, 190, 191, 193, 194, 195, 196, 197, 199, 204, 210, 211, 213, 214, 219, 223, 224, 225, 235, 239, 240, 244, 302, 303, 304, 305, 306, 307, 308, 309, 310, 311]
def eF : Nat := 8335551215160717065041454889822338685185543817756648419465608765783909903573824827843752957950
def Td (t : Nat) : Bool := Nat.testBit eF t
def ZC : List Nat := [7, 8, 33, 34, 48, 49, 67, 68, 69, 111, 112, 161, 162, 171, 172, 239, 240]
def VG : Nat → Bool
 | 7 => true
 | 8 => true
 | 33 => true
 | 34 => true
 | 48 => true
 | 49 => true
 | 67 => true
 | 68 => true
 | 69 => true
 | 111 => true
 | 112 => true
 | 161 => true
 | 162 => true
 | 171 => true
 | 172 => true
 | 239 => true
 | 240 => true
 | _ => false
def Yy : Nat → Bool
 | 146 => true
 | 197 => true
 | _ => false
def OE (t : Nat) (m : String) : Option Nat :=
 match t with
 | 190 => if m = "Len" then some MP else if m = "Less" then some Lm else if m = "Pop" then some MS else if m = "Swap" then some L1 else none
 | _ => none
def cY : Nat → Nat → Bool
 | 67, 2 => true
 | 67, 3 => true
 | 67, 4 => true
 | 67, 38 => true
 | 67, 40 => true
 | 67, 43 => true
 | _, _ => false
def C : Ctx := { ty := Zj, has := Td, eqk := VG, loc := aF, byref := Yy, meth := OE, live := XE, tk := cY }
@[simp] theorem eD : C.meth = OE := rfl
noncomputable def En (w0 : World) : Env := ⟨Tryz.prog, C, w0⟩
theorem Sa {m n t : Nat} (h : Nat.ble (m.log2 + 1) n = true) (c : ¬ t < n) : m.testBit t = false := by
 by_cases h0 : m = 0
 ·rw [h0]; exact Nat.zero_testBit t
 ·exact Nat.testBit_lt_two_pow (Nat.lt_of_lt_of_le ((Nat.log2_lt h0).1 (Nat.le_of_ble_eq_true h)) (Nat.pow_le_pow_right (by decide) (Nat.le_of_not_lt c)))
theorem Qw : ∀ t, Td t = true → XK.elem t = true := by
 intro t h
 by_cases c : t < 312
 ·have h2 := List.all_eq_true.1 (show (List.range 312).all (fun t => !(Td t) || XK.elem t) = true by kernel_rfl) t (List.mem_range.2 c)
  rw [h] at h2
  simpa using h2
 ·unfold Td at h
  rw [Sa (n := 312) (by kernel_rfl) c] at h
  cases h
theorem Qp : ∀ t, VG t = true → ZC.elem t = true := by
 intro t h
 unfold VG at h
 split at h <;> first | rfl | cases h
theorem Z0 : XK.all (fun t => Nr Tryz.prog t (Zj t)) = true := by kernel_rfl
theorem Z3 : ZC.all (fun t => JX Tryz.prog t (Zj t).zero) = true := by kernel_rfl
theorem dX (v : Value) (w : World) : (method (Tryz.prog.types.size + Made.depth) 190 v "Len").run Tryz.prog w = .ok (104, v) w := by kernel_rfl
theorem dR (v : Value) (w : World) : (method (Tryz.prog.types.size + Made.depth) 190 v "Less").run Tryz.prog w = .ok (220, v) w := by kernel_rfl
theorem dF (v : Value) (w : World) : (method (Tryz.prog.types.size + Made.depth) 190 v "Pop").run Tryz.prog w = .ok (221, v) w := by kernel_rfl
theorem de (v : Value) (w : World) : (method (Tryz.prog.types.size + Made.depth) 190 v "Swap").run Tryz.prog w = .ok (222, v) w := by kernel_rfl
theorem Xr : ∀ t m g, OE t m = some g → ∀ v w, (method (Tryz.prog.types.size + Made.depth) t v m).run Tryz.prog w = .ok (g, v) w := by
 intro t m g h v w
 unfold OE at h
 split at h
 ·split at h
  ·rename_i e; subst e; cases h; exact dX v w
  split at h
  ·rename_i e; subst e; cases h; exact dR v w
  split at h
  ·rename_i e; subst e; cases h; exact dF v w
  split at h
  ·rename_i e; subst e; cases h; exact de v w
  cases h
 ·cases h
theorem agree (w0 : World) : Agree (En w0) := TX (En w0) XK ZC Qw Qp Z0 Z3 Xr
theorem mixed : Tryz.prog.follows .mixedOrders = true := by kernel_rfl
theorem TB (w0 : World) : HM (En w0) (AM (En w0)) := fun _ _ _ _ h => h
theorem J6 (w0 : World) : CV (AM (En w0)) := fun g xs S Q Q' h hq => ⟨h.1, fun G w hr hro args' hl ha => (h.2 G w hr hro args' hl ha).mono fun e w' ⟨v, r, S', G', h1, h2, h3⟩ => ⟨v, r, S', G', h1, hq _ _ h2, h3⟩⟩
theorem BW (w0 : World) {n : Nat} {fn : Func} (hf : Tryz.prog.funcs[n]? = some fn) (hname : (fn.name == "runtime.NumGoroutine") = false) {args : List AV} {S : St} {Q : AV → St → Prop}
  (h : WF C (AM (En w0)) n (Drw C (AM (En w0)) n) fn args S Q) : AM (En w0) n args S Q :=
 TP (E := En w0) (agree w0) (TB w0) (J6 w0) (Q0 (agree w0) (TB w0) (J6 w0) mixed) (TA (J6 w0)) hf hname h
abbrev AC (w0 : World) := AM (En w0)
def XP : Nat → Bool
 | 118 => true
 | 146 => true
 | 197 => true
 | _ => false
def C0 : Ctx := { ty := Zj, has := Td, eqk := VG, loc := aF, byref := XP, meth := OE, live := XE, tk := cY }
noncomputable def En0 (w0 : World) : Env := ⟨Tryz.prog, C0, w0⟩
theorem XS (w0 : World) : Agree (En0 w0) := TX (En0 w0) XK ZC Qw Qp Z0 Z3 Xr
theorem bA (w0 : World) {n : Nat} {fn : Func} (hf : Tryz.prog.funcs[n]? = some fn) (hname : (fn.name == "runtime.NumGoroutine") = false) {args : List AV} {S : St} {Q : AV → St → Prop}
  (h : WF C0 (AM (En w0)) n (Drw C0 (AM (En w0)) n) fn args S Q) : AM (En w0) n args S Q :=
 AM.ctx (E := En0 w0) (E' := En w0) rfl rfl (TP (E := En0 w0) (Ca := AM (En w0)) (XS w0) (fun _ _ _ _ h => AM.ctx (E := En w0) (E' := En0 w0) rfl rfl h) (J6 w0) (Q0 (Ca := AM (En w0)) (XS w0) (fun _ _ _ _ h => AM.ctx (E := En w0) (E' := En0 w0) rfl rfl h) (J6 w0) mixed) (TA (J6 w0)) hf hname h)
abbrev Ro := @Tryz.underlying3
abbrev Y1 := @Tryz.underlying4
abbrev YT := @Tryz.underlying5
abbrev J9 := @Tryz.underlying9
abbrev Ci := @Tryz.underlying22
abbrev Te := @Tryz.underlying44
abbrev ND := @Tryz.underlying71
abbrev DO := @Tryz.underlying73
abbrev PZ := @Tryz.underlying172
theorem V5 : Tryz.prog.cellsOf CN = 1 := by kernel_rfl
theorem Jq : Tryz.prog.cellsOf Iu = 7 := by kernel_rfl
theorem QJ : Tryz.prog.cellsOf IU = 2 := by kernel_rfl
abbrev H3 := @Tryz.func85
abbrev IR := @Tryz.func122
abbrev Jn := @Tryz.func135
abbrev PD := @Tryz.func136
abbrev KJ := @Tryz.func137
abbrev NY := @Tryz.func156
abbrev NB := @Tryz.func157
abbrev LR := @Tryz.func160
set_option maxHeartbeats 2000000
open Go.Proofs
def Do (Ca : Nat → List AV → St → (AV → St → Prop) → Prop) (a0 : List (List AV)) (a0r : Rt) (a1 : List UInt8) (a2 : Int) (S0 : St) (Q : AV → St → Prop) : Prop :=
 Ca G5 [] S0 fun t20 S =>
 AA (unA .not t20) fun t21 =>
 ifK t21
 (Q (.bool false) S)
 (Ca JH [(.vs 7 a0 (Rt.strip (Rt.strip a0r)))] S fun t23 S_2 =>
 AA (AI .eql t23 (.int .i64 0)) fun t24 =>
 AJ (fun (x28 : AV) =>
 AA (Aa (AV.strip t24) (.bool true) x28) fun t29 =>
 ifK (AV.strip t29)
 (Q (.bool true) S_2)
 (AJ (fun (x7 : AV) (S_5 : St) =>
 Az Ca E6 [(AV.strip x7)] S_5 fun t48 S_6 =>
 AA (AL t48 0) fun t49 =>
 AA (AL (AN t48 0) 1) fun t50 =>
 AA (AP Ai (some [(.vs 2 [] .nil), (.int .i64 0)]) 0 t49) fun b12 =>
 AA (AI .neq (AV.strip t50) (.int .i64 0)) fun t52 =>
 AJ (fun (x58 : AV) (S_8 : St) =>
 AA (Aa (AV.strip t52) (.bool true) x58) fun t59 =>
 ifK (AV.strip t59)
 (Q (.bool false) S_8)
 (AA (A7 (AV.strip x7)) fun t63 =>
 AA (AI .add t63 (.int .i64 1)) fun t64 =>
 AA (AI .rem (.int .i64 (IntKind.i64.wrap a2)) t64) fun t65 =>
 AA (Cm AF (AV.strip x7) none (some (AV.strip t65)) none) fun t69 =>
 AA (Ao AF S_8 (.vs 1 [] .full) t69) fun t70 =>
 AA (Ao AF S_8 t70 (.vs 1 [[(.str a1)]] .full)) fun t73 =>
 AA (Cm AF (AV.strip x7) (some (AV.strip t65)) none none) fun t76 =>
 AA (Ao AF S_8 t73 t76) fun t77 =>
 Ca Gi [(.str a1)] S_8 fun t80 S_9 =>
 AA (AL t80 0) fun t81 =>
 AA (AL (AN t80 0) 1) fun t82 =>
 AA (AP AB (some [(.int .i64 0), (.bool false), (.vs 1 [] .nil), (.vs 7 [] .nil), (.int .i64 0), (.vs 2 [] .nil), (.str [])]) 0 t81) fun b16 =>
 Az Ca E6 [(AV.strip t77)] S_9 fun t85 S_10 =>
 AA (AL t85 0) fun t86 =>
 AA (AL (AN t85 0) 1) fun t87 =>
 AA (AP Ai (some [(.vs 2 [] .nil), (.int .i64 0)]) 0 t86) fun b18 =>
 AJ (fun (x91 : AV) =>
 AA (Aa (AV.strip (AV.strip t82)) x91 (.bool false)) fun t92 =>
 AJ (fun (x98 : AV) (S_12 : St) =>
 AA (Aa (AV.strip (AV.strip t92)) x98 (.bool false)) fun t99 =>
 AJ (fun (x111 : AV) (S_15 : St) =>
 AA (Aa (AV.strip (AV.strip t99)) (.bool true) x111) fun t112 =>
 Q (AV.strip t112) S_15) fun j_5 =>
 ifK (AV.strip (AV.strip t99))
 (j_5 (.tup []) S_12)
 (AA (unA .not (AV.strip t82)) fun t102 =>
 AJ (fun (x105 : AV) =>
 AA (Aa (AV.strip t102) x105 (.bool false)) fun t106 =>
 AJ (fun (x110 : AV) (S_14 : St) =>
 AA (Aa (AV.strip (AV.strip t106)) x110 (.bool false)) fun t111 =>
 j_5 (AV.strip t111) S_14) fun j_3 =>
 gK (AV.strip (AV.strip t106))
 (AA (AG Ai (some b18) 0) fun t108 =>
 Az Ca Cq [(AV.strip t108)] S_12 fun t109 S_13 =>
 AA (AI .eql t109 (.int .i64 0)) fun t110 =>
 j_3 t110 S_13)
 (j_3 (.tup []) S_12)
 (j_3 (.tup []) S_12)) fun j_4 =>
 gK (AV.strip t102)
 (AA (AI .eql (AV.strip t87) (.int .i64 1)) fun t105 =>
 j_4 t105)
 (j_4 (.tup []))
 (j_4 (.tup [])))) fun j_6 =>
 ifK (AV.strip (AV.strip t92))
 (AA (AG Ai (some b18) 0) fun t94 =>
 Az Ca Cq [(AV.strip t94)] S_10 fun t95 S_11 =>
 AA (A7 (AV.strip t77)) fun t97 =>
 AA (AI .eql t95 t97) fun t98 =>
 j_6 t98 S_11)
 (j_6 (.tup []) S_10)) fun j_7 =>
 ifK (AV.strip (AV.strip t82))
 (AA (AI .eql (AV.strip t87) (.int .i64 0)) fun t91 =>
 j_7 t91)
 (j_7 (.tup [])))) fun j_2 =>
 ifK (AV.strip t52)
 (j_2 (.tup []) S_6)
 (AA (AG Ai (some b12) 0) fun t54 =>
 Az Ca Cq [(AV.strip t54)] S_6 fun t55 S_7 =>
 AA (AI .neq t55 (.int .i64 (List.length a0 : Int))) fun t58 =>
 j_2 t58 S_7)) fun j_8 =>
 CE ([(.vs 1 [] .nil), (.int .i64 0)], []) (fun v bx => ([v 7, v 32], [])) (fun nx v bx S_3 =>
 AA (AI .lss (v 32) (.int .i64 (List.length a0 : Int))) fun t33 =>
 ifK t33
 (AA (Aq AB (.vs 7 a0 (Rt.strip a0r)) (v 32)) fun t34 =>
 AA (Ad AB S_3 t34) fun t35 =>
 AA (AP AB (some [(.int .i64 0), (.bool false), (.vs 1 [] .nil), (.vs 7 [] .nil), (.int .i64 0), (.vs 2 [] .nil), (.str [])]) 0 (AV.strip t35)) fun b9 =>
 AA (AG AB (some b9) 0) fun t37 =>
 Az Ca GU [(AV.strip t37)] S_3 fun t38 S_4 =>
 AA (AL t38 0) fun t39 =>
 AA (AL (AN t38 0) 1) fun t40 =>
 AA (Bm 1 [(AV.strip t39)]) fun e43 =>
 AA (Ao AF S_4 (v 7) (.vs 1 e43 .full)) fun t44 =>
 AA (AI .add (v 32) (.int .i64 1)) fun t45 =>
 nx ([t44, (AV.strip t45)], []) S_4)
 (j_8 (v 7) S_3)) S_2)) fun j =>
 ifK (AV.strip t24)
 (j (.tup []))
 (j (.bool (decide ((List.length a1 : Int) > 500)))))
theorem I6 (Ca) (a0 : List (List AV)) (a0r : Rt) (a1 : List UInt8) (a2 : Int) (S0 Q) : WF C Ca 7 (Drw C Ca 7) Tryz.f7 [(.vs 7 a0 a0r), (.str a1), (.int .u8 a2)] S0 Q = Do Ca a0 a0r a1 a2 S0 Q := by kernel_rfl
theorem I5 {w0 : World} {a0 : List (List AV)} {a0r : Rt} {a1 : List UInt8} {a2 : Int} {S0 : St} {Q : AV → St → Prop} (h : Do (AM (En w0)) a0 a0r a1 a2 S0 Q) : AC w0 Fu [(.vs 7 a0 a0r), (.str a1), (.int .u8 a2)] S0 Q := BW w0 Tryz.func7 (by kernel_rfl) (by rw [I6]; exact h)
def Je (Ca : Nat → List AV → St → (AV → St → Prop) → Prop) (a0 : List (List AV)) (a0r : Rt) (S0 : St) (Q : AV → St → Prop) : Prop :=
 ifK (.bool (decide ((List.length a0 : Int) > 8)))
 (Q (.int .i64 0) S0)
 (AJ (fun (S_5 : St) =>
 Q (.int .i64 1) S_5) fun j_2 =>
 CE ([(.int .i64 0)], []) (fun v bx => ([v 10], [])) (fun nx v bx S =>
 AA (AI .lss (v 10) (.int .i64 (List.length a0 : Int))) fun t11 =>
 ifK t11
 (AA (Aq AB (.vs 7 a0 (Rt.strip a0r)) (v 10)) fun t12 =>
 AA (Ad AB S t12) fun t13 =>
 AA (AP AB (some [(.int .i64 0), (.bool false), (.vs 1 [] .nil), (.vs 7 [] .nil), (.int .i64 0), (.vs 2 [] .nil), (.str [])]) 0 (AV.strip t13)) fun b4 =>
 AA (AG AB (some b4) 0) fun t14 =>
 Az Ca Hf [(AV.strip t14)] S fun t15 S_2 =>
 AA (AI .eql t15 (.int .i64 0)) fun t16 =>
 AJ (fun (x20 : AV) (S_4 : St) =>
 AA (Aa (AV.strip t16) (.bool true) x20) fun t21 =>
 ifK (AV.strip t21)
 (Q (.int .i64 0) S_4)
 (AA (AI .add (v 10) (.int .i64 1)) fun t22 =>
 nx ([(AV.strip t22)], []) S_4)) fun j =>
 ifK (AV.strip t16)
 (j (.tup []) S_2)
 (AA (AG AB (some b4) 0) fun t18 =>
 Az Ca D8 [(AV.strip t18)] S_2 fun t19 S_3 =>
 AA (unA .not t19) fun t20 =>
 j t20 S_3))
 (j_2 S)) S0)
theorem RK (Ca) (a0 : List (List AV)) (a0r : Rt) (S0 Q) : WF C Ca 9 (Drw C Ca 9) Tryz.f9 [(.vs 7 a0 a0r)] S0 Q = Je Ca a0 a0r S0 Q := by kernel_rfl
theorem RP {w0 : World} {a0 : List (List AV)} {a0r : Rt} {S0 : St} {Q : AV → St → Prop} (h : Je (AM (En w0)) a0 a0r S0 Q) : AC w0 JH [(.vs 7 a0 a0r)] S0 Q := BW w0 Tryz.func9 (by kernel_rfl) (by rw [RK]; exact h)
def G7 (Ca : Nat → List AV → St → (AV → St → Prop) → Prop) (S0 : St) (Q : AV → St → Prop) : Prop :=
 Ca Eq [(.str [114, 111, 111, 109, 32, 49, 32, 50, 32, 51, 10, 99, 108, 105, 101, 110, 116, 10, 99, 108, 111, 115, 101, 32, 53, 10])] S0 fun t6 S =>
 AA (AL t6 0) fun t7 =>
 AA (AL (AN t6 0) 1) fun t8 =>
 AA (AP A9 (some [(.int .i64 0), (.int .i64 0), (.int .i64 0), (.vs 1 [] .nil), (.vs 1 [] .nil), (.vs 1 [] .nil)]) 0 t7) fun b1 =>
 Ca Eq [(.str [114, 111, 111, 109, 32, 49, 32, 50, 32, 51, 10, 99, 108, 105, 101, 110, 116, 10, 99, 108, 111, 115, 101, 10])] S fun t10 S_2 =>
 AA (AL t10 0) fun t11 =>
 AA (AL (AN t10 0) 1) fun t12 =>
 AA (AP A9 (some [(.int .i64 0), (.int .i64 0), (.int .i64 0), (.vs 1 [] .nil), (.vs 1 [] .nil), (.vs 1 [] .nil)]) 0 t11) fun b3 =>
 AA (AI .eql (AV.strip t8) (.int .i64 0)) fun t14 =>
 AJ (fun (x17 : AV) =>
 AA (Aa (AV.strip t14) x17 (.bool false)) fun t18 =>
 AJ (fun (x23 : AV) =>
 AA (Aa (AV.strip (AV.strip t18)) x23 (.bool false)) fun t24 =>
 AJ (fun (x29 : AV) =>
 AA (Aa (AV.strip (AV.strip t24)) x29 (.bool false)) fun t30 =>
 AJ (fun (x37 : AV) =>
 AA (Aa (AV.strip (AV.strip t30)) x37 (.bool false)) fun t38 =>
 AJ (fun (x47 : AV) =>
 AA (Aa (AV.strip (AV.strip t38)) x47 (.bool false)) fun t48 =>
 Q (AV.strip t48) S_2) fun j =>
 ifK (AV.strip (AV.strip t38))
 (AA (some b1) fun _ =>
 AA (AG Bi (some b1) 4) fun t41 =>
 AA (Aq BS (AV.strip t41) (.int .i64 0)) fun t42 =>
 AA (Ad BS S_2 t42) fun t43 =>
 AA (Aq Bl (AV.strip t43) (.int .i64 0)) fun t44 =>
 AA (Ad Bl S_2 t44) fun t45 =>
 AA (F4 (.agg Bl.zero) .eql (AV.strip t45) (.agg [(.int .i64 7), (.str []), (.int .i64 0), (.int .i64 0), (.int .i64 5), (.str [])])) fun t47 =>
 j t47)
 (j (.tup []))) fun j_2 =>
 ifK (AV.strip (AV.strip t30))
 (AA (some b1) fun _ =>
 AA (AG Bi (some b1) 4) fun t33 =>
 AA (Aq BS (AV.strip t33) (.int .i64 0)) fun t34 =>
 AA (Ad BS S_2 t34) fun t35 =>
 AA (A7 (AV.strip t35)) fun t36 =>
 AA (AI .eql t36 (.int .i64 1)) fun t37 =>
 j_2 t37)
 (j_2 (.tup []))) fun j_3 =>
 ifK (AV.strip (AV.strip t24))
 (AA (some b1) fun _ =>
 AA (AG Bi (some b1) 4) fun t27 =>
 AA (A7 (AV.strip t27)) fun t28 =>
 AA (AI .eql t28 (.int .i64 1)) fun t29 =>
 j_3 t29)
 (j_3 (.tup []))) fun j_4 =>
 ifK (AV.strip (AV.strip t18))
 (AA (some b1) fun _ =>
 AA (AG B3 (some b1) 0) fun t21 =>
 AA (F4 (.agg B3.zero) .eql (AV.strip t21) (.agg [(.int .i64 1), (.int .i64 2), (.int .i64 3)])) fun t23 =>
 j_4 t23)
 (j_4 (.tup []))) fun j_5 =>
 ifK (AV.strip t14)
 (AA (AI .eql (AV.strip t12) (.int .i64 3)) fun t17 =>
 j_5 t17)
 (j_5 (.tup []))
theorem NS (Ca) (S0 Q) : WF C Ca 26 (Drw C Ca 26) Tryz.f26 [] S0 Q = G7 Ca  S0 Q := by kernel_rfl
theorem NM {w0 : World} {S0 : St} {Q : AV → St → Prop} (h : G7 (AM (En w0))  S0 Q) : AC w0 G5 [] S0 Q := BW w0 Tryz.func26 (by kernel_rfl) (by rw [NS]; exact h)
def Gk (Ca : Nat → List AV → St → (AV → St → Prop) → Prop) (a0a : Int) (a0b : Bool) (a0c : List (List AV)) (a0cr : Rt) (a0d : List (List AV)) (a0dr : Rt) (a0e : Int) (a0f : List (List AV)) (a0fr : Rt) (a0g : List UInt8) (S0 : St) (Q : AV → St → Prop) : Prop :=
 AA (FU AB (.agg [(.int .i64 a0a), (.bool a0b), (.vs 1 a0c a0cr), (.vs 7 a0d a0dr), (.int .i64 a0e), (.vs 2 a0f a0fr), (.str a0g)])) fun c1 =>
 AA (AG AB (some c1) 0) fun t5 =>
 Az Ca D8 [(AV.strip t5)] S0 fun t6 S =>
 AA (unA .not t6) fun t7 =>
 ifK t7
 (Q (.tup [(.str []), (.bool false)]) S)
 (AA (AG AB (some c1) 0) fun t8 =>
 Az Ca HS [(AV.strip t8)] S fun t9 S_2 =>
 AA (AI .add (.str [115, 111, 99, 97, 103, 101, 49]) t9) fun t10 =>
 AA (CM (AV.strip t10)) fun t12 =>
 AA (AI .gtr t12 (.int .i64 4194304)) fun t13 =>
 ifK t13
 (Q (.tup [(.str []), (.bool false)]) S_2)
 (Q (.tup [(AV.flat (AV.strip t10)), (.bool true)]) S_2))
theorem NH (Ca) (a0a : Int) (a0b : Bool) (a0c : List (List AV)) (a0cr : Rt) (a0d : List (List AV)) (a0dr : Rt) (a0e : Int) (a0f : List (List AV)) (a0fr : Rt) (a0g : List UInt8) (S0 Q) : WF C Ca 27 (Drw C Ca 27) Tryz.f27 [(.agg [(.int .i64 a0a), (.bool a0b), (.vs 1 a0c a0cr), (.vs 7 a0d a0dr), (.int .i64 a0e), (.vs 2 a0f a0fr), (.str a0g)])] S0 Q = Gk Ca a0a a0b a0c a0cr a0d a0dr a0e a0f a0fr a0g S0 Q := by kernel_rfl
theorem NC {w0 : World} {a0a : Int} {a0b : Bool} {a0c : List (List AV)} {a0cr : Rt} {a0d : List (List AV)} {a0dr : Rt} {a0e : Int} {a0f : List (List AV)} {a0fr : Rt} {a0g : List UInt8} {S0 : St} {Q : AV → St → Prop} (h : Gk (AM (En w0)) a0a a0b a0c a0cr a0d a0dr a0e a0f a0fr a0g S0 Q) : AC w0 GU [(.agg [(.int .i64 a0a), (.bool a0b), (.vs 1 a0c a0cr), (.vs 7 a0d a0dr), (.int .i64 a0e), (.vs 2 a0f a0fr), (.str a0g)])] S0 Q := BW w0 Tryz.func27 (by kernel_rfl) (by rw [NH]; exact h)
def Gx (Ca : Nat → List AV → St → (AV → St → Prop) → Prop) (a0 : List (List AV)) (a0r : Rt) (S0 : St) (Q : AV → St → Prop) : Prop :=
 AJ (fun (y2 : Option (List AV)) (y4 : Option (List AV)) (S_4 : St) =>
 AA (AG Ai y4 0) fun t36 =>
 AA (AP Ai y2 0 (AV.strip t36)) fun b2_3 =>
 AA ((AG Ai (some b2_3) 0).map AV.strip) fun r2_3 =>
 Q (.tup [(AV.flat r2_3), (.int .i64 0)]) S_4) fun j =>
 CE ([(.int .i64 0)], [(some [(.vs 2 [] .nil), (.int .i64 0)]), (some [(.vs 2 [] .nil), (.int .i64 0)])]) (fun v bx => ([v 11], [bx 2, bx 4])) (fun nx v bx S =>
 AA (AI .lss (v 11) (.int .i64 (List.length a0 : Int))) fun t12 =>
 ifK t12
 (AA (Aq AF (.vs 1 a0 (Rt.strip a0r)) (v 11)) fun t13 =>
 AA (Ad AF S t13) fun t14 =>
 Az Ca Hk [(AV.strip (AV.strip t14))] S fun t17 S_2 =>
 AA (AL t17 0) fun t18 =>
 AA (AL (AN t17 0) 1) fun t19 =>
 AA (AI .neq (AV.strip t19) (.int .i64 0)) fun t21 =>
 ifK t21
 (AA (AP Ai (bx 2) 0 (.agg [(.vs 2 [] .nil), (.int .i64 0)])) fun b2 =>
 AA ((AG Ai (some b2) 0).map AV.strip) fun r2 =>
 Q (.tup [(AV.flat r2), (AV.flat (AV.strip t19))]) S_2)
 (AA (AG Ai (bx 4) 0) fun t25 =>
 Az Ca E3 [(AV.strip t25), (AV.strip t18)] S_2 fun t27 S_3 =>
 AA (AL t27 0) fun t28 =>
 AA (AL (AN t27 0) 1) fun t29 =>
 AA (AL (AN (AN t27 0) 1) 2) fun t30 =>
 AA (AP Ai (bx 4) 0 t28) fun b4 =>
 AA (AI .neq (AV.strip t30) (.int .i64 0)) fun t32 =>
 ifK t32
 (AA (AP Ai (bx 2) 0 (.agg [(.vs 2 [] .nil), (.int .i64 0)])) fun b2_2 =>
 AA ((AG Ai (some b2_2) 0).map AV.strip) fun r2_2 =>
 Q (.tup [(AV.flat r2_2), (AV.flat (AV.strip t30))]) S_3)
 (AA (AI .add (v 11) (.int .i64 1)) fun t35 =>
 nx ([(AV.strip t35)], [(bx 2), (some b4)]) S_3)))
 (j (bx 2) (bx 4) S)) S0
theorem NJ (Ca) (a0 : List (List AV)) (a0r : Rt) (S0 Q) : WF C Ca 28 (Drw C Ca 28) Tryz.f28 [(.vs 1 a0 a0r)] S0 Q = Gx Ca a0 a0r S0 Q := by kernel_rfl
theorem Nd {w0 : World} {a0 : List (List AV)} {a0r : Rt} {S0 : St} {Q : AV → St → Prop} (h : Gx (AM (En w0)) a0 a0r S0 Q) : AC w0 E6 [(.vs 1 a0 a0r)] S0 Q := BW w0 Tryz.func28 (by kernel_rfl) (by rw [NJ]; exact h)
def Er (Ca : Nat → List AV → St → (AV → St → Prop) → Prop) (a0a : List (List AV)) (a0ar : Rt) (a0b : Int) (S0 : St) (Q : AV → St → Prop) : Prop :=
 AA (FU Ai (.agg [(.vs 2 a0a a0ar), (.int .i64 a0b)])) fun c1 =>
 AA (some c1) fun _ =>
 AA (AG CA (some c1) 0) fun t4 =>
 AA (A7 (AV.strip t4)) fun t5 =>
 Q t5 S0
theorem Ks (Ca) (a0a : List (List AV)) (a0ar : Rt) (a0b : Int) (S0 Q) : WF C Ca 29 (Drw C Ca 29) Tryz.f29 [(.agg [(.vs 2 a0a a0ar), (.int .i64 a0b)])] S0 Q = Er Ca a0a a0ar a0b S0 Q := by kernel_rfl
theorem K5 {w0 : World} {a0a : List (List AV)} {a0ar : Rt} {a0b : Int} {S0 : St} {Q : AV → St → Prop} (h : Er (AM (En w0)) a0a a0ar a0b S0 Q) : AC w0 Cq [(.agg [(.vs 2 a0a a0ar), (.int .i64 a0b)])] S0 Q := BW w0 Tryz.func29 (by kernel_rfl) (by rw [Ks]; exact h)
def Gl (Ca : Nat → List AV → St → (AV → St → Prop) → Prop) (a0 : List UInt8) (S0 : St) (Q : AV → St → Prop) : Prop :=
 AJ (fun (x11 : AV) =>
 AA (Aa (.bool (decide ((List.length a0 : Int) < 7))) (.bool true) x11) fun t12 =>
 AJ (fun (x16 : AV) =>
 AA (Aa (AV.strip (AV.strip t12)) (.bool true) x16) fun t17 =>
 ifK (AV.strip t17)
 (Q (.tup [(.agg [(.int .i64 0), (.bool false), (.vs 1 [] .nil), (.vs 7 [] .nil), (.int .i64 0), (.vs 2 [] .nil), (.str [])]), (.bool false)]) S0)
 (AA (Ba (.str a0) (some (.int .i64 7)) none) fun t20 =>
 Az Ca HJ [t20, (.int .i64 0)] S0 fun t21 S =>
 AA (AP Al (some [(.int .i64 0), (.bool false), (.vs 1 [] .nil), (.vs 7 [] .nil), (.int .i64 0), (.vs 2 [] .nil), (.str []), (.int .i64 0)]) 0 t21) fun b4 =>
 AA (some b4) fun _ =>
 AA (AG Aj (some b4) 7) fun t23 =>
 AA (AI .neq (AV.strip t23) (.int .i64 (IntKind.i64.wrap ((List.length a0 : Int) - 7)))) fun t27 =>
 AJ (fun (x32 : AV) (S_3 : St) =>
 AA (Aa (AV.strip t27) (.bool true) x32) fun t33 =>
 ifK (AV.strip t33)
 (Q (.tup [(.agg [(.int .i64 0), (.bool false), (.vs 1 [] .nil), (.vs 7 [] .nil), (.int .i64 0), (.vs 2 [] .nil), (.str [])]), (.bool false)]) S_3)
 (AA (some b4) fun _ =>
 AA (AG AB (some b4) 0) fun t36 =>
 AA (AP AB (some [(.int .i64 0), (.bool false), (.vs 1 [] .nil), (.vs 7 [] .nil), (.int .i64 0), (.vs 2 [] .nil), (.str [])]) 0 (AV.strip t36)) fun b2 =>
 AA ((AG AB (some b2) 0).map AV.strip) fun r2 =>
 Q (.tup [(AV.flat r2), (.bool true)]) S_3)) fun j_3 =>
 ifK (AV.strip t27)
 (j_3 (.tup []) S)
 (AA (some b4) fun _ =>
 AA (AG AB (some b4) 0) fun t30 =>
 Az Ca D8 [(AV.strip t30)] S fun t31 S_2 =>
 AA (unA .not t31) fun t32 =>
 j_3 t32 S_2))) fun j =>
 ifK (AV.strip (AV.strip t12))
 (j (.tup []))
 (AA (Ba (.str a0) none (some (.int .i64 7))) fun t15 =>
 AA (AI .neq t15 (.str [115, 111, 99, 97, 103, 101, 49])) fun t16 =>
 j t16)) fun j_2 =>
 ifK (.bool (decide ((List.length a0 : Int) < 7)))
 (j_2 (.tup []))
 (j_2 (.bool (decide ((List.length a0 : Int) > 4194304))))
theorem M9 (Ca) (a0 : List UInt8) (S0 Q) : WF C Ca 30 (Drw C Ca 30) Tryz.f30 [(.str a0)] S0 Q = Gl Ca a0 S0 Q := by kernel_rfl
theorem Na {w0 : World} {a0 : List UInt8} {S0 : St} {Q : AV → St → Prop} (h : Gl (AM (En w0)) a0 S0 Q) : AC w0 Gi [(.str a0)] S0 Q := BW w0 Tryz.func30 (by kernel_rfl) (by rw [M9]; exact h)
def HW (Ca : Nat → List AV → St → (AV → St → Prop) → Prop) (a0a : Int) (a0b : Bool) (a0c : List (List AV)) (a0cr : Rt) (a0d : List (List AV)) (a0dr : Rt) (a0e : Int) (a0f : List (List AV)) (a0fr : Rt) (a0g : List UInt8) (S0 : St) (Q : AV → St → Prop) : Prop :=
 AA (FU AB (.agg [(.int .i64 a0a), (.bool a0b), (.vs 1 a0c a0cr), (.vs 7 a0d a0dr), (.int .i64 a0e), (.vs 2 a0f a0fr), (.str a0g)])) fun c1 =>
 AA (Bk Aj (S0 ++ [.cells Aj.zero DH]) (.ptr S0.length 0) (.int .i64 400)) fun S =>
 AA (AG AB (some c1) 0) fun t4 =>
 Az Ca Fj [(AV.strip t4), (.int .i64 30), (.ptr S0.length 0)] S fun t5 S_2 =>
 AA (unA .not t5) fun t6 =>
 ifK t6
 (Q (.int .i64 0) S_2)
 (Q (.int .i64 1) S_2)
theorem OL (Ca) (a0a : Int) (a0b : Bool) (a0c : List (List AV)) (a0cr : Rt) (a0d : List (List AV)) (a0dr : Rt) (a0e : Int) (a0f : List (List AV)) (a0fr : Rt) (a0g : List UInt8) (S0 Q) : WF C Ca 34 (Drw C Ca 34) Tryz.f34 [(.agg [(.int .i64 a0a), (.bool a0b), (.vs 1 a0c a0cr), (.vs 7 a0d a0dr), (.int .i64 a0e), (.vs 2 a0f a0fr), (.str a0g)])] S0 Q = HW Ca a0a a0b a0c a0cr a0d a0dr a0e a0f a0fr a0g S0 Q := by kernel_rfl
theorem Ob {w0 : World} {a0a : Int} {a0b : Bool} {a0c : List (List AV)} {a0cr : Rt} {a0d : List (List AV)} {a0dr : Rt} {a0e : Int} {a0f : List (List AV)} {a0fr : Rt} {a0g : List UInt8} {S0 : St} {Q : AV → St → Prop} (h : HW (AM (En w0)) a0a a0b a0c a0cr a0d a0dr a0e a0f a0fr a0g S0 Q) : AC w0 Hf [(.agg [(.int .i64 a0a), (.bool a0b), (.vs 1 a0c a0cr), (.vs 7 a0d a0dr), (.int .i64 a0e), (.vs 2 a0f a0fr), (.str a0g)])] S0 Q := BW w0 Tryz.func34 (by kernel_rfl) (by rw [OL]; exact h)
def HU (Ca : Nat → List AV → St → (AV → St → Prop) → Prop) (a0a : Int) (a0b : Bool) (a0c : List (List AV)) (a0cr : Rt) (a0d : List (List AV)) (a0dr : Rt) (a0e : Int) (a0f : List (List AV)) (a0fr : Rt) (a0g : List UInt8) (S0 : St) (Q : AV → St → Prop) : Prop :=
 AA (FU AB (.agg [(.int .i64 a0a), (.bool a0b), (.vs 1 a0c a0cr), (.vs 7 a0d a0dr), (.int .i64 a0e), (.vs 2 a0f a0fr), (.str a0g)])) fun c1 =>
 AA (some c1) fun _ =>
 AA (AG Aj (some c1) 0) fun t4 =>
 AA (AI .eql (AV.strip t4) (.int .i64 2)) fun t5 =>
 AJ (fun (x8 : AV) (S_2 : St) =>
 AA (Aa (AV.strip t5) x8 (.bool false)) fun t9 =>
 AJ (fun (x13 : AV) (S_4 : St) =>
 AA (Aa (AV.strip (AV.strip t9)) x13 (.bool false)) fun t14 =>
 AJ (fun (x18 : AV) (S_6 : St) =>
 AA (Aa (AV.strip (AV.strip t14)) x18 (.bool false)) fun t19 =>
 Q (AV.strip t19) S_6) fun j =>
 ifK (AV.strip (AV.strip t14))
 (AA (AG AB (some c1) 0) fun t16 =>
 Az Ca Fk [(AV.strip t16)] S_4 fun t17 S_5 =>
 AA (AI .leq t17 (.int .i64 15)) fun t18 =>
 j t18 S_5)
 (j (.tup []) S_4)) fun j_2 =>
 ifK (AV.strip (AV.strip t9))
 (AA (AG AB (some c1) 0) fun t11 =>
 Az Ca Fn [(AV.strip t11)] S_2 fun t12 S_3 =>
 AA (AI .leq t12 (.int .i64 4096)) fun t13 =>
 j_2 t13 S_3)
 (j_2 (.tup []) S_2)) fun j_3 =>
 ifK (AV.strip t5)
 (AA (AG AB (some c1) 0) fun t7 =>
 Az Ca HO [(AV.strip t7)] S0 fun t8 S =>
 j_3 t8 S)
 (j_3 (.tup []) S0)
theorem Ol (Ca) (a0a : Int) (a0b : Bool) (a0c : List (List AV)) (a0cr : Rt) (a0d : List (List AV)) (a0dr : Rt) (a0e : Int) (a0f : List (List AV)) (a0fr : Rt) (a0g : List UInt8) (S0 Q) : WF C Ca 35 (Drw C Ca 35) Tryz.f35 [(.agg [(.int .i64 a0a), (.bool a0b), (.vs 1 a0c a0cr), (.vs 7 a0d a0dr), (.int .i64 a0e), (.vs 2 a0f a0fr), (.str a0g)])] S0 Q = HU Ca a0a a0b a0c a0cr a0d a0dr a0e a0f a0fr a0g S0 Q := by kernel_rfl
theorem OP {w0 : World} {a0a : Int} {a0b : Bool} {a0c : List (List AV)} {a0cr : Rt} {a0d : List (List AV)} {a0dr : Rt} {a0e : Int} {a0f : List (List AV)} {a0fr : Rt} {a0g : List UInt8} {S0 : St} {Q : AV → St → Prop} (h : HU (AM (En w0)) a0a a0b a0c a0cr a0d a0dr a0e a0f a0fr a0g S0 Q) : AC w0 D8 [(.agg [(.int .i64 a0a), (.bool a0b), (.vs 1 a0c a0cr), (.vs 7 a0d a0dr), (.int .i64 a0e), (.vs 2 a0f a0fr), (.str a0g)])] S0 Q := BW w0 Tryz.func35 (by kernel_rfl) (by rw [Ol]; exact h)
set_option maxHeartbeats 2000000
open Go.Proofs
def Gb (Ca : Nat → List AV → St → (AV → St → Prop) → Prop) (a0 : List UInt8) (S0 : St) (Q : AV → St → Prop) : Prop :=
 Ca Da [(.str a0), (.str [10])] S0 fun t9 S =>
 AJ (fun (x4 : AV) (y2 : Option (List AV)) (S_4 : St) =>
 AA (A7 (AV.strip x4)) fun t30 =>
 AA (AI .sub t30 (.int .i64 1)) fun t31 =>
 AA (Aq AF (AV.strip x4) t31) fun t32 =>
 AA (Ad AF S_4 t32) fun t33 =>
 AA (AI .neq (AV.strip t33) (.str [])) fun t34 =>
 AJ (fun (x38 : AV) =>
 AA (Aa (AV.strip t34) (.bool true) x38) fun t39 =>
 ifK (AV.strip t39)
 (AA (A7 (AV.strip x4)) fun t42 =>
 AA (AP A9 y2 0 (.agg [(.int .i64 0), (.int .i64 0), (.int .i64 0), (.vs 1 [] .nil), (.vs 1 [] .nil), (.vs 1 [] .nil)])) fun b2_2 =>
 AA ((AG A9 (some b2_2) 0).map AV.strip) fun r2_2 =>
 Q (.tup [(AV.flat r2_2), (AV.flat t42)]) S_4)
 (AA (Ad A9 S_4 (.ptr S.length 0)) fun t44 =>
 AA (AP A9 y2 0 (AV.strip t44)) fun b2_3 =>
 AA ((AG A9 (some b2_3) 0).map AV.strip) fun r2_3 =>
 Q (.tup [(AV.flat r2_3), (.int .i64 0)]) S_4)) fun j =>
 ifK (AV.strip t34)
 (j (.tup []))
 (AA (Ad Aj S_4 (.ptr S.length 6)) fun t37 =>
 AA (AI .eql (AV.strip t37) (.int .i64 0)) fun t38 =>
 j t38)) fun j_2 =>
 AA (A7 (AV.strip (AV.strip t9))) fun t12 =>
 AA (AI .sub t12 (.int .i64 1)) fun t13 =>
 AA (Cm AF t9 none (some t13) none) fun t14 =>
 AA (A7 t14) fun t15 =>
 CE ([(.int .i64 0)], [(some [(.int .i64 0), (.int .i64 0), (.int .i64 0), (.vs 1 [] .nil), (.vs 1 [] .nil), (.vs 1 [] .nil)])]) (fun v bx => ([v 16], [bx 2])) (fun nx v bx S_2 =>
 AA (AI .lss (v 16) t15) fun t17 =>
 ifK t17
 (AA (Aq AF t14 (v 16)) fun t19 =>
 AA (Ad AF S_2 t19) fun t20 =>
 Az Ca Dl [(.ptr S.length 0), (AV.strip (AV.strip t20))] S_2 fun t22 S_3 =>
 AA (unA .not t22) fun t23 =>
 ifK t23
 (AA (AI .add (AV.strip (AV.strip (v 16))) (.int .i64 1)) fun t26 =>
 AA (AP A9 (bx 2) 0 (.agg [(.int .i64 0), (.int .i64 0), (.int .i64 0), (.vs 1 [] .nil), (.vs 1 [] .nil), (.vs 1 [] .nil)])) fun b2 =>
 AA ((AG A9 (some b2) 0).map AV.strip) fun r2 =>
 Q (.tup [(AV.flat r2), (AV.flat t26)]) S_3)
 (AA (AI .add (v 16) (.int .i64 1)) fun t27 =>
 nx ([(AV.strip t27)], [(bx 2)]) S_3))
 (j_2 (AV.strip t9) (bx 2) S_2)) (S ++ [.cells CT.zero CW])
theorem Nb (Ca) (a0 : List UInt8) (S0 Q) : WF C Ca 54 (Drw C Ca 54) Tryz.f54 [(.str a0)] S0 Q = Gb Ca a0 S0 Q := by kernel_rfl
theorem NV {w0 : World} {a0 : List UInt8} {S0 : St} {Q : AV → St → Prop} (h : Gb (AM (En w0)) a0 S0 Q) : AC w0 Eq [(.str a0)] S0 Q := BW w0 Tryz.func54 (by kernel_rfl) (by rw [Nb]; exact h)
def JT (Ca : Nat → List AV → St → (AV → St → Prop) → Prop) (a0a : Int) (a0b : Bool) (a0c : List (List AV)) (a0cr : Rt) (a0d : List (List AV)) (a0dr : Rt) (a0e : Int) (a0f : List (List AV)) (a0fr : Rt) (a0g : List UInt8) (S0 : St) (Q : AV → St → Prop) : Prop :=
 AA (FU AB (.agg [(.int .i64 a0a), (.bool a0b), (.vs 1 a0c a0cr), (.vs 7 a0d a0dr), (.int .i64 a0e), (.vs 2 a0f a0fr), (.str a0g)])) fun c1 =>
 AA (some c1) fun _ =>
 AA (AG Aj (some c1) 0) fun t8 =>
 Az Ca Cx [(.str []), (AV.strip t8), (.int .i64 1)] S0 fun t9 S =>
 AJ (fun (x3 : AV) (y1 : Option (List AV)) (S_7 : St) =>
 AJ (fun (x3_2 : AV) (y1_2 : Option (List AV)) (S_13 : St) =>
 AJ (fun (x3_3 : AV) (S_15 : St) =>
 Q (AV.strip x3_3) S_15) fun j_2 =>
 AA y1_2 fun _ =>
 AA (AG Aj y1_2 0) fun t77 =>
 AA (AI .eql (AV.strip t77) (.int .i64 3)) fun t78 =>
 ifK t78
 (AA y1_2 fun _ =>
 AA (AG AF y1_2 6) fun t81 =>
 Az Ca Eu [(AV.strip x3_2), (AV.strip t81), (.int .i64 2)] S_13 fun t82 S_14 =>
 j_2 t82 S_14)
 (j_2 x3_2 S_13)) fun j_3 =>
 AA y1 fun _ =>
 AA (AG Aj y1 0) fun t44 =>
 AA (AI .eql (AV.strip t44) (.int .i64 2)) fun t45 =>
 ifK t45
 (AJ (fun (x5 : AV) =>
 AA y1 fun _ =>
 AA (AG A1 y1 2) fun t52 =>
 AA (A7 (AV.strip t52)) fun t53 =>
 Az Ca Cx [(AV.strip x3), (AV.strip x5), (.int .i64 1)] S_7 fun t50 S_8 =>
 Az Ca Cx [t50, t53, (.int .i64 2)] S_8 fun t54 S_9 =>
 CE ([t54, (.int .i64 0)], [y1]) (fun v_2 bx_2 => ([v_2 3, v_2 6], [bx_2 1])) (fun nx_2 v_2 bx_2 S_10 =>
 AA (bx_2 1) fun _ =>
 AA (AG A1 (bx_2 1) 2) fun t57 =>
 AA (A7 (AV.strip t57)) fun t58 =>
 AA (AI .lss (AV.strip (v_2 6)) t58) fun t59 =>
 ifK t59
 (AA (bx_2 1) fun _ =>
 AA (AG A1 (bx_2 1) 2) fun t64 =>
 AA (Aq AF (AV.strip t64) (AV.strip (v_2 6))) fun t66 =>
 AA (Ad AF S_10 t66) fun t67 =>
 AA (bx_2 1) fun _ =>
 AA (AG Au (bx_2 1) 3) fun t70 =>
 AA (Aq AB (AV.strip t70) (AV.strip (v_2 6))) fun t72 =>
 AA (Ad AB S_10 t72) fun t73 =>
 Az Ca Eu [(AV.strip (v_2 3)), (AV.strip t67), (.int .i64 1)] S_10 fun t68 S_11 =>
 (AA (Ad AB S_11 t72) fun t73_2 =>
 ((AV.strip t73_2) : AV) = (AV.strip t73)) ∧
 (Az Ca HS [(AV.strip t73)] S_11 fun t74 S_12 =>
 AA (AI .add t68 t74) fun t75 =>
 AA (AI .add (AV.strip (v_2 6)) (.int .i64 1)) fun t61 =>
 nx_2 ([t75, t61], [(bx_2 1)]) S_12))
 (j_3 (v_2 3) (bx_2 1) S_10)) S_9) fun j =>
 AA y1 fun _ =>
 AA (AG C3 y1 1) fun t47 =>
 ifK (AV.strip t47)
 (j (.int .i64 1))
 (j (.int .i64 0)))
 (j_3 x3 y1 S_7)) fun j_4 =>
 AA (some c1) fun _ =>
 AA (AG Aj (some c1) 0) fun t11 =>
 AA (AI .eql (AV.strip t11) (.int .i64 1)) fun t12 =>
 ifK t12
 (AA (some c1) fun _ =>
 AA (AG Aj (some c1) 4) fun t15 =>
 AA (some c1) fun _ =>
 AA (AG As (some c1) 5) fun t18 =>
 AA (A7 (AV.strip t18)) fun t19 =>
 Az Ca Cx [(AV.strip t9), (AV.strip t15), (.int .i64 4)] S fun t16 S_2 =>
 Az Ca Cx [t16, t19, (.int .i64 4)] S_2 fun t20 S_3 =>
 CE ([t20, (.int .i64 0)], [(some c1)]) (fun v bx => ([v 3, v 4], [bx 1])) (fun nx v bx S_4 =>
 AA (bx 1) fun _ =>
 AA (AG As (bx 1) 5) fun t23 =>
 AA (A7 (AV.strip t23)) fun t24 =>
 AA (AI .lss (AV.strip (v 4)) t24) fun t25 =>
 ifK t25
 (AA (bx 1) fun _ =>
 AA (AG As (bx 1) 5) fun t30 =>
 AA (Aq Ah (AV.strip t30) (AV.strip (v 4))) fun t32 =>
 AA (DT t32 0) fun t33 =>
 AA (Ad Aj S_4 t33) fun t34 =>
 AA (bx 1) fun _ =>
 AA (AG As (bx 1) 5) fun t37 =>
 AA (Aq Ah (AV.strip t37) (AV.strip (v 4))) fun t39 =>
 AA (DT t39 1) fun t40 =>
 AA (Ad AF S_4 t40) fun t41 =>
 Az Ca Cx [(AV.strip (v 3)), (AV.strip t34), (.int .i64 4)] S_4 fun t35 S_5 =>
 (AA (Ad AF S_5 t40) fun t41_2 =>
 ((AV.strip t41_2) : AV) = (AV.strip t41)) ∧
 (Az Ca Eu [t35, (AV.strip t41), (.int .i64 4)] S_5 fun t42 S_6 =>
 AA (AI .add (AV.strip (v 4)) (.int .i64 1)) fun t27 =>
 nx ([t42, t27], [(bx 1)]) S_6))
 (j_4 (v 3) (bx 1) S_4)) S_3)
 (j_4 t9 (some c1) S)
theorem RQ (Ca) (a0a : Int) (a0b : Bool) (a0c : List (List AV)) (a0cr : Rt) (a0d : List (List AV)) (a0dr : Rt) (a0e : Int) (a0f : List (List AV)) (a0fr : Rt) (a0g : List UInt8) (S0 Q) : WF C Ca 55 (Drw C Ca 55) Tryz.f55 [(.agg [(.int .i64 a0a), (.bool a0b), (.vs 1 a0c a0cr), (.vs 7 a0d a0dr), (.int .i64 a0e), (.vs 2 a0f a0fr), (.str a0g)])] S0 Q = JT Ca a0a a0b a0c a0cr a0d a0dr a0e a0f a0fr a0g S0 Q := by kernel_rfl
theorem R4 {w0 : World} {a0a : Int} {a0b : Bool} {a0c : List (List AV)} {a0cr : Rt} {a0d : List (List AV)} {a0dr : Rt} {a0e : Int} {a0f : List (List AV)} {a0fr : Rt} {a0g : List UInt8} {S0 : St} {Q : AV → St → Prop} (h : JT (AM (En w0)) a0a a0b a0c a0cr a0d a0dr a0e a0f a0fr a0g S0 Q) : AC w0 HS [(.agg [(.int .i64 a0a), (.bool a0b), (.vs 1 a0c a0cr), (.vs 7 a0d a0dr), (.int .i64 a0e), (.vs 2 a0f a0fr), (.str a0g)])] S0 Q := BW w0 Tryz.func55 (by kernel_rfl) (by rw [RQ]; exact h)
def HV (Ca : Nat → List AV → St → (AV → St → Prop) → Prop) (a0 : List UInt8) (S0 : St) (Q : AV → St → Prop) : Prop :=
 Ca Gf [(.str a0)] S0 fun t8 S =>
 AA (AL t8 0) fun t9 =>
 AA (AL (AN t8 0) 1) fun t10 =>
 AA (AP AB (some [(.int .i64 0), (.bool false), (.vs 1 [] .nil), (.vs 7 [] .nil), (.int .i64 0), (.vs 2 [] .nil), (.str [])]) 0 t9) fun b4 =>
 AA (AI .neq (AV.strip t10) (.int .i64 0)) fun t12 =>
 ifK t12
 (Q (.tup [.nil, (AV.flat (AV.strip t10))]) S)
 (AA (AG AB (some b4) 0) fun t14 =>
 Az Ca Ii [(AV.strip t14)] S fun t15 S_2 =>
 AA (AL t15 0) fun t16 =>
 AA (AL (AN t15 0) 1) fun t17 =>
 Q (.tup [(AV.flat t16), (AV.flat t17)]) S_2)
theorem Oa (Ca) (a0 : List UInt8) (S0 Q) : WF C Ca 56 (Drw C Ca 56) Tryz.f56 [(.str a0)] S0 Q = HV Ca a0 S0 Q := by kernel_rfl
theorem OK {w0 : World} {a0 : List UInt8} {S0 : St} {Q : AV → St → Prop} (h : HV (AM (En w0)) a0 S0 Q) : AC w0 Hk [(.str a0)] S0 Q := BW w0 Tryz.func56 (by kernel_rfl) (by rw [Oa]; exact h)
def FC (Ca : Nat → List AV → St → (AV → St → Prop) → Prop) (a0a : List (List AV)) (a0ar : Rt) (a0b : Int) (a1 : AV) (S0 : St) (Q : AV → St → Prop) : Prop :=
 AA (FU Ai (.agg [(.vs 2 a0a a0ar), (.int .i64 a0b)])) fun c2 =>
 AA (some c2) fun _ =>
 AA (AG CA (some c2) 0) fun t8 =>
 AA (A7 (AV.strip t8)) fun t9 =>
 AA (AI .geq t9 (.int .i64 64)) fun t10 =>
 ifK t10
 (AA (AG Ai (some c2) 0) fun t11 =>
 AA (AP Ai (some [(.vs 2 [] .nil), (.int .i64 0)]) 0 (AV.strip t11)) fun b4 =>
 AA ((AG Ai (some b4) 0).map AV.strip) fun r4 =>
 Q (.tup [(AV.flat r4), (.int .i64 0), (.int .i64 6)]) S0)
 (AA (some c2) fun _ =>
 AA (AG Aj (some c2) 1) fun t13 =>
 AA (EY C4 1 [(0, (AV.strip t13)), (1, (AV.strip a1))]) fun t15 =>
 AA (Bm 2 [t15]) fun e16 =>
 AA (some c2) fun _ =>
 AA (AG CA (some c2) 0) fun t18 =>
 AA (some c2) fun _ =>
 AA (AG Aj (some c2) 1) fun t21 =>
 AA (AI .add (AV.strip t21) (.int .i64 1)) fun t22 =>
 AA (some c2) fun _ =>
 AA (AG Aj (some c2) 1) fun t25 =>
 AA (Ao C4 S0 (.vs 2 e16 .full) (AV.strip t18)) fun t19 =>
 AA (EY Ai 1 [(0, t19), (1, t22)]) fun t23 =>
 AA (AP Ai (some [(.vs 2 [] .nil), (.int .i64 0)]) 0 t23) fun b4_2 =>
 AA ((AG Ai (some b4_2) 0).map AV.strip) fun r4_2 =>
 Q (.tup [(AV.flat r4_2), (AV.flat (AV.strip t25)), (.int .i64 0)]) S0)
theorem Kv (Ca) (a0a : List (List AV)) (a0ar : Rt) (a0b : Int) (a1 : AV) (S0 Q) : WF C Ca 57 (Drw C Ca 57) Tryz.f57 [(.agg [(.vs 2 a0a a0ar), (.int .i64 a0b)]), a1] S0 Q = FC Ca a0a a0ar a0b a1 S0 Q := by kernel_rfl
theorem Kt {w0 : World} {a0a : List (List AV)} {a0ar : Rt} {a0b : Int} {a1 : AV} {S0 : St} {Q : AV → St → Prop} (h : FC (AM (En w0)) a0a a0ar a0b a1 S0 Q) : AC w0 E3 [(.agg [(.vs 2 a0a a0ar), (.int .i64 a0b)]), a1] S0 Q := BW w0 Tryz.func57 (by kernel_rfl) (by rw [Kv]; exact h)
def HI (Ca : Nat → List AV → St → (AV → St → Prop) → Prop) (a0 : List UInt8) (a1 : Int) (S0 : St) (Q : AV → St → Prop) : Prop :=
 AJ (fun (x23 : AV) =>
 AA (Aa (.bool (decide (a1 > 15))) (.bool true) x23) fun t24 =>
 ifK (AV.strip t24)
 (Q (.agg [(.int .i64 0), (.bool false), (.vs 1 [] .nil), (.vs 7 [] .nil), (.int .i64 0), (.vs 2 [] .nil), (.str []), (.int .i64 (-1))]) S0)
 (AA (DI (.str a0) (.int .i64 0)) fun t27 =>
 AA (E2 .i64 t27) fun t28 =>
 AA (EY AB 1 [(0, t28)]) fun t29 =>
 AA (AP AB (some [(.int .i64 0), (.bool false), (.vs 1 [] .nil), (.vs 7 [] .nil), (.int .i64 0), (.vs 2 [] .nil), (.str [])]) 0 t29) fun b6 =>
 AJ (fun (x7 : AV) (y4 : Option (List AV)) (y6 : Option (List AV)) (S_11 : St) =>
 AA (AG AB y6 0) fun t187 =>
 AA (EY Al 1 [(0, (AV.strip t187)), (1, (AV.strip x7))]) fun t189 =>
 AA (AP Al y4 0 t189) fun b4_4 =>
 AA ((AG Al (some b4_4) 0).map AV.strip) fun r4_4 =>
 Q r4_4 S_11) fun j_6 =>
 AA (some b6) fun _ =>
 AA (AG Aj (some b6) 0) fun t31 =>
 AA (AI .eql (AV.strip t31) (.int .i64 1)) fun t32 =>
 ifK t32
 (Ca B7 [(.str a0), (.int .i64 1), (.int .i64 4)] S0 fun t34 S =>
 AA (some b6) fun _ =>
 AA (AP Aj (some b6) 4 t34) fun b6_2 =>
 Ca B7 [(.str a0), (.int .i64 5), (.int .i64 4)] S fun t37 S_2 =>
 AA (AI .lss (AV.strip t37) (.int .i64 0)) fun t39 =>
 ifK t39
 (Q (.agg [(.int .i64 0), (.bool false), (.vs 1 [] .nil), (.vs 7 [] .nil), (.int .i64 0), (.vs 2 [] .nil), (.str []), (.int .i64 (-1))]) S_2)
 (CE ([(.str a0), (.int .i64 9), (.int .i64 0)], [(some [(.int .i64 0), (.bool false), (.vs 1 [] .nil), (.vs 7 [] .nil), (.int .i64 0), (.vs 2 [] .nil), (.str []), (.int .i64 0)]), (some [(.int .i64 0), (.bool false), (.vs 1 [] .nil), (.vs 7 [] .nil), (.int .i64 0), (.vs 2 [] .nil), (.str []), (.int .i64 (-1))]), (some b6_2)]) (fun v bx => ([v 0, v 7, v 9], [bx 4, bx 5, bx 6])) (fun nx v bx S_3 =>
 AA (AI .lss (AV.strip (v 9)) (AV.strip t37)) fun t43 =>
 ifK t43
 (Az Ca B7 [(AV.strip (v 0)), (AV.strip (v 7)), (.int .i64 4)] S_3 fun t48 S_4 =>
 AA (AI .add (AV.strip (v 7)) (.int .i64 4)) fun t51 =>
 Az Ca B7 [(AV.strip (v 0)), t51, (.int .i64 4)] S_4 fun t52 S_5 =>
 AA (AI .lss (AV.strip t52) (.int .i64 0)) fun t54 =>
 AJ (fun (x62 : AV) =>
 AA (Aa (AV.strip t54) (.bool true) x62) fun t63 =>
 ifK (AV.strip t63)
 (AA (AG Al (bx 5) 0) fun t64 =>
 AA (AP Al (bx 4) 0 (AV.strip t64)) fun b4 =>
 AA ((AG Al (some b4) 0).map AV.strip) fun r4 =>
 Q r4 S_5)
 (AA (bx 6) fun _ =>
 AA (AI .add (AV.strip (v 7)) (.int .i64 8)) fun t70 =>
 AA (AI .add (AV.strip (v 7)) (.int .i64 8)) fun t72 =>
 AA (AI .add t72 (AV.strip t52)) fun t74 =>
 AA (AG As (bx 6) 5) fun t66 =>
 AA (Ba (AV.strip (v 0)) (some t70) (some t74)) fun t75 =>
 AA (EY Ah 1 [(0, (AV.strip t48)), (1, t75)]) fun t76 =>
 AA (Bm 2 [t76]) fun e77 =>
 AA (Ao Ah S_5 (AV.strip0 t66) (.vs 2 e77 .full)) fun t78 =>
 AA (Bu (bx 6) 5) fun _ =>
 AA (AP As (Bu (bx 6) 5) 5 t78) fun b6_3 =>
 AA (AI .add (AV.strip (v 7)) (.int .i64 8)) fun t81 =>
 AA (AI .add t81 (AV.strip t52)) fun t83 =>
 AA (AI .add (AV.strip (v 9)) (.int .i64 1)) fun t45 =>
 nx ([(v 0), t83, t45], [(bx 4), (bx 5), (some b6_3)]) S_5)) fun j_2 =>
 ifK (AV.strip t54)
 (j_2 (.tup []))
 (AA (AI .add (AV.strip (v 7)) (.int .i64 8)) fun t57 =>
 AA (AI .add t57 (AV.strip t52)) fun t59 =>
 AA (CM (AV.strip (v 0))) fun t61 =>
 AA (AI .gtr t59 t61) fun t62 =>
 j_2 t62))
 (j_6 (v 7) (bx 4) (bx 6) S_3)) S_2))
 (AA (some b6) fun _ =>
 AA (AG Aj (some b6) 0) fun t85 =>
 AA (AI .eql (AV.strip t85) (.int .i64 2)) fun t86 =>
 ifK t86
 (Ca B7 [(.str a0), (.int .i64 2), (.int .i64 2)] S0 fun t88 S_6 =>
 AA (AI .lss (AV.strip t88) (.int .i64 0)) fun t90 =>
 AJ (fun (x94 : AV) =>
 AA (Aa (AV.strip t90) (.bool true) x94) fun t95 =>
 ifK (AV.strip t95)
 (Q (.agg [(.int .i64 0), (.bool false), (.vs 1 [] .nil), (.vs 7 [] .nil), (.int .i64 0), (.vs 2 [] .nil), (.str []), (.int .i64 (-1))]) S_6)
 (AA (DI (.str a0) (.int .i64 1)) fun t98 =>
 AA (AI .eql t98 (.int .u8 1)) fun t99 =>
 AA (some b6) fun _ =>
 AA (AP C3 (some b6) 1 t99) fun b6_4 =>
 CE ([(.str a0), (.int .i64 4), (.int .i64 0)], [(some [(.int .i64 0), (.bool false), (.vs 1 [] .nil), (.vs 7 [] .nil), (.int .i64 0), (.vs 2 [] .nil), (.str []), (.int .i64 0)]), (some [(.int .i64 0), (.bool false), (.vs 1 [] .nil), (.vs 7 [] .nil), (.int .i64 0), (.vs 2 [] .nil), (.str []), (.int .i64 (-1))]), (some b6_4)]) (fun v_2 bx_2 => ([v_2 0, v_2 7, v_2 13], [bx_2 4, bx_2 5, bx_2 6])) (fun nx_2 v_2 bx_2 S_7 =>
 AA (AI .lss (AV.strip (v_2 13)) (AV.strip t88)) fun t103 =>
 ifK t103
 (Az Ca B7 [(AV.strip (v_2 0)), (AV.strip (v_2 7)), (.int .i64 1)] S_7 fun t108 S_8 =>
 AA (AI .lss (AV.strip t108) (.int .i64 0)) fun t110 =>
 AJ (fun (x118 : AV) =>
 AA (Aa (AV.strip t110) (.bool true) x118) fun t119 =>
 ifK (AV.strip t119)
 (AA (AG Al (bx_2 5) 0) fun t120 =>
 AA (AP Al (bx_2 4) 0 (AV.strip t120)) fun b4_2 =>
 AA ((AG Al (some b4_2) 0).map AV.strip) fun r4_2 =>
 Q r4_2 S_8)
 (AA (bx_2 6) fun _ =>
 AA (AI .add (AV.strip (v_2 7)) (.int .i64 1)) fun t125 =>
 AA (AI .add (AV.strip (v_2 7)) (.int .i64 1)) fun t127 =>
 AA (AI .add t127 (AV.strip t108)) fun t129 =>
 AA (AG A1 (bx_2 6) 2) fun t122 =>
 AA (Ba (AV.strip (v_2 0)) (some t125) (some t129)) fun t130 =>
 AA (Bm 1 [t130]) fun e131 =>
 AA (Ao AF S_8 (AV.strip0 t122) (.vs 1 e131 .full)) fun t132 =>
 AA (Bu (bx_2 6) 2) fun _ =>
 AA (AP A1 (Bu (bx_2 6) 2) 2 t132) fun b6_5 =>
 AA (AI .add (AV.strip (v_2 7)) (.int .i64 1)) fun t136 =>
 AA (AI .add t136 (AV.strip t108)) fun t138 =>
 AA (Ba (v_2 0) (some t138) none) fun t139 =>
 Az Ca HJ [t139, (.int .i64 (IntKind.i64.wrap (a1 + 1)))] S_8 fun t142 S_9 =>
 AA (AP Al (some [(.int .i64 0), (.bool false), (.vs 1 [] .nil), (.vs 7 [] .nil), (.int .i64 0), (.vs 2 [] .nil), (.str []), (.int .i64 0)]) 0 t142) fun b15 =>
 AA (some b15) fun _ =>
 AA (AG Aj (some b15) 7) fun t144 =>
 AA (AI .lss (AV.strip t144) (.int .i64 0)) fun t145 =>
 ifK t145
 (AA (AG Al (bx_2 5) 0) fun t146 =>
 AA (AP Al (bx_2 4) 0 (AV.strip t146)) fun b4_3 =>
 AA ((AG Al (some b4_3) 0).map AV.strip) fun r4_3 =>
 Q r4_3 S_9)
 (AA (some b6_5) fun _ =>
 AA (AG Au (some b6_5) 3) fun t148 =>
 AA (some b15) fun _ =>
 AA (AG AB (some b15) 0) fun t150 =>
 AA (Bm 7 [(AV.strip t150)]) fun e151 =>
 AA (Ao AB S_9 (AV.strip0 t148) (.vs 7 e151 .full)) fun t152 =>
 AA (Bu (some b6_5) 3) fun _ =>
 AA (AP Au (Bu (some b6_5) 3) 3 t152) fun b6_6 =>
 AA (AI .add (AV.strip (v_2 7)) (.int .i64 1)) fun t155 =>
 AA (AI .add t155 (AV.strip t108)) fun t157 =>
 AA (some b15) fun _ =>
 AA (AG Aj (some b15) 7) fun t159 =>
 AA (AI .add t157 (AV.strip t159)) fun t160 =>
 AA (AI .add (AV.strip (v_2 13)) (.int .i64 1)) fun t105 =>
 nx_2 ([(AV.strip (v_2 0)), t160, t105], [(bx_2 4), (bx_2 5), (some b6_6)]) S_9))) fun j_4 =>
 ifK (AV.strip t110)
 (j_4 (.tup []))
 (AA (AI .add (AV.strip (v_2 7)) (.int .i64 1)) fun t113 =>
 AA (AI .add t113 (AV.strip t108)) fun t115 =>
 AA (CM (AV.strip (v_2 0))) fun t117 =>
 AA (AI .gtr t115 t117) fun t118 =>
 j_4 t118))
 (j_6 (v_2 7) (bx_2 4) (bx_2 6) S_7)) S_6)) fun j_3 =>
 ifK (AV.strip t90)
 (j_3 (.tup []))
 (AA (DI (.str a0) (.int .i64 1)) fun t93 =>
 AA (AI .gtr t93 (.int .u8 1)) fun t94 =>
 j_3 t94))
 (AA (some b6) fun _ =>
 AA (AG Aj (some b6) 0) fun t162 =>
 AA (AI .eql (AV.strip t162) (.int .i64 3)) fun t163 =>
 ifK t163
 (Ca B7 [(.str a0), (.int .i64 1), (.int .i64 2)] S0 fun t165 S_10 =>
 AA (AI .lss (AV.strip t165) (.int .i64 0)) fun t167 =>
 AJ (fun (x173 : AV) =>
 AA (Aa (AV.strip t167) (.bool true) x173) fun t174 =>
 ifK (AV.strip t174)
 (Q (.agg [(.int .i64 0), (.bool false), (.vs 1 [] .nil), (.vs 7 [] .nil), (.int .i64 0), (.vs 2 [] .nil), (.str []), (.int .i64 (-1))]) S_10)
 (AA (AI .add (.int .i64 3) (AV.strip t165)) fun t178 =>
 AA (Ba (.str a0) (some (.int .i64 3)) (some t178)) fun t179 =>
 AA (some b6) fun _ =>
 AA (AP AF (some b6) 6 t179) fun b6_7 =>
 AA (AI .add (.int .i64 3) (AV.strip t165)) fun t182 =>
 j_6 t182 (some [(.int .i64 0), (.bool false), (.vs 1 [] .nil), (.vs 7 [] .nil), (.int .i64 0), (.vs 2 [] .nil), (.str []), (.int .i64 0)]) (some b6_7) S_10)) fun j_5 =>
 ifK (AV.strip t167)
 (j_5 (.tup []))
 (AA (AI .add (.int .i64 3) (AV.strip t165)) fun t170 =>
 AA (AI .gtr t170 (.int .i64 (List.length a0 : Int))) fun t173 =>
 j_5 t173))
 (AA (some b6) fun _ =>
 AA (AG Aj (some b6) 0) fun t184 =>
 AA (AI .neq (AV.strip t184) (.int .i64 4)) fun t185 =>
 ifK t185
 (Q (.agg [(.int .i64 0), (.bool false), (.vs 1 [] .nil), (.vs 7 [] .nil), (.int .i64 0), (.vs 2 [] .nil), (.str []), (.int .i64 (-1))]) S0)
 (j_6 (.int .i64 1) (some [(.int .i64 0), (.bool false), (.vs 1 [] .nil), (.vs 7 [] .nil), (.int .i64 0), (.vs 2 [] .nil), (.str []), (.int .i64 0)]) (some b6) S0)))))) fun j =>
 ifK (.bool (decide (a1 > 15)))
 (j (.tup []))
 (j (.bool (decide ((List.length a0 : Int) < 1))))
theorem RL (Ca) (a0 : List UInt8) (a1 : Int) (S0 Q) : WF C Ca 58 (Drw C Ca 58) Tryz.f58 [(.str a0), (.int .i64 a1)] S0 Q = HI Ca a0 a1 S0 Q := by kernel_rfl
theorem Lh {w0 : World} {a0 : List UInt8} {a1 : Int} {S0 : St} {Q : AV → St → Prop} (h : HI (AM (En w0)) a0 a1 S0 Q) : AC w0 HJ [(.str a0), (.int .i64 a1)] S0 Q := BW w0 Tryz.func58 (by kernel_rfl) (by rw [RL]; exact h)
def IE (Ca : Nat → List AV → St → (AV → St → Prop) → Prop) (a0a : Int) (a0b : Bool) (a0c : List (List AV)) (a0cr : Rt) (a0d : List (List AV)) (a0dr : Rt) (a0e : Int) (a0f : List (List AV)) (a0fr : Rt) (a0g : List UInt8) (S0 : St) (Q : AV → St → Prop) : Prop :=
 AA (FU AB (.agg [(.int .i64 a0a), (.bool a0b), (.vs 1 a0c a0cr), (.vs 7 a0d a0dr), (.int .i64 a0e), (.vs 2 a0f a0fr), (.str a0g)])) fun c1 =>
 AA (AG AB (some c1) 0) fun t5 =>
 Az Ca GD [(AV.strip t5)] S0 fun t6 S =>
 AA (unA .not t6) fun t7 =>
 ifK t7
 (Q (.tup [.nil, (.int .i64 1)]) S)
 (AA (FU CU (.agg [(.vs 8 [] .nil)])) fun c9 =>
 AA (AG AB (some c1) 0) fun t11 =>
 Az Ca C7 [(.ptr S.length 0), (AV.strip t11)] (S ++ [.cells c9 B9]) fun t12 S_2 =>
 Q (.tup [(.ptr S.length 0), (.int .i64 0)]) S_2)
theorem Pj (Ca) (a0a : Int) (a0b : Bool) (a0c : List (List AV)) (a0cr : Rt) (a0d : List (List AV)) (a0dr : Rt) (a0e : Int) (a0f : List (List AV)) (a0fr : Rt) (a0g : List UInt8) (S0 Q) : WF C Ca 59 (Drw C Ca 59) Tryz.f59 [(.agg [(.int .i64 a0a), (.bool a0b), (.vs 1 a0c a0cr), (.vs 7 a0d a0dr), (.int .i64 a0e), (.vs 2 a0f a0fr), (.str a0g)])] S0 Q = IE Ca a0a a0b a0c a0cr a0d a0dr a0e a0f a0fr a0g S0 Q := by kernel_rfl
theorem QM {w0 : World} {a0a : Int} {a0b : Bool} {a0c : List (List AV)} {a0cr : Rt} {a0d : List (List AV)} {a0dr : Rt} {a0e : Int} {a0f : List (List AV)} {a0fr : Rt} {a0g : List UInt8} {S0 : St} {Q : AV → St → Prop} (h : IE (AM (En w0)) a0a a0b a0c a0cr a0d a0dr a0e a0f a0fr a0g S0 Q) : AC w0 Ii [(.agg [(.int .i64 a0a), (.bool a0b), (.vs 1 a0c a0cr), (.vs 7 a0d a0dr), (.int .i64 a0e), (.vs 2 a0f a0fr), (.str a0g)])] S0 Q := BW w0 Tryz.func59 (by kernel_rfl) (by rw [Pj]; exact h)
def CG (Ca : Nat → List AV → St → (AV → St → Prop) → Prop) (a0 : List (List AV)) (a0r : Rt) (S0 : St) (Q : AV → St → Prop) : Prop :=
 AA (F4 .slice .eql (.vs 1 a0 (Rt.strip a0r)) (.vs 1 [] .nil)) fun t4 =>
 ifK t4
 (Q (.vs 1 [] .nil) S0)
 (AA (Ao AF S0 (.vs 1 [] .full) (.vs 1 a0 (Rt.strip a0r))) fun t7 =>
 Q t7 S0)
theorem FL (Ca) (a0 : List (List AV)) (a0r : Rt) (S0 Q) : WF C Ca 60 (Drw C Ca 60) Tryz.f60 [(.vs 1 a0 a0r)] S0 Q = CG Ca a0 a0r S0 Q := by kernel_rfl
theorem FM {w0 : World} {a0 : List (List AV)} {a0r : Rt} {S0 : St} {Q : AV → St → Prop} (h : CG (AM (En w0)) a0 a0r S0 Q) : AC w0 CI [(.vs 1 a0 a0r)] S0 Q := BW w0 Tryz.func60 (by kernel_rfl) (by rw [FL]; exact h)
def HZ (Ca : Nat → List AV → St → (AV → St → Prop) → Prop) (a0a : Int) (a0b : Bool) (a0c : List (List AV)) (a0cr : Rt) (a0d : List (List AV)) (a0dr : Rt) (a0e : Int) (a0f : List (List AV)) (a0fr : Rt) (a0g : List UInt8) (a1 : Int) (a2 : AV) (S0 : St) (Q : AV → St → Prop) : Prop :=
 AA (FU AB (.agg [(.int .i64 a0a), (.bool a0b), (.vs 1 a0c a0cr), (.vs 7 a0d a0dr), (.int .i64 a0e), (.vs 2 a0f a0fr), (.str a0g)])) fun c3 =>
 AA (LS (AV.strip a2)) fun t12 =>
 AA (Ad Aj S0 t12) fun t13 =>
 AA (some c3) fun _ =>
 AA (AG A1 (some c3) 2) fun t15 =>
 AA (A7 (AV.strip t15)) fun t16 =>
 AA (AI .add (.int .i64 1) t16) fun t17 =>
 AA (some c3) fun _ =>
 AA (AG As (some c3) 5) fun t19 =>
 AA (A7 (AV.strip t19)) fun t20 =>
 AA (AI .add t17 t20) fun t21 =>
 AA (AI .sub (AV.strip t13) t21) fun t22 =>
 AA (LS (AV.strip a2)) fun t23 =>
 AA (Bk Aj S0 t23 t22) fun S =>
 AJ (fun (S_4 : St) =>
 AA (LS (AV.strip a2)) fun t41 =>
 AA (Ad Aj S_4 t41) fun t42 =>
 AA (some c3) fun _ =>
 AA (AG AF (some c3) 6) fun t44 =>
 AA (CM (AV.strip t44)) fun t45 =>
 AA (AI .sub (AV.strip t42) t45) fun t46 =>
 AA (LS (AV.strip a2)) fun t47 =>
 AA (Bk Aj S_4 t47 t46) fun S_5 =>
 AA (LS (AV.strip a2)) fun t49 =>
 AA (Ad Aj S_5 t49) fun t50 =>
 AA (AI .lss (AV.strip t50) (.int .i64 0)) fun t51 =>
 AJ (fun (x54 : AV) =>
 AA (Aa (AV.strip t51) (.bool true) x54) fun t55 =>
 ifK (AV.strip t55)
 (Q (.bool false) S_5)
 (AJ (fun (S_8 : St) =>
 Q (.bool true) S_8) fun j_2 =>
 AA (some c3) fun _ =>
 AA (AG Au (some c3) 3) fun t57 =>
 AA (A7 (AV.strip t57)) fun t58 =>
 CE ([(.int .i64 0)], []) (fun v_2 bx_2 => ([v_2 59], [])) (fun nx_2 v_2 bx_2 S_6 =>
 AA (AI .lss (v_2 59) t58) fun t60 =>
 ifK t60
 (AA (Aq AB (AV.strip t57) (v_2 59)) fun t61 =>
 AA (Ad AB S_6 t61) fun t62 =>
 AA (AP AB (some [(.int .i64 0), (.bool false), (.vs 1 [] .nil), (.vs 7 [] .nil), (.int .i64 0), (.vs 2 [] .nil), (.str [])]) 0 (AV.strip t62)) fun b10 =>
 AA (AG AB (some b10) 0) fun t63 =>
 Az Ca Fj [(AV.strip t63), (.int .i64 (IntKind.i64.wrap (a1 - 1))), (AV.strip a2)] S_6 fun t67 S_7 =>
 AA (unA .not t67) fun t68 =>
 ifK t68
 (Q (.bool false) S_7)
 (AA (AI .add (v_2 59) (.int .i64 1)) fun t69 =>
 nx_2 ([(AV.strip t69)], []) S_7))
 (j_2 S_6)) S_5)) fun j =>
 ifK (AV.strip t51)
 (j (.tup []))
 (j (.bool (decide (a1 < 0))))) fun j_3 =>
 AA (some c3) fun _ =>
 AA (AG As (some c3) 5) fun t25 =>
 AA (A7 (AV.strip t25)) fun t26 =>
 CE ([(.int .i64 0)], []) (fun v bx => ([v 27], [])) (fun nx v bx S_2 =>
 AA (AI .lss (v 27) t26) fun t28 =>
 ifK t28
 (AA (Aq Ah (AV.strip t25) (v 27)) fun t29 =>
 AA (Ad Ah S_2 t29) fun t30 =>
 AA (AP Ah (some [(.int .i64 0), (.str [])]) 0 (AV.strip t30)) fun b8 =>
 AA (LS (AV.strip a2)) fun t32 =>
 AA (Ad Aj S_2 t32) fun t33 =>
 AA (some b8) fun _ =>
 AA (AG AF (some b8) 1) fun t35 =>
 AA (CM (AV.strip t35)) fun t36 =>
 AA (AI .sub (AV.strip t33) t36) fun t37 =>
 AA (LS (AV.strip a2)) fun t38 =>
 AA (Bk Aj S_2 t38 t37) fun S_3 =>
 AA (AI .add (v 27) (.int .i64 1)) fun t39 =>
 nx ([(AV.strip t39)], []) S_3)
 (j_3 S_2)) S
theorem PL (Ca) (a0a : Int) (a0b : Bool) (a0c : List (List AV)) (a0cr : Rt) (a0d : List (List AV)) (a0dr : Rt) (a0e : Int) (a0f : List (List AV)) (a0fr : Rt) (a0g : List UInt8) (a1 : Int) (a2 : AV) (S0 Q) : WF C Ca 63 (Drw C Ca 63) Tryz.f63 [(.agg [(.int .i64 a0a), (.bool a0b), (.vs 1 a0c a0cr), (.vs 7 a0d a0dr), (.int .i64 a0e), (.vs 2 a0f a0fr), (.str a0g)]), (.int .i64 a1), a2] S0 Q = HZ Ca a0a a0b a0c a0cr a0d a0dr a0e a0f a0fr a0g a1 a2 S0 Q := by kernel_rfl
theorem Od {w0 : World} {a0a : Int} {a0b : Bool} {a0c : List (List AV)} {a0cr : Rt} {a0d : List (List AV)} {a0dr : Rt} {a0e : Int} {a0f : List (List AV)} {a0fr : Rt} {a0g : List UInt8} {a1 : Int} {a2 : AV} {S0 : St} {Q : AV → St → Prop} (h : HZ (AM (En w0)) a0a a0b a0c a0cr a0d a0dr a0e a0f a0fr a0g a1 a2 S0 Q) : AC w0 Fj [(.agg [(.int .i64 a0a), (.bool a0b), (.vs 1 a0c a0cr), (.vs 7 a0d a0dr), (.int .i64 a0e), (.vs 2 a0f a0fr), (.str a0g)]), (.int .i64 a1), a2] S0 Q := BW w0 Tryz.func63 (by kernel_rfl) (by rw [PL]; exact h)
def Jg (Ca : Nat → List AV → St → (AV → St → Prop) → Prop) (a0a : Int) (a0b : Bool) (a0c : List (List AV)) (a0cr : Rt) (a0d : List (List AV)) (a0dr : Rt) (a0e : Int) (a0f : List (List AV)) (a0fr : Rt) (a0g : List UInt8) (S0 : St) (Q : AV → St → Prop) : Prop :=
 AA (FU AB (.agg [(.int .i64 a0a), (.bool a0b), (.vs 1 a0c a0cr), (.vs 7 a0d a0dr), (.int .i64 a0e), (.vs 2 a0f a0fr), (.str a0g)])) fun c1 =>
 AJ (fun (y1 : Option (List AV)) (S_3 : St) =>
 AA (AG AB y1 0) fun t18 =>
 Az Ca JY [(AV.strip t18)] S_3 fun t19 S_4 =>
 Q t19 S_4) fun j =>
 CE ([(.int .i64 0)], [(some c1)]) (fun v bx => ([v 3], [bx 1])) (fun nx v bx S =>
 AA (bx 1) fun _ =>
 AA (AG Au (bx 1) 3) fun t6 =>
 AA (A7 (AV.strip t6)) fun t7 =>
 AA (AI .lss (AV.strip (v 3)) t7) fun t8 =>
 ifK t8
 (AA (bx 1) fun _ =>
 AA (AG Au (bx 1) 3) fun t12 =>
 AA (Aq AB (AV.strip t12) (AV.strip (v 3))) fun t14 =>
 AA (Ad AB S t14) fun t15 =>
 Az Ca HO [(AV.strip t15)] S fun t16 S_2 =>
 AA (unA .not t16) fun t17 =>
 ifK t17
 (Q (.bool false) S_2)
 (AA (AI .add (AV.strip (v 3)) (.int .i64 1)) fun t10 =>
 nx ([t10], [(bx 1)]) S_2))
 (j (bx 1) S)) S0
theorem R1 (Ca) (a0a : Int) (a0b : Bool) (a0c : List (List AV)) (a0cr : Rt) (a0d : List (List AV)) (a0dr : Rt) (a0e : Int) (a0f : List (List AV)) (a0fr : Rt) (a0g : List UInt8) (S0 Q) : WF C Ca 64 (Drw C Ca 64) Tryz.f64 [(.agg [(.int .i64 a0a), (.bool a0b), (.vs 1 a0c a0cr), (.vs 7 a0d a0dr), (.int .i64 a0e), (.vs 2 a0f a0fr), (.str a0g)])] S0 Q = Jg Ca a0a a0b a0c a0cr a0d a0dr a0e a0f a0fr a0g S0 Q := by kernel_rfl
theorem SM {w0 : World} {a0a : Int} {a0b : Bool} {a0c : List (List AV)} {a0cr : Rt} {a0d : List (List AV)} {a0dr : Rt} {a0e : Int} {a0f : List (List AV)} {a0fr : Rt} {a0g : List UInt8} {S0 : St} {Q : AV → St → Prop} (h : Jg (AM (En w0)) a0a a0b a0c a0cr a0d a0dr a0e a0f a0fr a0g S0 Q) : AC w0 HO [(.agg [(.int .i64 a0a), (.bool a0b), (.vs 1 a0c a0cr), (.vs 7 a0d a0dr), (.int .i64 a0e), (.vs 2 a0f a0fr), (.str a0g)])] S0 Q := BW w0 Tryz.func64 (by kernel_rfl) (by rw [R1]; exact h)
def He (Ca : Nat → List AV → St → (AV → St → Prop) → Prop) (a0a : Int) (a0b : Bool) (a0c : List (List AV)) (a0cr : Rt) (a0d : List (List AV)) (a0dr : Rt) (a0e : Int) (a0f : List (List AV)) (a0fr : Rt) (a0g : List UInt8) (S0 : St) (Q : AV → St → Prop) : Prop :=
 AA (FU AB (.agg [(.int .i64 a0a), (.bool a0b), (.vs 1 a0c a0cr), (.vs 7 a0d a0dr), (.int .i64 a0e), (.vs 2 a0f a0fr), (.str a0g)])) fun c1 =>
 AJ (fun (x3 : AV) (S_3 : St) =>
 Q (AV.strip x3) S_3) fun j =>
 CE ([(.int .i64 1), (.int .i64 0)], [(some c1)]) (fun v bx => ([v 3, v 4], [bx 1])) (fun nx v bx S =>
 AA (bx 1) fun _ =>
 AA (AG Au (bx 1) 3) fun t7 =>
 AA (A7 (AV.strip t7)) fun t8 =>
 AA (AI .lss (AV.strip (v 4)) t8) fun t9 =>
 ifK t9
 (AA (bx 1) fun _ =>
 AA (AG Au (bx 1) 3) fun t14 =>
 AA (Aq AB (AV.strip t14) (AV.strip (v 4))) fun t16 =>
 AA (Ad AB S t16) fun t17 =>
 Az Ca Fn [(AV.strip t17)] S fun t18 S_2 =>
 AA (AI .add (AV.strip (v 3)) t18) fun t19 =>
 AA (AI .add (AV.strip (v 4)) (.int .i64 1)) fun t11 =>
 nx ([t19, t11], [(bx 1)]) S_2)
 (j (v 3) S)) S0
theorem Of (Ca) (a0a : Int) (a0b : Bool) (a0c : List (List AV)) (a0cr : Rt) (a0d : List (List AV)) (a0dr : Rt) (a0e : Int) (a0f : List (List AV)) (a0fr : Rt) (a0g : List UInt8) (S0 Q) : WF C Ca 65 (Drw C Ca 65) Tryz.f65 [(.agg [(.int .i64 a0a), (.bool a0b), (.vs 1 a0c a0cr), (.vs 7 a0d a0dr), (.int .i64 a0e), (.vs 2 a0f a0fr), (.str a0g)])] S0 Q = He Ca a0a a0b a0c a0cr a0d a0dr a0e a0f a0fr a0g S0 Q := by kernel_rfl
theorem PE {w0 : World} {a0a : Int} {a0b : Bool} {a0c : List (List AV)} {a0cr : Rt} {a0d : List (List AV)} {a0dr : Rt} {a0e : Int} {a0f : List (List AV)} {a0fr : Rt} {a0g : List UInt8} {S0 : St} {Q : AV → St → Prop} (h : He (AM (En w0)) a0a a0b a0c a0cr a0d a0dr a0e a0f a0fr a0g S0 Q) : AC w0 Fn [(.agg [(.int .i64 a0a), (.bool a0b), (.vs 1 a0c a0cr), (.vs 7 a0d a0dr), (.int .i64 a0e), (.vs 2 a0f a0fr), (.str a0g)])] S0 Q := BW w0 Tryz.func65 (by kernel_rfl) (by rw [Of]; exact h)
def HX (Ca : Nat → List AV → St → (AV → St → Prop) → Prop) (a0a : Int) (a0b : Bool) (a0c : List (List AV)) (a0cr : Rt) (a0d : List (List AV)) (a0dr : Rt) (a0e : Int) (a0f : List (List AV)) (a0fr : Rt) (a0g : List UInt8) (S0 : St) (Q : AV → St → Prop) : Prop :=
 AA (FU AB (.agg [(.int .i64 a0a), (.bool a0b), (.vs 1 a0c a0cr), (.vs 7 a0d a0dr), (.int .i64 a0e), (.vs 2 a0f a0fr), (.str a0g)])) fun c1 =>
 AJ (fun (x3_2 : AV) (S_4 : St) =>
 Q (AV.strip x3_2) S_4) fun j_2 =>
 CE ([(.int .i64 0), (.int .i64 0)], [(some c1)]) (fun v bx => ([v 3, v 4], [bx 1])) (fun nx v bx S =>
 AA (bx 1) fun _ =>
 AA (AG Au (bx 1) 3) fun t8 =>
 AA (A7 (AV.strip t8)) fun t9 =>
 AA (AI .lss (AV.strip (v 4)) t9) fun t10 =>
 ifK t10
 (AJ (fun (x3 : AV) (S_3 : St) =>
 AA (AI .add (AV.strip (v 4)) (.int .i64 1)) fun t12 =>
 nx ([x3, t12], [(bx 1)]) S_3) fun j =>
 AA (bx 1) fun _ =>
 AA (AG Au (bx 1) 3) fun t14 =>
 AA (Aq AB (AV.strip t14) (AV.strip (v 4))) fun t16 =>
 AA (Ad AB S t16) fun t17 =>
 Az Ca Fk [(AV.strip t17)] S fun t18 S_2 =>
 AA (AI .add t18 (.int .i64 1)) fun t19 =>
 AA (AI .gtr (AV.strip t19) (AV.strip (v 3))) fun t22 =>
 ifK t22
 (j (AV.strip t19) S_2)
 (j (v 3) S_2))
 (j_2 (v 3) S)) S0
theorem Oq (Ca) (a0a : Int) (a0b : Bool) (a0c : List (List AV)) (a0cr : Rt) (a0d : List (List AV)) (a0dr : Rt) (a0e : Int) (a0f : List (List AV)) (a0fr : Rt) (a0g : List UInt8) (S0 Q) : WF C Ca 66 (Drw C Ca 66) Tryz.f66 [(.agg [(.int .i64 a0a), (.bool a0b), (.vs 1 a0c a0cr), (.vs 7 a0d a0dr), (.int .i64 a0e), (.vs 2 a0f a0fr), (.str a0g)])] S0 Q = HX Ca a0a a0b a0c a0cr a0d a0dr a0e a0f a0fr a0g S0 Q := by kernel_rfl
theorem OR {w0 : World} {a0a : Int} {a0b : Bool} {a0c : List (List AV)} {a0cr : Rt} {a0d : List (List AV)} {a0dr : Rt} {a0e : Int} {a0f : List (List AV)} {a0fr : Rt} {a0g : List UInt8} {S0 : St} {Q : AV → St → Prop} (h : HX (AM (En w0)) a0a a0b a0c a0cr a0d a0dr a0e a0f a0fr a0g S0 Q) : AC w0 Fk [(.agg [(.int .i64 a0a), (.bool a0b), (.vs 1 a0c a0cr), (.vs 7 a0d a0dr), (.int .i64 a0e), (.vs 2 a0f a0fr), (.str a0g)])] S0 Q := BW w0 Tryz.func66 (by kernel_rfl) (by rw [Oq]; exact h)
def Iq (Ca : Nat → List AV → St → (AV → St → Prop) → Prop) (a0 : List UInt8) (S0 : St) (Q : AV → St → Prop) : Prop :=
 AJ (fun (x12 : AV) =>
 AA (Aa (.bool (a0 == [])) (.bool true) x12) fun t13 =>
 ifK (AV.strip t13)
 (Q (.tup [(.vs 1 [] .nil), (.bool false), (.int .i64 1)]) S0)
 (AJ (fun (x2_2 : AV) (S_6 : St) =>
 AA (DI (.str a0) (.int .i64 0)) fun t42 =>
 AA (AI .eql t42 (.int .u8 47)) fun t43 =>
 Q (.tup [(AV.flat x2_2), (AV.flat t43), (.int .i64 0)]) S_6) fun j_5 =>
 Ca Da [(.str a0), (.str [47])] S0 fun t15 S =>
 AA (A7 t15) fun t16 =>
 CE ([(.vs 1 [] .nil), (.int .i64 0)], []) (fun v bx => ([v 2, v 17], [])) (fun nx v bx S_2 =>
 AA (AI .lss (v 17) t16) fun t18 =>
 ifK t18
 (AJ (fun (x2 : AV) (S_5 : St) =>
 AA (AI .add (v 17) (.int .i64 1)) fun t39 =>
 nx ([x2, (AV.strip t39)], []) S_5) fun j_4 =>
 AA (Aq AF t15 (v 17)) fun t19 =>
 AA (Ad AF S_2 t19) fun t20 =>
 AA (AI .eql (AV.strip (AV.strip t20)) (.str [])) fun t23 =>
 AJ (fun (x26 : AV) =>
 AA (Aa (AV.strip t23) (.bool true) x26) fun t27 =>
 ifK (AV.strip t27)
 (j_4 (v 2) S_2)
 (AA (AI .eql (AV.strip (AV.strip t20)) (.str [46, 46])) fun t30 =>
 AJ (fun (x33 : AV) (S_4 : St) =>
 AA (Aa (AV.strip t30) (.bool true) x33) fun t34 =>
 ifK (AV.strip t34)
 (AA (Bm 1 [(AV.strip (AV.strip t20))]) fun e37 =>
 AA (Ao AF S_4 (v 2) (.vs 1 e37 .full)) fun t38 =>
 j_4 t38 S_4)
 (Q (.tup [(.vs 1 [] .nil), (.bool false), (.int .i64 1)]) S_4)) fun j_2 =>
 ifK (AV.strip t30)
 (j_2 (.tup []) S_2)
 (Az Ca GH [(AV.strip (AV.strip t20))] S_2 fun t33 S_3 =>
 j_2 t33 S_3))) fun j_3 =>
 ifK (AV.strip t23)
 (j_3 (.tup []))
 (AA (AI .eql (AV.strip (AV.strip t20)) (.str [46])) fun t26 =>
 j_3 t26))
 (j_5 (v 2) S_2)) S)) fun j =>
 ifK (.bool (a0 == []))
 (j (.tup []))
 (j (.bool (decide ((List.length a0 : Int) > 1024))))
theorem P6 (Ca) (a0 : List UInt8) (S0 Q) : WF C Ca 67 (Drw C Ca 67) Tryz.f67 [(.str a0)] S0 Q = Iq Ca a0 S0 Q := by kernel_rfl
theorem Pm {w0 : World} {a0 : List UInt8} {S0 : St} {Q : AV → St → Prop} (h : Iq (AM (En w0)) a0 S0 Q) : AC w0 Ir [(.str a0)] S0 Q := BW w0 Tryz.func67 (by kernel_rfl) (by rw [P6]; exact h)
def Hn (Ca : Nat → List AV → St → (AV → St → Prop) → Prop) (a0 : List UInt8) (S0 : St) (Q : AV → St → Prop) : Prop :=
 AJ (fun (x14 : AV) =>
 AA (Aa (.bool (decide ((List.length a0 : Int) < 1))) (.bool true) x14) fun t15 =>
 ifK (AV.strip t15)
 (Q (.tup [(.vs 1 [] .nil), (.bool false)]) S0)
 (AJ (fun (x4_2 : AV) (S_5 : St) =>
 Q (.tup [(AV.flat (AV.strip x4_2)), (.bool true)]) S_5) fun j_6 =>
 CE ([(.str a0), (.vs 1 [] .full), (.int .i64 0), (.int .i64 0)], []) (fun v bx => ([v 0, v 4, v 5, v 6], [])) (fun nx v bx S =>
 AA (CM (AV.strip (v 0))) fun t19 =>
 AA (AI .leq (AV.strip (v 6)) t19) fun t20 =>
 ifK t20
 (AJ (fun (x0 : AV) (x4 : AV) (x5 : AV) (S_4 : St) =>
 AA (AI .add (AV.strip (v 6)) (.int .i64 1)) fun t22 =>
 nx ([x0, x4, x5, t22], []) S_4) fun j_5 =>
 AA (CM (AV.strip (v 0))) fun t25 =>
 AA (AI .lss (AV.strip (v 6)) t25) fun t26 =>
 AJ (fun (x31 : AV) =>
 AA (Aa (AV.strip t26) x31 (.bool false)) fun t32 =>
 ifK (AV.strip t32)
 (j_5 (v 0) (v 4) (v 5) S)
 (AA (Ba (v 0) (some (AV.strip (v 5))) (some (AV.strip (v 6)))) fun t36 =>
 AA (AI .add (AV.strip (v 6)) (.int .i64 1)) fun t38 =>
 AA (AI .eql (AV.strip t36) (.str [])) fun t40 =>
 AJ (fun (x43 : AV) =>
 AA (Aa (AV.strip t40) (.bool true) x43) fun t44 =>
 ifK (AV.strip t44)
 (j_5 (AV.strip (v 0)) (v 4) t38 S)
 (AA (AI .neq (AV.strip t36) (.str [46, 46])) fun t46 =>
 AJ (fun (x50 : AV) (S_3 : St) =>
 AA (Aa (AV.strip t46) x50 (.bool false)) fun t51 =>
 ifK (AV.strip t51)
 (Q (.tup [(.vs 1 [] .nil), (.bool false)]) S_3)
 (AA (Bm 1 [(AV.strip t36)]) fun e54 =>
 AA (Ao AF S_3 (v 4) (.vs 1 e54 .full)) fun t55 =>
 j_5 (AV.strip (v 0)) t55 t38 S_3)) fun j_4 =>
 ifK (AV.strip t46)
 (Az Ca Fm [(AV.strip t36)] S fun t49 S_2 =>
 AA (unA .not t49) fun t50 =>
 j_4 t50 S_2)
 (j_4 (.tup []) S))) fun j_3 =>
 ifK (AV.strip t40)
 (j_3 (.tup []))
 (AA (AI .eql (AV.strip t36) (.str [46])) fun t43 =>
 j_3 t43))) fun j_2 =>
 ifK (AV.strip t26)
 (AA (DI (AV.strip (v 0)) (AV.strip (v 6))) fun t30 =>
 AA (AI .neq t30 (.int .u8 47)) fun t31 =>
 j_2 t31)
 (j_2 (.tup [])))
 (j_6 (v 4) S)) S0)) fun j =>
 ifK (.bool (decide ((List.length a0 : Int) < 1)))
 (j (.tup []))
 (j (.bool (decide ((List.length a0 : Int) > 1024))))
theorem Ot (Ca) (a0 : List UInt8) (S0 Q) : WF C Ca 75 (Drw C Ca 75) Tryz.f75 [(.str a0)] S0 Q = Hn Ca a0 S0 Q := by kernel_rfl
theorem OU {w0 : World} {a0 : List UInt8} {S0 : St} {Q : AV → St → Prop} (h : Hn (AM (En w0)) a0 S0 Q) : AC w0 Fl [(.str a0)] S0 Q := BW w0 Tryz.func75 (by kernel_rfl) (by rw [Ot]; exact h)
set_option maxHeartbeats 2000000
open Go.Proofs
def Jw (Ca : Nat → List AV → St → (AV → St → Prop) → Prop) (a0 : List UInt8) (a1 : Int) (a2 : Int) (S0 : St) (Q : AV → St → Prop) : Prop :=
 AA (DQ Dh false S0 (.int .i64 a2) (.int .i64 a2)) fun p10 =>
 AJ (fun (S_3 : St) =>
 AA (Dt S_3 (AV.strip p10.1)) fun t27 =>
 AA (AI .add (.str a0) t27) fun t28 =>
 Q t28 S_3) fun j =>
 CE ([(.int .i64 a1), (.int .i64 (IntKind.i64.wrap (a2 - 1)))], []) (fun v bx => ([v 1, v 8], [])) (fun nx v bx S =>
 AA (AI .geq (AV.strip (v 8)) (.int .i64 0)) fun t14 =>
 ifK t14
 (AA (AI .rem (AV.strip (v 1)) (.int .i64 256)) fun t20 =>
 AA (E2 .u8 t20) fun t21 =>
 AA (Aq Dh (AV.strip p10.1) (AV.strip (v 8))) fun t22 =>
 AA (Bk Dh S t22 t21) fun S_2 =>
 AA (AI .quo (AV.strip (v 1)) (.int .i64 256)) fun t24 =>
 AA (AI .sub (AV.strip (v 8)) (.int .i64 1)) fun t16 =>
 nx ([t24, t16], []) S_2)
 (j S)) p10.2
theorem RJ (Ca) (a0 : List UInt8) (a1 : Int) (a2 : Int) (S0 Q) : WF C Ca 87 (Drw C Ca 87) Tryz.f87 [(.str a0), (.int .i64 a1), (.int .i64 a2)] S0 Q = Jw Ca a0 a1 a2 S0 Q := by kernel_rfl
theorem Ru {w0 : World} {a0 : List UInt8} {a1 : Int} {a2 : Int} {S0 : St} {Q : AV → St → Prop} (h : Jw (AM (En w0)) a0 a1 a2 S0 Q) : AC w0 Cx [(.str a0), (.int .i64 a1), (.int .i64 a2)] S0 Q := BW w0 Tryz.func87 (by kernel_rfl) (by rw [RJ]; exact h)
def IK (Ca : Nat → List AV → St → (AV → St → Prop) → Prop) (a0 : List UInt8) (a1 : List UInt8) (a2 : Int) (S0 : St) (Q : AV → St → Prop) : Prop :=
 Ca Cx [(.str a0), (.int .i64 (List.length a1 : Int)), (.int .i64 a2)] S0 fun t11 S =>
 AA (AI .add t11 (.str a1)) fun t13 =>
 Q t13 S
theorem Pb (Ca) (a0 : List UInt8) (a1 : List UInt8) (a2 : Int) (S0 Q) : WF C Ca 88 (Drw C Ca 88) Tryz.f88 [(.str a0), (.str a1), (.int .i64 a2)] S0 Q = IK Ca a0 a1 a2 S0 Q := by kernel_rfl
theorem Ps {w0 : World} {a0 : List UInt8} {a1 : List UInt8} {a2 : Int} {S0 : St} {Q : AV → St → Prop} (h : IK (AM (En w0)) a0 a1 a2 S0 Q) : AC w0 Eu [(.str a0), (.str a1), (.int .i64 a2)] S0 Q := BW w0 Tryz.func88 (by kernel_rfl) (by rw [Pb]; exact h)
def Gj (Ca : Nat → List AV → St → (AV → St → Prop) → Prop) (a0 : List UInt8) (S0 : St) (Q : AV → St → Prop) : Prop :=
 AJ (fun (x12 : AV) =>
 AA (Aa (.bool (decide ((List.length a0 : Int) > 4194304))) (.bool true) x12) fun t13 =>
 AJ (fun (x17 : AV) =>
 AA (Aa (AV.strip (AV.strip t13)) (.bool true) x17) fun t18 =>
 ifK (AV.strip t18)
 (Q (.tup [(.agg [(.int .i64 0), (.bool false), (.vs 1 [] .nil), (.vs 7 [] .nil), (.int .i64 0), (.vs 2 [] .nil), (.str [])]), (.int .i64 1)]) S0)
 (AA (Ba (.str a0) (some (.int .i64 7)) none) fun t21 =>
 Az Ca M2 [t21] S0 fun t22 S =>
 AA (EY CP 1 [(0, t22), (2, (.int .i64 4096))]) fun t23 =>
 AA (FU CP t23) fun c24 =>
 Ca C9 [(.ptr S.length 0), (.int .i64 0)] (S ++ [.cells c24 A3]) fun t26 S_2 =>
 AA (AP AB (some [(.int .i64 0), (.bool false), (.vs 1 [] .nil), (.vs 7 [] .nil), (.int .i64 0), (.vs 2 [] .nil), (.str [])]) 0 t26) fun b5 =>
 AA (Ad C3 S_2 (.ptr S.length 1)) fun t30 =>
 AJ (fun (x37 : AV) (S_4 : St) =>
 AA (Aa (AV.strip (AV.strip t30)) (.bool true) x37) fun t38 =>
 AJ (fun (x42 : AV) (S_6 : St) =>
 AA (Aa (AV.strip (AV.strip t38)) (.bool true) x42) fun t43 =>
 ifK (AV.strip t43)
 (Q (.tup [(.agg [(.int .i64 0), (.bool false), (.vs 1 [] .nil), (.vs 7 [] .nil), (.int .i64 0), (.vs 2 [] .nil), (.str [])]), (.int .i64 1)]) S_6)
 (AA (AG AB (some b5) 0) fun t45 =>
 AA (AP AB (some [(.int .i64 0), (.bool false), (.vs 1 [] .nil), (.vs 7 [] .nil), (.int .i64 0), (.vs 2 [] .nil), (.str [])]) 0 (AV.strip t45)) fun b2 =>
 AA ((AG AB (some b2) 0).map AV.strip) fun r2 =>
 Q (.tup [(AV.flat r2), (.int .i64 0)]) S_6)) fun j_3 =>
 ifK (AV.strip (AV.strip t38))
 (j_3 (.tup []) S_4)
 (AA (AG AB (some b5) 0) fun t40 =>
 Az Ca GD [(AV.strip t40)] S_4 fun t41 S_5 =>
 AA (unA .not t41) fun t42 =>
 j_3 t42 S_5)) fun j_4 =>
 ifK (AV.strip (AV.strip t30))
 (j_4 (.tup []) S_2)
 (AA (Ad B8 S_2 (.ptr S.length 0)) fun t35 =>
 Az Ca GX [(AV.strip t35)] S_2 fun t36 S_3 =>
 AA (AI .gtr t36 (.int .i64 0)) fun t37 =>
 j_4 t37 S_3))) fun j =>
 ifK (AV.strip (AV.strip t13))
 (j (.tup []))
 (AA (Ba (.str a0) none (some (.int .i64 7))) fun t16 =>
 AA (AI .neq t16 (.str [115, 111, 99, 97, 103, 101, 49])) fun t17 =>
 j t17)) fun j_2 =>
 ifK (.bool (decide ((List.length a0 : Int) > 4194304)))
 (j_2 (.tup []))
 (j_2 (.bool (decide ((List.length a0 : Int) < 7))))
theorem NE (Ca) (a0 : List UInt8) (S0 Q) : WF C Ca 89 (Drw C Ca 89) Tryz.f89 [(.str a0)] S0 Q = Gj Ca a0 S0 Q := by kernel_rfl
theorem Nc {w0 : World} {a0 : List UInt8} {S0 : St} {Q : AV → St → Prop} (h : Gj (AM (En w0)) a0 S0 Q) : AC w0 Gf [(.str a0)] S0 Q := BW w0 Tryz.func89 (by kernel_rfl) (by rw [NE]; exact h)
def Gm (Ca : Nat → List AV → St → (AV → St → Prop) → Prop) (a0 : List UInt8) (a1 : Int) (a2 : Int) (S0 : St) (Q : AV → St → Prop) : Prop :=
 AJ (fun (x15 : AV) =>
 AA (Aa (.bool (decide (a1 < 0))) (.bool true) x15) fun t16 =>
 ifK (AV.strip t16)
 (Q (.int .i64 (-1)) S0)
 (AA (Ba (.str a0) (some (.int .i64 a1)) (some (.int .i64 (IntKind.i64.wrap (a1 + a2))))) fun t22 =>
 Az Ca JM [t22] S0 fun t23 S =>
 Q t23 S)) fun j =>
 ifK (.bool (decide (a1 < 0)))
 (j (.tup []))
 (j (.bool (decide ((IntKind.i64.wrap (a1 + a2)) > (List.length a0 : Int)))))
theorem NI (Ca) (a0 : List UInt8) (a1 : Int) (a2 : Int) (S0 Q) : WF C Ca 90 (Drw C Ca 90) Tryz.f90 [(.str a0), (.int .i64 a1), (.int .i64 a2)] S0 Q = Gm Ca a0 a1 a2 S0 Q := by kernel_rfl
theorem NU {w0 : World} {a0 : List UInt8} {a1 : Int} {a2 : Int} {S0 : St} {Q : AV → St → Prop} (h : Gm (AM (En w0)) a0 a1 a2 S0 Q) : AC w0 B7 [(.str a0), (.int .i64 a1), (.int .i64 a2)] S0 Q := BW w0 Tryz.func90 (by kernel_rfl) (by rw [NI]; exact h)
def Il (Ca : Nat → List AV → St → (AV → St → Prop) → Prop) (a0a : Int) (a0b : Bool) (a0c : List (List AV)) (a0cr : Rt) (a0d : List (List AV)) (a0dr : Rt) (a0e : Int) (a0f : List (List AV)) (a0fr : Rt) (a0g : List UInt8) (S0 : St) (Q : AV → St → Prop) : Prop :=
 AA (FU AB (.agg [(.int .i64 a0a), (.bool a0b), (.vs 1 a0c a0cr), (.vs 7 a0d a0dr), (.int .i64 a0e), (.vs 2 a0f a0fr), (.str a0g)])) fun c1 =>
 AA (Bk Aj (S0 ++ [.cells Aj.zero DH]) (.ptr S0.length 0) (.int .i64 4096)) fun S =>
 AA (some c1) fun _ =>
 AA (AG Aj (some c1) 0) fun t5 =>
 AA (AI .eql (AV.strip t5) (.int .i64 2)) fun t6 =>
 AJ (fun (x9 : AV) (S_3 : St) =>
 AA (Aa (AV.strip t6) x9 (.bool false)) fun t10 =>
 Q (AV.strip t10) S_3) fun j =>
 ifK (AV.strip t6)
 (AA (AG AB (some c1) 0) fun t8 =>
 Az Ca GJ [(AV.strip t8), (.int .i64 0), (.ptr S0.length 0)] S fun t9 S_2 =>
 j t9 S_2)
 (j (.tup []) S)
theorem QF (Ca) (a0a : Int) (a0b : Bool) (a0c : List (List AV)) (a0cr : Rt) (a0d : List (List AV)) (a0dr : Rt) (a0e : Int) (a0f : List (List AV)) (a0fr : Rt) (a0g : List UInt8) (S0 Q) : WF C Ca 91 (Drw C Ca 91) Tryz.f91 [(.agg [(.int .i64 a0a), (.bool a0b), (.vs 1 a0c a0cr), (.vs 7 a0d a0dr), (.int .i64 a0e), (.vs 2 a0f a0fr), (.str a0g)])] S0 Q = Il Ca a0a a0b a0c a0cr a0d a0dr a0e a0f a0fr a0g S0 Q := by kernel_rfl
theorem QK {w0 : World} {a0a : Int} {a0b : Bool} {a0c : List (List AV)} {a0cr : Rt} {a0d : List (List AV)} {a0dr : Rt} {a0e : Int} {a0f : List (List AV)} {a0fr : Rt} {a0g : List UInt8} {S0 : St} {Q : AV → St → Prop} (h : Il (AM (En w0)) a0a a0b a0c a0cr a0d a0dr a0e a0f a0fr a0g S0 Q) : AC w0 GD [(.agg [(.int .i64 a0a), (.bool a0b), (.vs 1 a0c a0cr), (.vs 7 a0d a0dr), (.int .i64 a0e), (.vs 2 a0f a0fr), (.str a0g)])] S0 Q := BW w0 Tryz.func91 (by kernel_rfl) (by rw [QF]; exact h)
def D4 (Ca : Nat → List AV → St → (AV → St → Prop) → Prop) (a0 : Nat) (a0o : Nat) (a1a : Int) (a1b : Bool) (a1c : List (List AV)) (a1cr : Rt) (a1d : List (List AV)) (a1dr : Rt) (a1e : Int) (a1f : List (List AV)) (a1fr : Rt) (a1g : List UInt8) (S0 : St) (Q : AV → St → Prop) : Prop :=
 AA (FU AB (.agg [(.int .i64 a1a), (.bool a1b), (.vs 1 a1c a1cr), (.vs 7 a1d a1dr), (.int .i64 a1e), (.vs 2 a1f a1fr), (.str a1g)])) fun c3 =>
 AA (Ad BG S0 (.ptr a0 (a0o + 0))) fun t12 =>
 AA (A7 (AV.strip t12)) fun t13 =>
 AA (Ad BG S0 (.ptr a0 (a0o + 0))) fun t18 =>
 AA (appendR BU (stripMem S0 (.ptr a0 (a0o + 0))) (AV.strip0 t18) (.vs 8 [[(.int .i64 0), (.bool false), (.vs 1 [] .nil), (.vs 7 [] .nil), (.int .i64 0), (.vs 2 [] .nil), (.str []), (.vs 1 [] .nil)]] .full)) fun p21 =>
 AA (Bk BG p21.2 (.ptr a0 (a0o + 0)) p21.1) fun S =>
 AA (AG AB (some c3) 0) fun t24 =>
 AA (EY BU 1 [(0, (AV.strip t24))]) fun t25 =>
 AA (AP BU (some [(.int .i64 0), (.bool false), (.vs 1 [] .nil), (.vs 7 [] .nil), (.int .i64 0), (.vs 2 [] .nil), (.str []), (.vs 1 [] .nil)]) 0 t25) fun b6 =>
 AJ (fun (y6 : Option (List AV)) (S_4 : St) =>
 AA (some c3) fun _ =>
 AA (AG A1 (some c3) 2) fun t43 =>
 AA (some c3) fun _ =>
 AA (AG As (some c3) 5) fun t46 =>
 AA y6 fun _ =>
 AA y6 fun _ =>
 Az Ca CI [(AV.strip t43)] S_4 fun t44 S_5 =>
 Az Ca Bp [(AV.strip t46)] S_5 fun t47 S_6 =>
 AA (AP Au y6 3 (.vs 7 [] .nil)) fun b6_3 =>
 AA (some b6_3) fun _ =>
 AA (some b6_3) fun _ =>
 AA (AP A1 (some b6_3) 2 t44) fun b6_4 =>
 AA (some b6_4) fun _ =>
 AA (some b6_4) fun _ =>
 AA (AP As (some b6_4) 5 t47) fun b6_5 =>
 AA (Ad BG S_6 (.ptr a0 (a0o + 0))) fun t57 =>
 AA (AG BU (some b6_5) 0) fun t59 =>
 AA (Aq BU (AV.strip t57) (AV.strip t13)) fun t60 =>
 AA (Bk BU S_6 t60 (AV.strip t59)) fun S_7 =>
 Q (AV.strip t13) S_7) fun j =>
 AA (some c3) fun _ =>
 AA (AG Au (some c3) 3) fun t27 =>
 AA (A7 (AV.strip t27)) fun t28 =>
 CE ([(.int .i64 0)], [(some b6)]) (fun v bx => ([v 29], [bx 6])) (fun nx v bx S_2 =>
 AA (AI .lss (v 29) t28) fun t30 =>
 ifK t30
 (AA (Aq AB (AV.strip t27) (v 29)) fun t31 =>
 AA (Ad AB S_2 t31) fun t32 =>
 AA (AP AB (some [(.int .i64 0), (.bool false), (.vs 1 [] .nil), (.vs 7 [] .nil), (.int .i64 0), (.vs 2 [] .nil), (.str [])]) 0 (AV.strip t32)) fun b8 =>
 AA (bx 6) fun _ =>
 AA (AG AB (some b8) 0) fun t36 =>
 AA (AG HL (bx 6) 7) fun t34 =>
 Az Ca C7 [(.ptr a0 a0o), (AV.strip t36)] S_2 fun t37 S_3 =>
 AA (Bm 1 [t37]) fun e38 =>
 AA (Ao Aj S_3 (AV.strip0 t34) (.vs 1 e38 .full)) fun t39 =>
 AA (Bu (bx 6) 7) fun _ =>
 AA (AP HL (Bu (bx 6) 7) 7 t39) fun b6_2 =>
 AA (AI .add (v 29) (.int .i64 1)) fun t41 =>
 nx ([(AV.strip t41)], [(some b6_2)]) S_3)
 (j (bx 6) S_2)) S
theorem JA (Ca) (a0 : Nat) (a0o : Nat) (a1a : Int) (a1b : Bool) (a1c : List (List AV)) (a1cr : Rt) (a1d : List (List AV)) (a1dr : Rt) (a1e : Int) (a1f : List (List AV)) (a1fr : Rt) (a1g : List UInt8) (S0 Q) : WF C Ca 92 (Drw C Ca 92) Tryz.f92 [(.ptr a0 a0o), (.agg [(.int .i64 a1a), (.bool a1b), (.vs 1 a1c a1cr), (.vs 7 a1d a1dr), (.int .i64 a1e), (.vs 2 a1f a1fr), (.str a1g)])] S0 Q = D4 Ca a0 a0o a1a a1b a1c a1cr a1d a1dr a1e a1f a1fr a1g S0 Q := by kernel_rfl
theorem JW {w0 : World} {a0 : Nat} {a0o : Nat} {a1a : Int} {a1b : Bool} {a1c : List (List AV)} {a1cr : Rt} {a1d : List (List AV)} {a1dr : Rt} {a1e : Int} {a1f : List (List AV)} {a1fr : Rt} {a1g : List UInt8} {S0 : St} {Q : AV → St → Prop} (h : D4 (AM (En w0)) a0 a0o a1a a1b a1c a1cr a1d a1dr a1e a1f a1fr a1g S0 Q) : AC w0 C7 [(.ptr a0 a0o), (.agg [(.int .i64 a1a), (.bool a1b), (.vs 1 a1c a1cr), (.vs 7 a1d a1dr), (.int .i64 a1e), (.vs 2 a1f a1fr), (.str a1g)])] S0 Q := BW w0 Tryz.func92 (by kernel_rfl) (by rw [JA]; exact h)
def Ja (Ca : Nat → List AV → St → (AV → St → Prop) → Prop) (a0a : Int) (a0b : Bool) (a0c : List (List AV)) (a0cr : Rt) (a0d : List (List AV)) (a0dr : Rt) (a0e : Int) (a0f : List (List AV)) (a0fr : Rt) (a0g : List UInt8) (S0 : St) (Q : AV → St → Prop) : Prop :=
 AA (FU AB (.agg [(.int .i64 a0a), (.bool a0b), (.vs 1 a0c a0cr), (.vs 7 a0d a0dr), (.int .i64 a0e), (.vs 2 a0f a0fr), (.str a0g)])) fun c1 =>
 AA (some c1) fun _ =>
 AA (AG C3 (some c1) 1) fun t8 =>
 AA (unA .not (AV.strip t8)) fun t9 =>
 AJ (fun (x14 : AV) =>
 AA (Aa (AV.strip t9) x14 (.bool false)) fun t15 =>
 AJ (fun (x20 : AV) =>
 AA (Aa (AV.strip (AV.strip t15)) x20 (.bool false)) fun t21 =>
 AA (some c1) fun _ =>
 AA (AG Aj (some c1) 4) fun t23 =>
 AA (AI .eql (AV.strip t23) (.int .i64 0)) fun t24 =>
 AJ (fun (x29 : AV) =>
 AA (Aa (AV.strip t24) x29 (.bool false)) fun t30 =>
 AA (some c1) fun _ =>
 AA (AG Aj (some c1) 0) fun t32 =>
 AA (AI .eql (AV.strip t32) (.int .i64 1)) fun t34 =>
 ifK t34
 (AJ (fun (x39 : AV) =>
 AA (Aa (AV.strip (AV.strip (AV.strip t21))) x39 (.bool false)) fun t40 =>
 AJ (fun (x46 : AV) (S_2 : St) =>
 AA (Aa (AV.strip (AV.strip t40)) x46 (.bool false)) fun t47 =>
 Q (AV.strip t47) S_2) fun j =>
 ifK (AV.strip (AV.strip t40))
 (AA (some c1) fun _ =>
 AA (AG Aj (some c1) 4) fun t43 =>
 AA (some c1) fun _ =>
 AA (AG As (some c1) 5) fun t45 =>
 Az Ca HY [(AV.strip t43), (AV.strip t45)] S0 fun t46 S =>
 j t46 S)
 (j (.tup []) S0)) fun j_2 =>
 ifK (AV.strip (AV.strip (AV.strip t21)))
 (AA (some c1) fun _ =>
 AA (AG AF (some c1) 6) fun t38 =>
 AA (AI .eql (AV.strip t38) (.str [])) fun t39 =>
 j_2 t39)
 (j_2 (.tup [])))
 (AA (AI .eql (AV.strip t32) (.int .i64 2)) fun t49 =>
 ifK t49
 (AJ (fun (x54 : AV) =>
 AA (Aa (AV.strip (AV.strip (AV.strip t30))) x54 (.bool false)) fun t55 =>
 AJ (fun (x58 : AV) (S_4 : St) =>
 AA (Aa (AV.strip (AV.strip t55)) x58 (.bool false)) fun t59 =>
 Q (AV.strip t59) S_4) fun j_3 =>
 ifK (AV.strip (AV.strip t55))
 (AA (AG AB (some c1) 0) fun t57 =>
 Az Ca F8 [(AV.strip t57)] S0 fun t58 S_3 =>
 j_3 t58 S_3)
 (j_3 (.tup []) S0)) fun j_4 =>
 ifK (AV.strip (AV.strip (AV.strip t30)))
 (AA (some c1) fun _ =>
 AA (AG AF (some c1) 6) fun t53 =>
 AA (AI .eql (AV.strip t53) (.str [])) fun t54 =>
 j_4 t54)
 (j_4 (.tup [])))
 (AA (AI .eql (AV.strip t32) (.int .i64 3)) fun t61 =>
 ifK t61
 (AA (some c1) fun _ =>
 AA (AG AF (some c1) 6) fun t64 =>
 Az Ca Fl [(AV.strip t64)] S0 fun t65 S_5 =>
 AA (AL t65 0) fun t66 =>
 AA (AL (AN t65 0) 1) fun t67 =>
 AJ (fun (x70 : AV) =>
 AA (Aa (AV.strip (AV.strip (AV.strip t21))) x70 (.bool false)) fun t71 =>
 AJ (fun (x73 : AV) =>
 AA (Aa (AV.strip (AV.strip t71)) x73 (.bool false)) fun t74 =>
 AJ (fun (x79 : AV) =>
 AA (Aa (AV.strip (AV.strip t74)) x79 (.bool false)) fun t80 =>
 Q (AV.strip t80) S_5) fun j_5 =>
 ifK (AV.strip (AV.strip t74))
 (AA (some c1) fun _ =>
 AA (AG AF (some c1) 6) fun t77 =>
 AA (CM (AV.strip t77)) fun t78 =>
 AA (AI .leq t78 (.int .i64 256)) fun t79 =>
 j_5 t79)
 (j_5 (.tup []))) fun j_6 =>
 ifK (AV.strip (AV.strip t71))
 (j_6 (AV.strip t67))
 (j_6 (.tup []))) fun j_7 =>
 ifK (AV.strip (AV.strip (AV.strip t21)))
 (j_7 (AV.strip (AV.strip t30)))
 (j_7 (.tup [])))
 (AA (AI .eql (AV.strip t32) (.int .i64 4)) fun t82 =>
 ifK t82
 (AJ (fun (x85 : AV) =>
 AA (Aa (AV.strip (AV.strip (AV.strip t21))) x85 (.bool false)) fun t86 =>
 AJ (fun (x90 : AV) =>
 AA (Aa (AV.strip (AV.strip t86)) x90 (.bool false)) fun t91 =>
 Q (AV.strip t91) S0) fun j_8 =>
 ifK (AV.strip (AV.strip t86))
 (AA (some c1) fun _ =>
 AA (AG AF (some c1) 6) fun t89 =>
 AA (AI .eql (AV.strip t89) (.str [])) fun t90 =>
 j_8 t90)
 (j_8 (.tup []))) fun j_9 =>
 ifK (AV.strip (AV.strip (AV.strip t21)))
 (j_9 (AV.strip (AV.strip t30)))
 (j_9 (.tup [])))
 (Q (.bool false) S0))))) fun j_10 =>
 ifK (AV.strip t24)
 (AA (some c1) fun _ =>
 AA (AG As (some c1) 5) fun t27 =>
 AA (A7 (AV.strip t27)) fun t28 =>
 AA (AI .eql t28 (.int .i64 0)) fun t29 =>
 j_10 t29)
 (j_10 (.tup []))) fun j_11 =>
 ifK (AV.strip (AV.strip t15))
 (AA (some c1) fun _ =>
 AA (AG Au (some c1) 3) fun t18 =>
 AA (A7 (AV.strip t18)) fun t19 =>
 AA (AI .eql t19 (.int .i64 0)) fun t20 =>
 j_11 t20)
 (j_11 (.tup []))) fun j_12 =>
 ifK (AV.strip t9)
 (AA (some c1) fun _ =>
 AA (AG A1 (some c1) 2) fun t12 =>
 AA (A7 (AV.strip t12)) fun t13 =>
 AA (AI .eql t13 (.int .i64 0)) fun t14 =>
 j_12 t14)
 (j_12 (.tup []))
theorem SI (Ca) (a0a : Int) (a0b : Bool) (a0c : List (List AV)) (a0cr : Rt) (a0d : List (List AV)) (a0dr : Rt) (a0e : Int) (a0f : List (List AV)) (a0fr : Rt) (a0g : List UInt8) (S0 Q) : WF C Ca 93 (Drw C Ca 93) Tryz.f93 [(.agg [(.int .i64 a0a), (.bool a0b), (.vs 1 a0c a0cr), (.vs 7 a0d a0dr), (.int .i64 a0e), (.vs 2 a0f a0fr), (.str a0g)])] S0 Q = Ja Ca a0a a0b a0c a0cr a0d a0dr a0e a0f a0fr a0g S0 Q := by kernel_rfl
theorem RI {w0 : World} {a0a : Int} {a0b : Bool} {a0c : List (List AV)} {a0cr : Rt} {a0d : List (List AV)} {a0dr : Rt} {a0e : Int} {a0f : List (List AV)} {a0fr : Rt} {a0g : List UInt8} {S0 : St} {Q : AV → St → Prop} (h : Ja (AM (En w0)) a0a a0b a0c a0cr a0d a0dr a0e a0f a0fr a0g S0 Q) : AC w0 JY [(.agg [(.int .i64 a0a), (.bool a0b), (.vs 1 a0c a0cr), (.vs 7 a0d a0dr), (.int .i64 a0e), (.vs 2 a0f a0fr), (.str a0g)])] S0 Q := BW w0 Tryz.func93 (by kernel_rfl) (by rw [SI]; exact h)
def IY (Ca : Nat → List AV → St → (AV → St → Prop) → Prop) (a0 : List UInt8) (S0 : St) (Q : AV → St → Prop) : Prop :=
 AJ (fun (x7 : AV) =>
 AA (Aa (.bool (!(a0 == []))) x7 (.bool false)) fun t8 =>
 AJ (fun (x11 : AV) =>
 AA (Aa (AV.strip (AV.strip t8)) x11 (.bool false)) fun t12 =>
 AJ (fun (x16 : AV) =>
 AA (Aa (AV.strip (AV.strip t12)) x16 (.bool false)) fun t17 =>
 AJ (fun (x21 : AV) (S_2 : St) =>
 AA (Aa (AV.strip (AV.strip t17)) x21 (.bool false)) fun t22 =>
 Q (AV.strip t22) S_2) fun j =>
 ifK (AV.strip (AV.strip t17))
 (Ca FP [(.str a0), (.str [47, 0])] S0 fun t20 S =>
 AA (unA .not t20) fun t21 =>
 j t21 S)
 (j (.tup []) S0)) fun j_2 =>
 ifK (AV.strip (AV.strip t12))
 (j_2 (.bool (decide ((List.length a0 : Int) ≤ 64))))
 (j_2 (.tup []))) fun j_3 =>
 ifK (AV.strip (AV.strip t8))
 (j_3 (.bool (!(a0 == [46, 46]))))
 (j_3 (.tup []))) fun j_4 =>
 ifK (.bool (!(a0 == [])))
 (j_4 (.bool (!(a0 == [46]))))
 (j_4 (.tup []))
theorem Pc (Ca) (a0 : List UInt8) (S0 Q) : WF C Ca 94 (Drw C Ca 94) Tryz.f94 [(.str a0)] S0 Q = IY Ca a0 S0 Q := by kernel_rfl
theorem P8 {w0 : World} {a0 : List UInt8} {S0 : St} {Q : AV → St → Prop} (h : IY (AM (En w0)) a0 S0 Q) : AC w0 GH [(.str a0)] S0 Q := BW w0 Tryz.func94 (by kernel_rfl) (by rw [Pc]; exact h)
def Hi (Ca : Nat → List AV → St → (AV → St → Prop) → Prop) (a0 : List UInt8) (S0 : St) (Q : AV → St → Prop) : Prop :=
 AJ (fun (x8 : AV) =>
 AA (Aa (.bool (a0 == [])) (.bool true) x8) fun t9 =>
 AJ (fun (x12 : AV) =>
 AA (Aa (AV.strip (AV.strip t9)) (.bool true) x12) fun t13 =>
 AJ (fun (x17 : AV) =>
 AA (Aa (AV.strip (AV.strip t13)) (.bool true) x17) fun t18 =>
 ifK (AV.strip t18)
 (Q (.bool false) S0)
 (AJ (fun (S_2 : St) =>
 Q (.bool true) S_2) fun j_5 =>
 CE ([(.int .i64 0)], []) (fun v bx => ([v 3], [])) (fun nx v bx S =>
 AA (AI .lss (AV.strip (v 3)) (.int .i64 (List.length a0 : Int))) fun t22 =>
 ifK t22
 (AA (DI (.str a0) (AV.strip (v 3))) fun t27 =>
 AA (AI .eql t27 (.int .u8 47)) fun t28 =>
 AJ (fun (x33 : AV) =>
 AA (Aa (AV.strip t28) (.bool true) x33) fun t34 =>
 ifK (AV.strip t34)
 (Q (.bool false) S)
 (AA (AI .add (AV.strip (v 3)) (.int .i64 1)) fun t24 =>
 nx ([t24], []) S)) fun j_4 =>
 ifK (AV.strip t28)
 (j_4 (.tup []))
 (AA (DI (.str a0) (AV.strip (v 3))) fun t32 =>
 AA (AI .eql t32 (.int .u8 0)) fun t33 =>
 j_4 t33))
 (j_5 S)) S0)) fun j =>
 ifK (AV.strip (AV.strip t13))
 (j (.tup []))
 (j (.bool (decide ((List.length a0 : Int) > 64))))) fun j_2 =>
 ifK (AV.strip (AV.strip t9))
 (j_2 (.tup []))
 (j_2 (.bool (a0 == [46, 46])))) fun j_3 =>
 ifK (.bool (a0 == []))
 (j_3 (.tup []))
 (j_3 (.bool (a0 == [46])))
theorem Nt (Ca) (a0 : List UInt8) (S0 Q) : WF C Ca 96 (Drw C Ca 96) Tryz.f96 [(.str a0)] S0 Q = Hi Ca a0 S0 Q := by kernel_rfl
theorem N6 {w0 : World} {a0 : List UInt8} {S0 : St} {Q : AV → St → Prop} (h : Hi (AM (En w0)) a0 S0 Q) : AC w0 Fm [(.str a0)] S0 Q := BW w0 Tryz.func96 (by kernel_rfl) (by rw [Nt]; exact h)
def IT (Ca : Nat → List AV → St → (AV → St → Prop) → Prop) (a0 : List UInt8) (a1 : List UInt8) (S0 : St) (Q : AV → St → Prop) : Prop :=
 AJ (fun (S_2 : St) =>
 Q (.bool (decide ((List.length a0 : Int) < (List.length a1 : Int)))) S_2) fun j_2 =>
 CE ([(.int .i64 0)], []) (fun v bx => ([v 5], [])) (fun nx v bx S =>
 AA (AI .lss (AV.strip (v 5)) (.int .i64 (List.length a0 : Int))) fun t9 =>
 AJ (fun (x14 : AV) =>
 AA (Aa (AV.strip t9) x14 (.bool false)) fun t15 =>
 ifK (AV.strip t15)
 (AA (DI (.str a0) (AV.strip (v 5))) fun t20 =>
 AA (DI (.str a1) (AV.strip (v 5))) fun t23 =>
 AA (AI .neq t20 t23) fun t24 =>
 ifK t24
 (AA (DI (.str a0) (AV.strip (v 5))) fun t27 =>
 AA (DI (.str a1) (AV.strip (v 5))) fun t30 =>
 AA (AI .lss t27 t30) fun t31 =>
 Q t31 S)
 (AA (AI .add (AV.strip (v 5)) (.int .i64 1)) fun t17 =>
 nx ([t17], []) S))
 (j_2 S)) fun j =>
 ifK (AV.strip t9)
 (AA (AI .lss (AV.strip (v 5)) (.int .i64 (List.length a1 : Int))) fun t14 =>
 j t14)
 (j (.tup []))) S0
theorem Pi (Ca) (a0 : List UInt8) (a1 : List UInt8) (S0 Q) : WF C Ca 107 (Drw C Ca 107) Tryz.f107 [(.str a0), (.str a1)] S0 Q = IT Ca a0 a1 S0 Q := by kernel_rfl
theorem Po {w0 : World} {a0 : List UInt8} {a1 : List UInt8} {S0 : St} {Q : AV → St → Prop} (h : IT (AM (En w0)) a0 a1 S0 Q) : AC w0 Ix [(.str a0), (.str a1)] S0 Q := BW w0 Tryz.func107 (by kernel_rfl) (by rw [Pi]; exact h)
def Gu (Ca : Nat → List AV → St → (AV → St → Prop) → Prop) (a0 : List (List AV)) (a0r : Rt) (S0 : St) (Q : AV → St → Prop) : Prop :=
 AJ (fun (x4 : AV) (S_3 : St) =>
 Q (.tup [(AV.flat (AV.strip x4)), (.bool true)]) S_3) fun j =>
 CE ([(.vs 1 [] .nil), (.int .i64 0)], []) (fun v bx => ([v 4, v 11], [])) (fun nx v bx S =>
 AA (AI .lss (v 11) (.int .i64 (List.length a0 : Int))) fun t12 =>
 ifK t12
 (AA (Aq AF (.vs 1 a0 (Rt.strip a0r)) (v 11)) fun t13 =>
 AA (Ad AF S t13) fun t14 =>
 Az Ca EO [(AV.strip (AV.strip t14))] S fun t17 S_2 =>
 AA (AL t17 0) fun t18 =>
 AA (AL (AN t17 0) 1) fun t19 =>
 AA (unA .not (AV.strip t19)) fun t21 =>
 ifK t21
 (Q (.tup [(.vs 1 [] .nil), (.bool false)]) S_2)
 (AA (Bm 1 [(AV.strip t18)]) fun e24 =>
 AA (Ao Aj S_2 (v 4) (.vs 1 e24 .full)) fun t25 =>
 AA (AI .add (v 11) (.int .i64 1)) fun t26 =>
 nx ([t25, (AV.strip t26)], []) S_2))
 (j (v 4) S)) S0
theorem NT (Ca) (a0 : List (List AV)) (a0r : Rt) (S0 Q) : WF C Ca 111 (Drw C Ca 111) Tryz.f111 [(.vs 1 a0 a0r)] S0 Q = Gu Ca a0 a0r S0 Q := by kernel_rfl
theorem NK {w0 : World} {a0 : List (List AV)} {a0r : Rt} {S0 : St} {Q : AV → St → Prop} (h : Gu (AM (En w0)) a0 a0r S0 Q) : AC w0 Ey [(.vs 1 a0 a0r)] S0 Q := BW w0 Tryz.func111 (by kernel_rfl) (by rw [NT]; exact h)
def IZ (Ca : Nat → List AV → St → (AV → St → Prop) → Prop) (a0 : List UInt8) (S0 : St) (Q : AV → St → Prop) : Prop :=
 ifK (.bool (a0 == [45]))
 (Q (.tup [(.str []), (.bool true)]) S0)
 (AA (DQ Dh false S0 (.int .i64 0) (.int .i64 (IntKind.i64.wrap (Int.tdiv (List.length a0 : Int) 2)))) fun p13 =>
 AJ (fun (x4 : AV) (S_4 : St) =>
 AA (Dt S_4 (AV.strip x4)) fun t45 =>
 AJ (fun (x52 : AV) =>
 AA (Aa (.bool (!(a0 == []))) x52 (.bool false)) fun t53 =>
 Q (.tup [(AV.flat t45), (AV.flat (AV.strip t53))]) S_4) fun j_2 =>
 ifK (.bool (!(a0 == [])))
 (j_2 (.bool ((Int.tmod (List.length a0 : Int) 2) == 0)))
 (j_2 (.tup []))) fun j_3 =>
 CE ([p13.1, (.int .i64 0)], []) (fun v bx => ([v 4, v 5], [])) (fun nx v bx S =>
 AA (AI .add (AV.strip (v 5)) (.int .i64 1)) fun t15 =>
 AA (AI .lss t15 (.int .i64 (List.length a0 : Int))) fun t18 =>
 ifK t18
 (AA (DI (.str a0) (AV.strip (v 5))) fun t23 =>
 AA (AI .add (AV.strip (v 5)) (.int .i64 1)) fun t27 =>
 AA (DI (.str a0) t27) fun t28 =>
 Az Ca D5 [(.str [48, 49, 50, 51, 52, 53, 54, 55, 56, 57, 97, 98, 99, 100, 101, 102]), t23] S fun t24 S_2 =>
 Az Ca D5 [(.str [48, 49, 50, 51, 52, 53, 54, 55, 56, 57, 97, 98, 99, 100, 101, 102]), t28] S_2 fun t29 S_3 =>
 AA (AI .lss (AV.strip t24) (.int .i64 0)) fun t31 =>
 AJ (fun (x34 : AV) =>
 AA (Aa (AV.strip t31) (.bool true) x34) fun t35 =>
 ifK (AV.strip t35)
 (Q (.tup [(.str []), (.bool false)]) S_3)
 (AA (AI .shl (AV.strip t24) (.int .u64 4)) fun t38 =>
 AA (AI .or t38 (AV.strip t29)) fun t40 =>
 AA (E2 .u8 t40) fun t41 =>
 AA (Bm 1 [t41]) fun e42 =>
 AA (Ao Dh S_3 (v 4) (.vs 1 e42 .full)) fun t43 =>
 AA (AI .add (AV.strip (v 5)) (.int .i64 2)) fun t20 =>
 nx ([t43, t20], []) S_3)) fun j =>
 ifK (AV.strip t31)
 (j (.tup []))
 (AA (AI .lss (AV.strip t29) (.int .i64 0)) fun t34 =>
 j t34))
 (j_3 (v 4) S)) p13.2)
theorem QB (Ca) (a0 : List UInt8) (S0 Q) : WF C Ca 112 (Drw C Ca 112) Tryz.f112 [(.str a0)] S0 Q = IZ Ca a0 S0 Q := by kernel_rfl
theorem QL {w0 : World} {a0 : List UInt8} {S0 : St} {Q : AV → St → Prop} (h : IZ (AM (En w0)) a0 S0 Q) : AC w0 GI [(.str a0)] S0 Q := BW w0 Tryz.func112 (by kernel_rfl) (by rw [QB]; exact h)
def Ie (Ca : Nat → List AV → St → (AV → St → Prop) → Prop) (a0 : List UInt8) (S0 : St) (Q : AV → St → Prop) : Prop :=
 Ca KZ [(.str a0), (.str [32])] S0 fun t12 S =>
 AA (AL t12 0) fun t13 =>
 AA (AL (AN t12 0) 1) fun t14 =>
 AA (AL (AN (AN t12 0) 1) 2) fun t15 =>
 AA (unA .not (AV.strip t15)) fun t17 =>
 AJ (fun (x20 : AV) (S_3 : St) =>
 AA (Aa (AV.strip t17) (.bool true) x20) fun t21 =>
 ifK (AV.strip t21)
 (Q (.tup [(.agg [(.int .i64 0), (.str []), (.int .i64 0), (.int .i64 0), (.int .i64 0), (.str [])]), (.bool false)]) S_3)
 (AJ (fun (y2_2 : Option (List AV)) (S_6 : St) =>
 AJ (fun (x3 : AV) (y2_3 : Option (List AV)) (S_11 : St) =>
 AA (unA .not (AV.strip x3)) fun t98 =>
 ifK t98
 (AA (AP Bl y2_3 0 (.agg [(.int .i64 0), (.str []), (.int .i64 0), (.int .i64 0), (.int .i64 0), (.str [])])) fun b2_11 =>
 AA ((AG Bl (some b2_11) 0).map AV.strip) fun r2_2 =>
 Q (.tup [(AV.flat r2_2), (.bool false)]) S_11)
 (AA (AG Bl y2_3 0) fun t100 =>
 AA (AP Bl y2_3 0 (AV.strip t100)) fun b2_12 =>
 AA ((AG Bl (some b2_12) 0).map AV.strip) fun r2_3 =>
 Q (.tup [(AV.flat r2_3), (.bool true)]) S_11)) fun j_5 =>
 AA y2_2 fun _ =>
 AA (AG Aj y2_2 0) fun t39 =>
 AA (AI .eql (AV.strip t39) (.int .i64 0)) fun t43 =>
 ifK t43
 (AA (AP Bl y2_2 0 (.agg [(.int .i64 0), (.str []), (.int .i64 0), (.int .i64 0), (.int .i64 0), (.str [])])) fun b2_2 =>
 AA ((AG Bl (some b2_2) 0).map AV.strip) fun r2 =>
 Q (.tup [(AV.flat r2), (.bool false)]) S_6)
 (AA (AI .eql (AV.strip t39) (.int .i64 4)) fun t46 =>
 ifK t46
 (Az Ca FB [(AV.strip t14), (.int .i64 2), (.bool true)] S_6 fun t49 S_7 =>
 AA (AL t49 0) fun t50 =>
 AA (AL (AN t49 0) 1) fun t51 =>
 AA (AL (AN (AN t49 0) 1) 2) fun t52 =>
 AA y2_2 fun _ =>
 AA (AP AF y2_2 1 t51) fun b2_3 =>
 ifK (AV.strip t52)
 (AA (Aq Aj (AV.strip t50) (.int .i64 0)) fun t56 =>
 AA (Ad Aj S_7 t56) fun t57 =>
 AA (Aq Aj (AV.strip t50) (.int .i64 1)) fun t59 =>
 AA (Ad Aj S_7 t59) fun t60 =>
 AA (some b2_3) fun _ =>
 AA (AP Aj (some b2_3) 2 (AV.strip t57)) fun b2_4 =>
 AA (some b2_4) fun _ =>
 AA (AP Aj (some b2_4) 3 (AV.strip t60)) fun b2_5 =>
 j_5 t52 (some b2_5) S_7)
 (j_5 t52 (some b2_3) S_7))
 (AA (AI .eql (AV.strip t39) (.int .i64 6)) fun t64 =>
 ifK t64
 (Az Ca FB [(AV.strip t14), (.int .i64 2), (.bool false)] S_6 fun t67 S_8 =>
 AA (AL t67 0) fun t68 =>
 AA (AL (AN t67 0) 1) fun t69 =>
 AA (AL (AN (AN t67 0) 1) 2) fun t70 =>
 ifK (AV.strip t70)
 (AA (Aq Aj (AV.strip t68) (.int .i64 0)) fun t73 =>
 AA (Ad Aj S_8 t73) fun t74 =>
 AA (Aq Aj (AV.strip t68) (.int .i64 1)) fun t76 =>
 AA (Ad Aj S_8 t76) fun t77 =>
 AA y2_2 fun _ =>
 AA (AP Aj y2_2 4 (AV.strip t74)) fun b2_6 =>
 AA (some b2_6) fun _ =>
 AA (AP Aj (some b2_6) 3 (AV.strip t77)) fun b2_7 =>
 j_5 t70 (some b2_7) S_8)
 (j_5 t70 y2_2 S_8))
 (AJ (fun (x80 : AV) =>
 ifK x80
 (Az Ca EO [(AV.strip t14)] S_6 fun t85 S_9 =>
 AA (AL t85 0) fun t86 =>
 AA (AL (AN t85 0) 1) fun t87 =>
 AA y2_2 fun _ =>
 AA (AP Aj y2_2 4 t86) fun b2_8 =>
 j_5 t87 (some b2_8) S_9)
 (AA (AI .eql (AV.strip t39) (.int .i64 8)) fun t90 =>
 ifK t90
 (Az Ca GI [(AV.strip t14)] S_6 fun t93 S_10 =>
 AA (AL t93 0) fun t94 =>
 AA (AL (AN t93 0) 1) fun t95 =>
 AA y2_2 fun _ =>
 AA (AP AF y2_2 5 t94) fun b2_9 =>
 j_5 t95 (some b2_9) S_10)
 (AA y2_2 fun _ =>
 AA (AP AF y2_2 1 (AV.strip t14)) fun b2_10 =>
 j_5 (.bool true) (some b2_10) S_6))) fun j_4 =>
 AA (AI .eql (AV.strip t39) (.int .i64 7)) fun t81 =>
 ifK t81
 (j_4 t81)
 (AA (AI .eql (AV.strip t39) (.int .i64 9)) fun t82 =>
 j_4 t82))))) fun j_6 =>
 Ca Ik [] S_3 fun t23 S_4 =>
 CE ([(.int .i64 0)], [(some [(.int .i64 0), (.str []), (.int .i64 0), (.int .i64 0), (.int .i64 0), (.str [])])]) (fun v bx => ([v 24], [bx 2])) (fun nx v bx S_5 =>
 AA (AI .lss (v 24) (.int .i64 10)) fun t25 =>
 ifK t25
 (AJ (fun (y2 : Option (List AV)) =>
 AA (AI .add (v 24) (.int .i64 1)) fun t37 =>
 nx ([(AV.strip t37)], [y2]) S_5) fun j_3 =>
 AA (O2 10 AF t23 (v 24)) fun t27 =>
 AA (AI .gtr (AV.strip (AV.strip (v 24))) (.int .i64 0)) fun t29 =>
 AJ (fun (x33 : AV) =>
 AA (Aa (AV.strip t29) x33 (.bool false)) fun t34 =>
 ifK (AV.strip t34)
 (AA (bx 2) fun _ =>
 AA (AP Aj (bx 2) 0 (AV.strip (AV.strip (v 24)))) fun b2 =>
 j_3 (some b2))
 (j_3 (bx 2))) fun j_2 =>
 ifK (AV.strip t29)
 (AA (AI .eql (AV.strip (AV.strip t27)) (AV.strip t13)) fun t33 =>
 j_2 t33)
 (j_2 (.tup [])))
 (j_6 (bx 2) S_5)) S_4)) fun j =>
 ifK (AV.strip t17)
 (j (.tup []) S)
 (Ca Gg [(.str a0), (.str [10])] S fun t20 S_2 =>
 j t20 S_2)
theorem Pw (Ca) (a0 : List UInt8) (S0 Q) : WF C Ca 113 (Drw C Ca 113) Tryz.f113 [(.str a0)] S0 Q = Ie Ca a0 S0 Q := by kernel_rfl
theorem Pf {w0 : World} {a0 : List UInt8} {S0 : St} {Q : AV → St → Prop} (h : Ie (AM (En w0)) a0 S0 Q) : AC w0 IW [(.str a0)] S0 Q := BW w0 Tryz.func113 (by kernel_rfl) (by rw [Pw]; exact h)
def Jd (Ca : Nat → List AV → St → (AV → St → Prop) → Prop) (a0 : List UInt8) (S0 : St) (Q : AV → St → Prop) : Prop :=
 AA (FU C5 (.agg [(.str a0)])) fun c5 =>
 Q (.ptr S0.length 0) (S0 ++ [.cells c5 Bz])
theorem Rm (Ca) (a0 : List UInt8) (S0 Q) : WF C Ca 114 (Drw C Ca 114) Tryz.f114 [(.str a0)] S0 Q = Jd Ca a0 S0 Q := by kernel_rfl
theorem RH {w0 : World} {a0 : List UInt8} {S0 : St} {Q : AV → St → Prop} (h : Jd (AM (En w0)) a0 S0 Q) : AC w0 M2 [(.str a0)] S0 Q := BW w0 Tryz.func114 (by kernel_rfl) (by rw [Rm]; exact h)
def DA (Ca : Nat → List AV → St → (AV → St → Prop) → Prop) (a0 : Nat) (a0o : Nat) (a1 : Int) (S0 : St) (Q : AV → St → Prop) : Prop :=
 AJ (fun (S_3 : St) =>
 AA (Ad C3 S_3 (.ptr a0 (a0o + 1))) fun t32 =>
 ifK (AV.strip t32)
 (Q (.agg [(.int .i64 0), (.bool false), (.vs 1 [] .nil), (.vs 7 [] .nil), (.int .i64 0), (.vs 2 [] .nil), (.str [])]) S_3)
 (Ca BP [(.ptr a0 a0o), (.int .i64 1)] S_3 fun t35 S_4 =>
 AA (EY AB 1 [(0, t35)]) fun t36 =>
 AA (AP AB (some [(.int .i64 0), (.bool false), (.vs 1 [] .nil), (.vs 7 [] .nil), (.int .i64 0), (.vs 2 [] .nil), (.str [])]) 0 t36) fun b5 =>
 AJ (fun (y5 : Option (List AV)) (S_17 : St) =>
 AA (AG AB y5 0) fun t120 =>
 AA (AP AB (some [(.int .i64 0), (.bool false), (.vs 1 [] .nil), (.vs 7 [] .nil), (.int .i64 0), (.vs 2 [] .nil), (.str [])]) 0 (AV.strip t120)) fun b4 =>
 AA ((AG AB (some b4) 0).map AV.strip) fun r4 =>
 Q r4 S_17) fun j_5 =>
 AA (some b5) fun _ =>
 AA (AG Aj (some b5) 0) fun t38 =>
 AA (AI .eql (AV.strip t38) (.int .i64 1)) fun t40 =>
 ifK t40
 (Ca BP [(.ptr a0 a0o), (.int .i64 4)] S_4 fun t42 S_5 =>
 AA (some b5) fun _ =>
 AA (AP Aj (some b5) 4 t42) fun b5_2 =>
 Ca BP [(.ptr a0 a0o), (.int .i64 4)] S_5 fun t45 S_6 =>
 CE ([t45], [(some b5_2)]) (fun v bx => ([v 6], [bx 5])) (fun nx v bx S_7 =>
 AA (AI .gtr (AV.strip (v 6)) (.int .i64 0)) fun t47 =>
 AJ (fun (x53 : AV) =>
 AA (Aa (AV.strip t47) x53 (.bool false)) fun t54 =>
 ifK (AV.strip t54)
 (Ca BP [(.ptr a0 a0o), (.int .i64 4)] S_7 fun t58 S_8 =>
 AA (bx 5) fun _ =>
 AA (AG As (bx 5) 5) fun t60 =>
 Ca CZ [(.ptr a0 a0o), (.int .i64 4)] S_8 fun t63 S_9 =>
 AA (EY Ah 1 [(0, (AV.strip t58)), (1, t63)]) fun t64 =>
 AA (Bm 2 [t64]) fun e65 =>
 AA (Ao Ah S_9 (AV.strip0 t60) (.vs 2 e65 .full)) fun t66 =>
 AA (Bu (bx 5) 5) fun _ =>
 AA (AP As (Bu (bx 5) 5) 5 t66) fun b5_3 =>
 AA (AI .sub (AV.strip (v 6)) (.int .i64 1)) fun t56 =>
 nx ([t56], [(some b5_3)]) S_9)
 (j_5 (bx 5) S_7)) fun j_2 =>
 ifK (AV.strip t47)
 (AA (Ad C3 S_7 (.ptr a0 (a0o + 1))) fun t52 =>
 AA (unA .not (AV.strip t52)) fun t53 =>
 j_2 t53)
 (j_2 (.tup []))) S_6)
 (AA (AI .eql (AV.strip t38) (.int .i64 2)) fun t69 =>
 ifK t69
 (Ca BP [(.ptr a0 a0o), (.int .i64 1)] S_4 fun t71 S_10 =>
 AA (AI .eql (AV.strip t71) (.int .i64 1)) fun t74 =>
 AA (Ad C3 S_10 (.ptr a0 (a0o + 1))) fun t78 =>
 AJ (fun (x81 : AV) =>
 AA (Aa (AV.strip (AV.strip t78)) (.bool true) x81) fun t82 =>
 AA (some b5) fun _ =>
 AA (AP C3 (some b5) 1 t74) fun b5_4 =>
 AA (Bk C3 S_10 (.ptr a0 (a0o + 1)) (AV.strip t82)) fun S_11 =>
 Ca BP [(.ptr a0 a0o), (.int .i64 2)] S_11 fun t87 S_12 =>
 CE ([t87], [(some b5_4)]) (fun v_2 bx_2 => ([v_2 9], [bx_2 5])) (fun nx_2 v_2 bx_2 S_13 =>
 AA (AI .gtr (AV.strip (v_2 9)) (.int .i64 0)) fun t89 =>
 AJ (fun (x95 : AV) =>
 AA (Aa (AV.strip t89) x95 (.bool false)) fun t96 =>
 ifK (AV.strip t96)
 (AA (bx_2 5) fun _ =>
 AA (AG A1 (bx_2 5) 2) fun t100 =>
 Ca CZ [(.ptr a0 a0o), (.int .i64 1)] S_13 fun t102 S_14 =>
 AA (Bm 1 [t102]) fun e103 =>
 AA (Ao AF S_14 (AV.strip0 t100) (.vs 1 e103 .full)) fun t104 =>
 AA (Bu (bx_2 5) 2) fun _ =>
 AA (AP A1 (Bu (bx_2 5) 2) 2 t104) fun b5_5 =>
 AA (some b5_5) fun _ =>
 AA (AG Au (some b5_5) 3) fun t107 =>
 Ca C9 [(.ptr a0 a0o), (.int .i64 (IntKind.i64.wrap (a1 + 1)))] S_14 fun t111 S_15 =>
 AA (Bm 7 [t111]) fun e112 =>
 AA (Ao AB S_15 (AV.strip0 t107) (.vs 7 e112 .full)) fun t113 =>
 AA (Bu (some b5_5) 3) fun _ =>
 AA (AP Au (Bu (some b5_5) 3) 3 t113) fun b5_6 =>
 AA (AI .sub (AV.strip (v_2 9)) (.int .i64 1)) fun t98 =>
 nx_2 ([t98], [(some b5_6)]) S_15)
 (j_5 (bx_2 5) S_13)) fun j_3 =>
 ifK (AV.strip t89)
 (AA (Ad C3 S_13 (.ptr a0 (a0o + 1))) fun t94 =>
 AA (unA .not (AV.strip t94)) fun t95 =>
 j_3 t95)
 (j_3 (.tup []))) S_12) fun j_4 =>
 ifK (AV.strip (AV.strip t78))
 (j_4 (.tup []))
 (AA (AI .gtr (AV.strip t71) (.int .i64 1)) fun t81 =>
 j_4 t81))
 (AA (AI .eql (AV.strip t38) (.int .i64 3)) fun t116 =>
 ifK t116
 (Ca CZ [(.ptr a0 a0o), (.int .i64 2)] S_4 fun t118 S_16 =>
 AA (some b5) fun _ =>
 AA (AP AF (some b5) 6 t118) fun b5_7 =>
 j_5 (some b5_7) S_16)
 (j_5 (some b5) S_4))))) fun j_6 =>
 AA (Ad Aj S0 (.ptr a0 (a0o + 2))) fun t13 =>
 AA (AI .sub (AV.strip t13) (.int .i64 1)) fun t14 =>
 AA (Bk Aj S0 (.ptr a0 (a0o + 2)) t14) fun S =>
 AA (Ad Aj S (.ptr a0 (a0o + 2))) fun t20 =>
 AA (AI .lss (AV.strip t20) (.int .i64 0)) fun t21 =>
 AJ (fun (x24 : AV) =>
 AA (Aa (AV.strip t21) (.bool true) x24) fun t25 =>
 ifK (AV.strip t25)
 (AA (Bk C3 S (.ptr a0 (a0o + 1)) (.bool true)) fun S_2 =>
 j_6 S_2)
 (j_6 S)) fun j =>
 ifK (AV.strip t21)
 (j (.tup []))
 (j (.bool (decide (a1 > 15))))
theorem Js (Ca) (a0 : Nat) (a0o : Nat) (a1 : Int) (S0 Q) : WF C Ca 115 (Drw C Ca 115) Tryz.f115 [(.ptr a0 a0o), (.int .i64 a1)] S0 Q = DA Ca a0 a0o a1 S0 Q := by kernel_rfl
theorem Fq {w0 : World} {a0 : Nat} {a0o : Nat} {a1 : Int} {S0 : St} {Q : AV → St → Prop} (h : DA (AM (En w0)) a0 a0o a1 S0 Q) : AC w0 C9 [(.ptr a0 a0o), (.int .i64 a1)] S0 Q := BW w0 Tryz.func115 (by kernel_rfl) (by rw [Js]; exact h)
def Ea (Ca : Nat → List AV → St → (AV → St → Prop) → Prop) (a0 : Nat) (a0o : Nat) (S0 : St) (Q : AV → St → Prop) : Prop :=
 AA (Ad AF S0 (.ptr a0 (a0o + 0))) fun t6 =>
 AA (CM (AV.strip t6)) fun t7 =>
 Q t7 S0
theorem KH (Ca) (a0 : Nat) (a0o : Nat) (S0 Q) : WF C Ca 116 (Drw C Ca 116) Tryz.f116 [(.ptr a0 a0o)] S0 Q = Ea Ca a0 a0o S0 Q := by kernel_rfl
theorem KP {w0 : World} {a0 : Nat} {a0o : Nat} {S0 : St} {Q : AV → St → Prop} (h : Ea (AM (En w0)) a0 a0o S0 Q) : AC w0 GX [(.ptr a0 a0o)] S0 Q := BW w0 Tryz.func116 (by kernel_rfl) (by rw [KH]; exact h)
def JP (Ca : Nat → List AV → St → (AV → St → Prop) → Prop) (a0 : List UInt8) (S0 : St) (Q : AV → St → Prop) : Prop :=
 AJ (fun (x3 : AV) (S_2 : St) =>
 Q (AV.strip x3) S_2) fun j =>
 CE ([(.int .i64 0), (.int .i64 0)], []) (fun v bx => ([v 3, v 4], [])) (fun nx v bx S =>
 AA (AI .lss (AV.strip (v 4)) (.int .i64 (List.length a0 : Int))) fun t8 =>
 ifK t8
 (AA (AI .mul (AV.strip (v 3)) (.int .i64 256)) fun t12 =>
 AA (DI (.str a0) (AV.strip (v 4))) fun t15 =>
 AA (E2 .i64 t15) fun t16 =>
 AA (AI .add t12 t16) fun t17 =>
 AA (AI .add (AV.strip (v 4)) (.int .i64 1)) fun t10 =>
 nx ([t17, t10], []) S)
 (j (v 3) S)) S0
theorem RT (Ca) (a0 : List UInt8) (S0 Q) : WF C Ca 117 (Drw C Ca 117) Tryz.f117 [(.str a0)] S0 Q = JP Ca a0 S0 Q := by kernel_rfl
theorem SC {w0 : World} {a0 : List UInt8} {S0 : St} {Q : AV → St → Prop} (h : JP (AM (En w0)) a0 S0 Q) : AC w0 JM [(.str a0)] S0 Q := BW w0 Tryz.func117 (by kernel_rfl) (by rw [RT]; exact h)
def Ih (Ca : Nat → List AV → St → (AV → St → Prop) → Prop) (a0a : Int) (a0b : Bool) (a0c : List (List AV)) (a0cr : Rt) (a0d : List (List AV)) (a0dr : Rt) (a0e : Int) (a0f : List (List AV)) (a0fr : Rt) (a0g : List UInt8) (a1 : Int) (a2 : AV) (S0 : St) (Q : AV → St → Prop) : Prop :=
 AA (FU AB (.agg [(.int .i64 a0a), (.bool a0b), (.vs 1 a0c a0cr), (.vs 7 a0d a0dr), (.int .i64 a0e), (.vs 2 a0f a0fr), (.str a0g)])) fun c3 =>
 AA (LS (AV.strip a2)) fun t13 =>
 AA (Ad Aj S0 t13) fun t14 =>
 AA (AI .sub (AV.strip t14) (.int .i64 1)) fun t15 =>
 AA (LS (AV.strip a2)) fun t16 =>
 AA (Bk Aj S0 t16 t15) fun S =>
 AA (LS (AV.strip a2)) fun t18 =>
 AA (Ad Aj S t18) fun t19 =>
 AA (AI .lss (AV.strip t19) (.int .i64 0)) fun t20 =>
 AJ (fun (x23 : AV) =>
 AA (Aa (AV.strip t20) (.bool true) x23) fun t24 =>
 AJ (fun (x28 : AV) (S_3 : St) =>
 AA (Aa (AV.strip (AV.strip t24)) (.bool true) x28) fun t29 =>
 ifK (AV.strip t29)
 (Q (.bool false) S_3)
 (AJ (
 Q (.bool false) S_3) fun j_5 =>
 AA (some c3) fun _ =>
 AA (AG Aj (some c3) 0) fun t31 =>
 AA (AI .eql (AV.strip t31) (.int .i64 1)) fun t33 =>
 ifK t33
 (AA (some c3) fun _ =>
 AA (AG Aj (some c3) 4) fun t35 =>
 AA (some c3) fun _ =>
 AA (AG As (some c3) 5) fun t37 =>
 Az Ca GV [(AV.strip t35), (AV.strip t37)] S_3 fun t38 S_4 =>
 Q t38 S_4)
 (AA (AI .eql (AV.strip t31) (.int .i64 3)) fun t40 =>
 ifK t40
 (AA (some c3) fun _ =>
 AA (AG AF (some c3) 6) fun t43 =>
 Az Ca Ir [(AV.strip t43)] S_3 fun t44 S_5 =>
 AA (AL t44 0) fun t45 =>
 AA (AL (AN t44 0) 1) fun t46 =>
 AA (AL (AN (AN t44 0) 1) 2) fun t47 =>
 AA (AI .eql (AV.strip t47) (.int .i64 0)) fun t49 =>
 AJ (fun (x54 : AV) =>
 AA (Aa (AV.strip t49) x54 (.bool false)) fun t55 =>
 Q (AV.strip t55) S_5) fun j_3 =>
 ifK (AV.strip t49)
 (AA (some c3) fun _ =>
 AA (AG AF (some c3) 6) fun t52 =>
 AA (CM (AV.strip t52)) fun t53 =>
 AA (AI .leq t53 (.int .i64 256)) fun t54 =>
 j_3 t54)
 (j_3 (.tup [])))
 (AA (AI .eql (AV.strip t31) (.int .i64 4)) fun t57 =>
 ifK t57
 (Q (.bool true) S_3)
 (AA (AI .eql (AV.strip t31) (.int .i64 2)) fun t59 =>
 ifK t59
 (AA (AG AB (some c3) 0) fun t60 =>
 Az Ca IX [(AV.strip t60)] S_3 fun t61 S_6 =>
 AA (unA .not t61) fun t62 =>
 ifK t62
 (Q (.bool false) S_6)
 (AJ (fun (S_9 : St) =>
 Q (.bool true) S_9) fun j_4 =>
 AA (some c3) fun _ =>
 AA (AG Au (some c3) 3) fun t64 =>
 AA (A7 (AV.strip t64)) fun t65 =>
 CE ([(.int .i64 0)], []) (fun v bx => ([v 66], [])) (fun nx v bx S_7 =>
 AA (AI .lss (v 66) t65) fun t67 =>
 ifK t67
 (AA (Aq AB (AV.strip t64) (v 66)) fun t68 =>
 AA (Ad AB S_7 t68) fun t69 =>
 AA (AP AB (some [(.int .i64 0), (.bool false), (.vs 1 [] .nil), (.vs 7 [] .nil), (.int .i64 0), (.vs 2 [] .nil), (.str [])]) 0 (AV.strip t69)) fun b11 =>
 AA (AG AB (some b11) 0) fun t70 =>
 Az Ca GJ [(AV.strip t70), (.int .i64 (IntKind.i64.wrap (a1 + 1))), (AV.strip a2)] S_7 fun t74 S_8 =>
 AA (unA .not t74) fun t75 =>
 ifK t75
 (Q (.bool false) S_8)
 (AA (AI .add (v 66) (.int .i64 1)) fun t76 =>
 nx ([(AV.strip t76)], []) S_8))
 (j_4 S_7)) S_6))
 (j_5)))))) fun j =>
 ifK (AV.strip (AV.strip t24))
 (j (.tup []) S)
 (AA (AG AB (some c3) 0) fun t26 =>
 Az Ca Jr [(AV.strip t26)] S fun t27 S_2 =>
 AA (unA .not t27) fun t28 =>
 j t28 S_2)) fun j_2 =>
 ifK (AV.strip t20)
 (j_2 (.tup []))
 (j_2 (.bool (decide (a1 > 15))))
theorem P9 (Ca) (a0a : Int) (a0b : Bool) (a0c : List (List AV)) (a0cr : Rt) (a0d : List (List AV)) (a0dr : Rt) (a0e : Int) (a0f : List (List AV)) (a0fr : Rt) (a0g : List UInt8) (a1 : Int) (a2 : AV) (S0 Q) : WF C Ca 118 (Drw C Ca 118) Tryz.f118 [(.agg [(.int .i64 a0a), (.bool a0b), (.vs 1 a0c a0cr), (.vs 7 a0d a0dr), (.int .i64 a0e), (.vs 2 a0f a0fr), (.str a0g)]), (.int .i64 a1), a2] S0 Q = Ih Ca a0a a0b a0c a0cr a0d a0dr a0e a0f a0fr a0g a1 a2 S0 Q := by kernel_rfl
theorem Pa {w0 : World} {a0a : Int} {a0b : Bool} {a0c : List (List AV)} {a0cr : Rt} {a0d : List (List AV)} {a0dr : Rt} {a0e : Int} {a0f : List (List AV)} {a0fr : Rt} {a0g : List UInt8} {a1 : Int} {a2 : AV} {S0 : St} {Q : AV → St → Prop} (h : Ih (AM (En w0)) a0a a0b a0c a0cr a0d a0dr a0e a0f a0fr a0g a1 a2 S0 Q) : AC w0 GJ [(.agg [(.int .i64 a0a), (.bool a0b), (.vs 1 a0c a0cr), (.vs 7 a0d a0dr), (.int .i64 a0e), (.vs 2 a0f a0fr), (.str a0g)]), (.int .i64 a1), a2] S0 Q := BW w0 Tryz.func118 (by kernel_rfl) (by rw [P9]; exact h)
def Bo (Ca : Nat → List AV → St → (AV → St → Prop) → Prop) (a0 : List (List AV)) (a0r : Rt) (S0 : St) (Q : AV → St → Prop) : Prop :=
 AA (F4 .slice .eql (.vs 2 a0 (Rt.strip a0r)) (.vs 2 [] .nil)) fun t4 =>
 ifK t4
 (Q (.vs 2 [] .nil) S0)
 (AA (Ao Ah S0 (.vs 2 [] .full) (.vs 2 a0 (Rt.strip a0r))) fun t7 =>
 Q t7 S0)
theorem Di (Ca) (a0 : List (List AV)) (a0r : Rt) (S0 Q) : WF C Ca 119 (Drw C Ca 119) Tryz.f119 [(.vs 2 a0 a0r)] S0 Q = Bo Ca a0 a0r S0 Q := by kernel_rfl
theorem Dj {w0 : World} {a0 : List (List AV)} {a0r : Rt} {S0 : St} {Q : AV → St → Prop} (h : Bo (AM (En w0)) a0 a0r S0 Q) : AC w0 Bp [(.vs 2 a0 a0r)] S0 Q := BW w0 Tryz.func119 (by kernel_rfl) (by rw [Di]; exact h)
def Hp (Ca : Nat → List AV → St → (AV → St → Prop) → Prop) (a0 : Int) (a1 : List (List AV)) (a1r : Rt) (S0 : St) (Q : AV → St → Prop) : Prop :=
 AJ (fun (x10 : AV) =>
 AA (Aa (.bool (decide (a0 < 0))) (.bool true) x10) fun t11 =>
 ifK (AV.strip t11)
 (Q (.bool false) S0)
 (AJ (fun (S_2 : St) =>
 Q (.bool true) S_2) fun j_6 =>
 CE ([(.int .i64 0)], []) (fun v bx => ([v 5], [])) (fun nx v bx S =>
 AA (AI .lss (AV.strip (v 5)) (.int .i64 (List.length a1 : Int))) fun t15 =>
 ifK t15
 (AA (Aq Ah (.vs 2 a1 (Rt.strip a1r)) (AV.strip (v 5))) fun t20 =>
 AA (DT t20 0) fun t21 =>
 AA (Ad Aj S t21) fun t22 =>
 AA (AI .lss (AV.strip t22) (.int .i64 0)) fun t23 =>
 AJ (fun (x31 : AV) =>
 AA (Aa (AV.strip t23) (.bool true) x31) fun t32 =>
 AJ (fun (x40 : AV) =>
 AA (Aa (AV.strip (AV.strip t32)) (.bool true) x40) fun t41 =>
 AJ (fun (x56 : AV) =>
 AA (Aa (AV.strip (AV.strip t41)) (.bool true) x56) fun t57 =>
 ifK (AV.strip t57)
 (Q (.bool false) S)
 (AA (AI .gtr (AV.strip (v 5)) (.int .i64 0)) fun t59 =>
 AJ (fun (x80 : AV) =>
 AA (Aa (AV.strip t59) x80 (.bool false)) fun t81 =>
 ifK (AV.strip t81)
 (Q (.bool false) S)
 (AA (AI .add (AV.strip (v 5)) (.int .i64 1)) fun t17 =>
 nx ([t17], []) S)) fun j_5 =>
 ifK (AV.strip t59)
 (AA (Aq Ah (.vs 2 a1 (Rt.strip a1r)) (AV.strip (v 5))) fun t63 =>
 AA (DT t63 0) fun t64 =>
 AA (Ad Aj S t64) fun t65 =>
 AA (AI .sub (AV.strip (v 5)) (.int .i64 1)) fun t68 =>
 AA (Aq Ah (.vs 2 a1 (Rt.strip a1r)) t68) fun t69 =>
 AA (DT t69 0) fun t70 =>
 AA (Ad Aj S t70) fun t71 =>
 AA (AI .sub (AV.strip (v 5)) (.int .i64 1)) fun t74 =>
 AA (Aq Ah (.vs 2 a1 (Rt.strip a1r)) t74) fun t75 =>
 AA (DT t75 1) fun t76 =>
 AA (Ad AF S t76) fun t77 =>
 AA (CM (AV.strip t77)) fun t78 =>
 AA (AI .add (AV.strip t71) t78) fun t79 =>
 AA (AI .lss (AV.strip t65) t79) fun t80 =>
 j_5 t80)
 (j_5 (.tup [])))) fun j_2 =>
 ifK (AV.strip (AV.strip t41))
 (j_2 (.tup []))
 (AA (Aq Ah (.vs 2 a1 (Rt.strip a1r)) (AV.strip (v 5))) fun t45 =>
 AA (DT t45 0) fun t46 =>
 AA (Ad Aj S t46) fun t47 =>
 AA (Aq Ah (.vs 2 a1 (Rt.strip a1r)) (AV.strip (v 5))) fun t50 =>
 AA (DT t50 1) fun t51 =>
 AA (Ad AF S t51) fun t52 =>
 AA (CM (AV.strip t52)) fun t53 =>
 AA (AI .add (AV.strip t47) t53) fun t54 =>
 AA (AI .gtr t54 (.int .i64 a0)) fun t56 =>
 j_2 t56)) fun j_3 =>
 ifK (AV.strip (AV.strip t32))
 (j_3 (.tup []))
 (AA (Aq Ah (.vs 2 a1 (Rt.strip a1r)) (AV.strip (v 5))) fun t36 =>
 AA (DT t36 1) fun t37 =>
 AA (Ad AF S t37) fun t38 =>
 AA (CM (AV.strip t38)) fun t39 =>
 AA (AI .lss t39 (.int .i64 1)) fun t40 =>
 j_3 t40)) fun j_4 =>
 ifK (AV.strip t23)
 (j_4 (.tup []))
 (AA (Aq Ah (.vs 2 a1 (Rt.strip a1r)) (AV.strip (v 5))) fun t27 =>
 AA (DT t27 0) fun t28 =>
 AA (Ad Aj S t28) fun t29 =>
 AA (AI .gtr (AV.strip t29) (.int .i64 a0)) fun t31 =>
 j_4 t31))
 (j_6 S)) S0)) fun j =>
 ifK (.bool (decide (a0 < 0)))
 (j (.tup []))
 (j (.bool (decide (a0 > 1048576))))
theorem PF (Ca) (a0 : Int) (a1 : List (List AV)) (a1r : Rt) (S0 Q) : WF C Ca 120 (Drw C Ca 120) Tryz.f120 [(.int .i64 a0), (.vs 2 a1 a1r)] S0 Q = Hp Ca a0 a1 a1r S0 Q := by kernel_rfl
theorem O5 {w0 : World} {a0 : Int} {a1 : List (List AV)} {a1r : Rt} {S0 : St} {Q : AV → St → Prop} (h : Hp (AM (En w0)) a0 a1 a1r S0 Q) : AC w0 HY [(.int .i64 a0), (.vs 2 a1 a1r)] S0 Q := BW w0 Tryz.func120 (by kernel_rfl) (by rw [PF]; exact h)
def F5 (Ca : Nat → List AV → St → (AV → St → Prop) → Prop) (a0a : Int) (a0b : Bool) (a0c : List (List AV)) (a0cr : Rt) (a0d : List (List AV)) (a0dr : Rt) (a0e : Int) (a0f : List (List AV)) (a0fr : Rt) (a0g : List UInt8) (S0 : St) (Q : AV → St → Prop) : Prop :=
 AA (FU AB (.agg [(.int .i64 a0a), (.bool a0b), (.vs 1 a0c a0cr), (.vs 7 a0d a0dr), (.int .i64 a0e), (.vs 2 a0f a0fr), (.str a0g)])) fun c1 =>
 AA (some c1) fun _ =>
 AA (AG A1 (some c1) 2) fun t5 =>
 AA (A7 (AV.strip t5)) fun t6 =>
 AA (some c1) fun _ =>
 AA (AG Au (some c1) 3) fun t8 =>
 AA (A7 (AV.strip t8)) fun t9 =>
 AA (AI .neq t6 t9) fun t10 =>
 ifK t10
 (Q (.bool false) S0)
 (AJ (fun (S_6 : St) =>
 Q (.bool true) S_6) fun j_3 =>
 CE ([(.int .i64 0)], [(some c1)]) (fun v bx => ([v 3], [bx 1])) (fun nx v bx S =>
 AA (bx 1) fun _ =>
 AA (AG A1 (bx 1) 2) fun t13 =>
 AA (A7 (AV.strip t13)) fun t14 =>
 AA (AI .lss (AV.strip (v 3)) t14) fun t15 =>
 ifK t15
 (AA (bx 1) fun _ =>
 AA (AG A1 (bx 1) 2) fun t19 =>
 AA (Aq AF (AV.strip t19) (AV.strip (v 3))) fun t21 =>
 AA (Ad AF S t21) fun t22 =>
 Az Ca Fm [(AV.strip t22)] S fun t23 S_2 =>
 AA (unA .not t23) fun t24 =>
 AJ (fun (x42 : AV) (S_5 : St) =>
 AA (Aa (AV.strip t24) (.bool true) x42) fun t43 =>
 ifK (AV.strip t43)
 (Q (.bool false) S_5)
 (AA (AI .add (AV.strip (v 3)) (.int .i64 1)) fun t17 =>
 nx ([t17], [(bx 1)]) S_5)) fun j_2 =>
 ifK (AV.strip t24)
 (j_2 (.tup []) S_2)
 (AA (AI .gtr (AV.strip (v 3)) (.int .i64 0)) fun t27 =>
 AJ (fun (x41 : AV) (S_4 : St) =>
 AA (Aa (AV.strip t27) x41 (.bool false)) fun t42 =>
 j_2 (AV.strip t42) S_4) fun j =>
 gK (AV.strip t27)
 (AA (bx 1) fun _ =>
 AA (AG A1 (bx 1) 2) fun t30 =>
 AA (AI .sub (AV.strip (v 3)) (.int .i64 1)) fun t32 =>
 AA (Aq AF (AV.strip t30) t32) fun t33 =>
 AA (Ad AF S_2 t33) fun t34 =>
 AA (bx 1) fun _ =>
 AA (AG A1 (bx 1) 2) fun t36 =>
 AA (Aq AF (AV.strip t36) (AV.strip (v 3))) fun t38 =>
 AA (Ad AF S_2 t38) fun t39 =>
 Az Ca Ix [(AV.strip t34), (AV.strip t39)] S_2 fun t40 S_3 =>
 AA (unA .not t40) fun t41 =>
 j t41 S_3)
 (j (.tup []) S_2)
 (j (.tup []) S_2)))
 (j_3 S)) S0)
theorem MR (Ca) (a0a : Int) (a0b : Bool) (a0c : List (List AV)) (a0cr : Rt) (a0d : List (List AV)) (a0dr : Rt) (a0e : Int) (a0f : List (List AV)) (a0fr : Rt) (a0g : List UInt8) (S0 Q) : WF C Ca 121 (Drw C Ca 121) Tryz.f121 [(.agg [(.int .i64 a0a), (.bool a0b), (.vs 1 a0c a0cr), (.vs 7 a0d a0dr), (.int .i64 a0e), (.vs 2 a0f a0fr), (.str a0g)])] S0 Q = F5 Ca a0a a0b a0c a0cr a0d a0dr a0e a0f a0fr a0g S0 Q := by kernel_rfl
theorem ML {w0 : World} {a0a : Int} {a0b : Bool} {a0c : List (List AV)} {a0cr : Rt} {a0d : List (List AV)} {a0dr : Rt} {a0e : Int} {a0f : List (List AV)} {a0fr : Rt} {a0g : List UInt8} {S0 : St} {Q : AV → St → Prop} (h : F5 (AM (En w0)) a0a a0b a0c a0cr a0d a0dr a0e a0f a0fr a0g S0 Q) : AC w0 F8 [(.agg [(.int .i64 a0a), (.bool a0b), (.vs 1 a0c a0cr), (.vs 7 a0d a0dr), (.int .i64 a0e), (.vs 2 a0f a0fr), (.str a0g)])] S0 Q := BW w0 Tryz.func121 (by kernel_rfl) (by rw [MR]; exact h)
def Hd (Ca : Nat → List AV → St → (AV → St → Prop) → Prop) (a0 : List UInt8) (S0 : St) (Q : AV → St → Prop) : Prop :=
 Ca JF [(.str a0)] S0 fun t8 S =>
 AA (AL t8 0) fun t9 =>
 AA (AL (AN t8 0) 1) fun t10 =>
 AA (F4 .ifc .eql (AV.strip t10) .nilifc) fun t13 =>
 AJ (fun (x18 : AV) (S_3 : St) =>
 AA (Aa (AV.strip t13) x18 (.bool false)) fun t19 =>
 Q (.tup [(AV.flat (AV.strip t9)), (AV.flat (AV.strip t19))]) S_3) fun j =>
 ifK (AV.strip t13)
 (Az Ca Jj [(AV.strip t9)] S fun t16 S_2 =>
 AA (AI .eql t16 (.str a0)) fun t18 =>
 j t18 S_2)
 (j (.tup []) S)
theorem O6 (Ca) (a0 : List UInt8) (S0 Q) : WF C Ca 134 (Drw C Ca 134) Tryz.f134 [(.str a0)] S0 Q = Hd Ca a0 S0 Q := by kernel_rfl
theorem PC {w0 : World} {a0 : List UInt8} {S0 : St} {Q : AV → St → Prop} (h : Hd (AM (En w0)) a0 S0 Q) : AC w0 EO [(.str a0)] S0 Q := BW w0 Tryz.func134 (by kernel_rfl) (by rw [O6]; exact h)
def IC (Ca : Nat → List AV → St → (AV → St → Prop) → Prop) (S0 : St) (Q : AV → St → Prop) : Prop :=
 AA (EY DL 1 [(0, (.str [])), (1, (.str [108, 111, 111, 107, 117, 112])), (2, (.str [115, 116, 97, 116])), (3, (.str [114, 101, 97, 100, 108, 105, 110, 107])), (4, (.str [114, 101, 97, 100])), (5, (.str [111, 112, 101, 110])), (6, (.str [112, 97, 103, 101])), (7, (.str [99, 108, 111, 115, 101])), (8, (.str [97, 100, 100])), (9, (.str [114, 101, 109, 111, 118, 101]))]) fun t1 =>
 AA (AP DL (some [(.str []), (.str []), (.str []), (.str []), (.str []), (.str []), (.str []), (.str []), (.str []), (.str [])]) 0 t1) fun b0 =>
 AA ((AG DL (some b0) 0).map AV.strip) fun r0 =>
 Q r0 S0
theorem PY (Ca) (S0 Q) : WF C Ca 138 (Drw C Ca 138) Tryz.f138 [] S0 Q = IC Ca  S0 Q := by kernel_rfl
theorem Pr {w0 : World} {S0 : St} {Q : AV → St → Prop} (h : IC (AM (En w0))  S0 Q) : AC w0 Ik [] S0 Q := BW w0 Tryz.func138 (by kernel_rfl) (by rw [PY]; exact h)
def G4 (Ca : Nat → List AV → St → (AV → St → Prop) → Prop) (a0 : List UInt8) (a1 : Int) (a2 : Bool) (S0 : St) (Q : AV → St → Prop) : Prop :=
 AJ (fun (x9 : AV) =>
 Az Ca IA [(.str a0), (.str [32]), (AV.strip x9)] S0 fun t22 S =>
 AA (A7 (AV.strip t22)) fun t24 =>
 AA (AI .neq t24 (AV.strip x9)) fun t26 =>
 ifK t26
 (Q (.tup [(.vs 1 [] .nil), (.str []), (.bool false)]) S)
 (AJ (fun (x10 : AV) (x11 : AV) (S_4 : St) =>
 ifK (.bool a2)
 (AA (Aq AF (AV.strip x10) (.int .i64 a1)) fun t51 =>
 AA (Ad AF S_4 t51) fun t52 =>
 Q (.tup [(AV.flat (AV.strip x11)), (AV.flat (AV.strip t52)), (.bool true)]) S_4)
 (Q (.tup [(AV.flat (AV.strip x11)), (.str []), (.bool true)]) S_4)) fun j =>
 AA (Cm AF t22 none (some (.int .i64 a1)) none) fun t29 =>
 AA (A7 t29) fun t30 =>
 CE ([(.vs 1 [] .nil), (.int .i64 0)], []) (fun v bx => ([v 11, v 31], [])) (fun nx v bx S_2 =>
 AA (AI .lss (v 31) t30) fun t32 =>
 ifK t32
 (AA (Aq AF t29 (v 31)) fun t33 =>
 AA (Ad AF S_2 t33) fun t34 =>
 Az Ca EO [(AV.strip (AV.strip t34))] S_2 fun t37 S_3 =>
 AA (AL t37 0) fun t38 =>
 AA (AL (AN t37 0) 1) fun t39 =>
 AA (unA .not (AV.strip t39)) fun t41 =>
 ifK t41
 (Q (.tup [(.vs 1 [] .nil), (.str []), (.bool false)]) S_3)
 (AA (Bm 1 [(AV.strip t38)]) fun e44 =>
 AA (Ao Aj S_3 (v 11) (.vs 1 e44 .full)) fun t45 =>
 AA (AI .add (v 31) (.int .i64 1)) fun t46 =>
 nx ([t45, (AV.strip t46)], []) S_3))
 (j (AV.strip t22) (v 11) S_2)) S)) fun j_2 =>
 ifK (.bool a2)
 (j_2 (.int .i64 (IntKind.i64.wrap (a1 + 1))))
 (j_2 (.int .i64 a1))
theorem NL (Ca) (a0 : List UInt8) (a1 : Int) (a2 : Bool) (S0 Q) : WF C Ca 139 (Drw C Ca 139) Tryz.f139 [(.str a0), (.int .i64 a1), (.bool a2)] S0 Q = G4 Ca a0 a1 a2 S0 Q := by kernel_rfl
theorem NW {w0 : World} {a0 : List UInt8} {a1 : Int} {a2 : Bool} {S0 : St} {Q : AV → St → Prop} (h : G4 (AM (En w0)) a0 a1 a2 S0 Q) : AC w0 FB [(.str a0), (.int .i64 a1), (.bool a2)] S0 Q := BW w0 Tryz.func139 (by kernel_rfl) (by rw [NL]; exact h)
def Db (Ca : Nat → List AV → St → (AV → St → Prop) → Prop) (a0 : Nat) (a0o : Nat) (a1 : Int) (S0 : St) (Q : AV → St → Prop) : Prop :=
 AA (Ad B8 S0 (.ptr a0 (a0o + 0))) fun t11 =>
 Az Ca DS [(AV.strip t11), (.int .i64 a1)] S0 fun t13 S =>
 AA (AL t13 0) fun t14 =>
 AA (AL (AN t13 0) 1) fun t15 =>
 AA (Ad C3 S (.ptr a0 (a0o + 1))) fun t20 =>
 AJ (fun (x23 : AV) =>
 AA (Aa (AV.strip (AV.strip t20)) (.bool true) x23) fun t24 =>
 AA (Bk C3 S (.ptr a0 (a0o + 1)) (AV.strip t24)) fun S_2 =>
 Q (AV.strip t14) S_2) fun j =>
 ifK (AV.strip (AV.strip t20))
 (j (.tup []))
 (AA (unA .not (AV.strip t15)) fun t23 =>
 j t23)
theorem Ip (Ca) (a0 : Nat) (a0o : Nat) (a1 : Int) (S0 Q) : WF C Ca 140 (Drw C Ca 140) Tryz.f140 [(.ptr a0 a0o), (.int .i64 a1)] S0 Q = Db Ca a0 a0o a1 S0 Q := by kernel_rfl
theorem It {w0 : World} {a0 : Nat} {a0o : Nat} {a1 : Int} {S0 : St} {Q : AV → St → Prop} (h : Db (AM (En w0)) a0 a0o a1 S0 Q) : AC w0 BP [(.ptr a0 a0o), (.int .i64 a1)] S0 Q := BW w0 Tryz.func140 (by kernel_rfl) (by rw [Ip]; exact h)
def D3 (Ca : Nat → List AV → St → (AV → St → Prop) → Prop) (a0 : Nat) (a0o : Nat) (a1 : Int) (S0 : St) (Q : AV → St → Prop) : Prop :=
 AA (Ad B8 S0 (.ptr a0 (a0o + 0))) fun t11 =>
 Az Ca Eb [(AV.strip t11), (.int .i64 a1)] S0 fun t13 S =>
 AA (AL t13 0) fun t14 =>
 AA (AL (AN t13 0) 1) fun t15 =>
 AA (Ad C3 S (.ptr a0 (a0o + 1))) fun t20 =>
 AJ (fun (x23 : AV) =>
 AA (Aa (AV.strip (AV.strip t20)) (.bool true) x23) fun t24 =>
 AA (Bk C3 S (.ptr a0 (a0o + 1)) (AV.strip t24)) fun S_2 =>
 Q (AV.strip t14) S_2) fun j =>
 ifK (AV.strip (AV.strip t20))
 (j (.tup []))
 (AA (unA .not (AV.strip t15)) fun t23 =>
 j t23)
theorem JU (Ca) (a0 : Nat) (a0o : Nat) (a1 : Int) (S0 Q) : WF C Ca 141 (Drw C Ca 141) Tryz.f141 [(.ptr a0 a0o), (.int .i64 a1)] S0 Q = D3 Ca a0 a0o a1 S0 Q := by kernel_rfl
theorem Jo {w0 : World} {a0 : Nat} {a0o : Nat} {a1 : Int} {S0 : St} {Q : AV → St → Prop} (h : D3 (AM (En w0)) a0 a0o a1 S0 Q) : AC w0 CZ [(.ptr a0 a0o), (.int .i64 a1)] S0 Q := BW w0 Tryz.func141 (by kernel_rfl) (by rw [JU]; exact h)
set_option maxHeartbeats 2000000
open Go.Proofs
def I9 (Ca : Nat → List AV → St → (AV → St → Prop) → Prop) (a0a : Int) (a0b : Bool) (a0c : List (List AV)) (a0cr : Rt) (a0d : List (List AV)) (a0dr : Rt) (a0e : Int) (a0f : List (List AV)) (a0fr : Rt) (a0g : List UInt8) (S0 : St) (Q : AV → St → Prop) : Prop :=
 AA (FU AB (.agg [(.int .i64 a0a), (.bool a0b), (.vs 1 a0c a0cr), (.vs 7 a0d a0dr), (.int .i64 a0e), (.vs 2 a0f a0fr), (.str a0g)])) fun c1 =>
 AA (some c1) fun _ =>
 AA (AG Aj (some c1) 0) fun t7 =>
 AA (AI .eql (AV.strip t7) (.int .i64 2)) fun t8 =>
 AA (some c1) fun _ =>
 AA (AG Aj (some c1) 0) fun t10 =>
 AA (AI .eql (AV.strip t10) (.int .i64 1)) fun t11 =>
 AA (some c1) fun _ =>
 AA (AG Aj (some c1) 0) fun t13 =>
 AA (AI .eql (AV.strip t13) (.int .i64 3)) fun t14 =>
 AA (unA .not (AV.strip t8)) fun t16 =>
 AJ (fun (x31 : AV) =>
 AA (Aa (AV.strip t16) x31 (.bool false)) fun t32 =>
 AJ (fun (x46 : AV) =>
 AA (Aa (AV.strip (AV.strip t32)) (.bool true) x46) fun t47 =>
 ifK (AV.strip t47)
 (Q (.bool false) S0)
 (AJ (fun (x52 : AV) =>
 AA (Aa (AV.strip (AV.strip t14)) (.bool true) x52) fun t53 =>
 Q (AV.strip t53) S0) fun j_7 =>
 ifK (AV.strip (AV.strip t14))
 (j_7 (.tup []))
 (AA (some c1) fun _ =>
 AA (AG AF (some c1) 6) fun t51 =>
 AA (AI .eql (AV.strip t51) (.str [])) fun t52 =>
 j_7 t52))) fun j_5 =>
 ifK (AV.strip (AV.strip t32))
 (j_5 (.tup []))
 (AA (unA .not (AV.strip t11)) fun t35 =>
 AJ (fun (x45 : AV) =>
 AA (Aa (AV.strip t35) x45 (.bool false)) fun t46 =>
 j_5 (AV.strip t46)) fun j_4 =>
 gK (AV.strip t35)
 (AA (some c1) fun _ =>
 AA (AG Aj (some c1) 4) fun t38 =>
 AA (AI .neq (AV.strip t38) (.int .i64 0)) fun t39 =>
 AJ (fun (x44 : AV) =>
 AA (Aa (AV.strip t39) (.bool true) x44) fun t45 =>
 j_4 (AV.strip t45)) fun j_3 =>
 gK (AV.strip t39)
 (j_3 (.tup []))
 (AA (some c1) fun _ =>
 AA (AG As (some c1) 5) fun t42 =>
 AA (A7 (AV.strip t42)) fun t43 =>
 AA (AI .gtr t43 (.int .i64 0)) fun t44 =>
 j_3 t44)
 (j_3 (.tup [])))
 (j_4 (.tup []))
 (j_4 (.tup [])))) fun j_6 =>
 ifK (AV.strip t16)
 (AA (some c1) fun _ =>
 AA (AG C3 (some c1) 1) fun t19 =>
 AJ (fun (x24 : AV) =>
 AA (Aa (AV.strip (AV.strip t19)) (.bool true) x24) fun t25 =>
 AJ (fun (x30 : AV) =>
 AA (Aa (AV.strip (AV.strip t25)) (.bool true) x30) fun t31 =>
 j_6 (AV.strip t31)) fun j =>
 gK (AV.strip (AV.strip t25))
 (j (.tup []))
 (AA (some c1) fun _ =>
 AA (AG Au (some c1) 3) fun t28 =>
 AA (A7 (AV.strip t28)) fun t29 =>
 AA (AI .gtr t29 (.int .i64 0)) fun t30 =>
 j t30)
 (j (.tup []))) fun j_2 =>
 gK (AV.strip (AV.strip t19))
 (j_2 (.tup []))
 (AA (some c1) fun _ =>
 AA (AG A1 (some c1) 2) fun t22 =>
 AA (A7 (AV.strip t22)) fun t23 =>
 AA (AI .gtr t23 (.int .i64 0)) fun t24 =>
 j_2 t24)
 (j_2 (.tup [])))
 (j_6 (.tup []))
theorem SE (Ca) (a0a : Int) (a0b : Bool) (a0c : List (List AV)) (a0cr : Rt) (a0d : List (List AV)) (a0dr : Rt) (a0e : Int) (a0f : List (List AV)) (a0fr : Rt) (a0g : List UInt8) (S0 Q) : WF C Ca 142 (Drw C Ca 142) Tryz.f142 [(.agg [(.int .i64 a0a), (.bool a0b), (.vs 1 a0c a0cr), (.vs 7 a0d a0dr), (.int .i64 a0e), (.vs 2 a0f a0fr), (.str a0g)])] S0 Q = I9 Ca a0a a0b a0c a0cr a0d a0dr a0e a0f a0fr a0g S0 Q := by kernel_rfl
theorem Rw {w0 : World} {a0a : Int} {a0b : Bool} {a0c : List (List AV)} {a0cr : Rt} {a0d : List (List AV)} {a0dr : Rt} {a0e : Int} {a0f : List (List AV)} {a0fr : Rt} {a0g : List UInt8} {S0 : St} {Q : AV → St → Prop} (h : I9 (AM (En w0)) a0a a0b a0c a0cr a0d a0dr a0e a0f a0fr a0g S0 Q) : AC w0 Jr [(.agg [(.int .i64 a0a), (.bool a0b), (.vs 1 a0c a0cr), (.vs 7 a0d a0dr), (.int .i64 a0e), (.vs 2 a0f a0fr), (.str a0g)])] S0 Q := BW w0 Tryz.func142 (by kernel_rfl) (by rw [SE]; exact h)
def Gr (Ca : Nat → List AV → St → (AV → St → Prop) → Prop) (a0 : Int) (a1 : List (List AV)) (a1r : Rt) (S0 : St) (Q : AV → St → Prop) : Prop :=
 AJ (fun (S_2 : St) =>
 AJ (fun (x44 : AV) =>
 AA (Aa (.bool (decide (a0 ≥ 0))) x44 (.bool false)) fun t45 =>
 Q (AV.strip t45) S_2) fun j_3 =>
 ifK (.bool (decide (a0 ≥ 0)))
 (j_3 (.bool (decide (a0 ≤ 1048576))))
 (j_3 (.tup []))) fun j_4 =>
 CE ([(.int .i64 0), (.int .i64 0)], []) (fun v bx => ([v 5, v 10], [])) (fun nx v bx S =>
 AA (AI .lss (v 10) (.int .i64 (List.length a1 : Int))) fun t11 =>
 ifK t11
 (AA (Aq Ah (.vs 2 a1 (Rt.strip a1r)) (v 10)) fun t12 =>
 AA (Ad Ah S t12) fun t13 =>
 AA (AP Ah (some [(.int .i64 0), (.str [])]) 0 (AV.strip t13)) fun b7 =>
 AA (some b7) fun _ =>
 AA (AG Aj (some b7) 0) fun t15 =>
 AA (AI .lss (AV.strip t15) (AV.strip (v 5))) fun t17 =>
 AJ (fun (x21 : AV) =>
 AA (Aa (AV.strip t17) (.bool true) x21) fun t22 =>
 AJ (fun (x31 : AV) =>
 AA (Aa (AV.strip (AV.strip t22)) (.bool true) x31) fun t32 =>
 ifK (AV.strip t32)
 (Q (.bool false) S)
 (AA (some b7) fun _ =>
 AA (AG Aj (some b7) 0) fun t34 =>
 AA (some b7) fun _ =>
 AA (AG AF (some b7) 1) fun t36 =>
 AA (CM (AV.strip t36)) fun t37 =>
 AA (AI .add (AV.strip t34) t37) fun t38 =>
 AA (AI .add (v 10) (.int .i64 1)) fun t39 =>
 nx ([t38, (AV.strip t39)], []) S)) fun j =>
 ifK (AV.strip (AV.strip t22))
 (j (.tup []))
 (AA (some b7) fun _ =>
 AA (AG AF (some b7) 1) fun t25 =>
 AA (CM (AV.strip t25)) fun t26 =>
 AA (some b7) fun _ =>
 AA (AG Aj (some b7) 0) fun t29 =>
 AA (AI .sub (.int .i64 a0) (AV.strip t29)) fun t30 =>
 AA (AI .gtr t26 t30) fun t31 =>
 j t31)) fun j_2 =>
 ifK (AV.strip t17)
 (j_2 (.tup []))
 (AA (some b7) fun _ =>
 AA (AG AF (some b7) 1) fun t20 =>
 AA (AI .eql (AV.strip t20) (.str [])) fun t21 =>
 j_2 t21))
 (j_4 S)) S0
theorem NO (Ca) (a0 : Int) (a1 : List (List AV)) (a1r : Rt) (S0 Q) : WF C Ca 143 (Drw C Ca 143) Tryz.f143 [(.int .i64 a0), (.vs 2 a1 a1r)] S0 Q = Gr Ca a0 a1 a1r S0 Q := by kernel_rfl
theorem NP {w0 : World} {a0 : Int} {a1 : List (List AV)} {a1r : Rt} {S0 : St} {Q : AV → St → Prop} (h : Gr (AM (En w0)) a0 a1 a1r S0 Q) : AC w0 GV [(.int .i64 a0), (.vs 2 a1 a1r)] S0 Q := BW w0 Tryz.func143 (by kernel_rfl) (by rw [NO]; exact h)
def Iv (Ca : Nat → List AV → St → (AV → St → Prop) → Prop) (a0a : Int) (a0b : Bool) (a0c : List (List AV)) (a0cr : Rt) (a0d : List (List AV)) (a0dr : Rt) (a0e : Int) (a0f : List (List AV)) (a0fr : Rt) (a0g : List UInt8) (S0 : St) (Q : AV → St → Prop) : Prop :=
 AA (FU AB (.agg [(.int .i64 a0a), (.bool a0b), (.vs 1 a0c a0cr), (.vs 7 a0d a0dr), (.int .i64 a0e), (.vs 2 a0f a0fr), (.str a0g)])) fun c1 =>
 AJ (fun (y1 : Option (List AV)) (S_3 : St) =>
 AA y1 fun _ =>
 AA (AG A1 y1 2) fun t32 =>
 AA (A7 (AV.strip t32)) fun t33 =>
 AA y1 fun _ =>
 AA (AG Au y1 3) fun t35 =>
 AA (A7 (AV.strip t35)) fun t36 =>
 AA (AI .eql t33 t36) fun t37 =>
 Q t37 S_3) fun j_3 =>
 AA (some c1) fun _ =>
 AA (AG A1 (some c1) 2) fun t6 =>
 AA (A7 (AV.strip t6)) fun t7 =>
 CE ([(.int .i64 0)], [(some c1)]) (fun v bx => ([v 8], [bx 1])) (fun nx v bx S =>
 AA (AI .lss (v 8) t7) fun t9 =>
 ifK t9
 (AA (Aq AF (AV.strip t6) (v 8)) fun t11 =>
 AA (Ad AF S t11) fun t12 =>
 Az Ca GH [(AV.strip (AV.strip t12))] S fun t14 S_2 =>
 AA (unA .not t14) fun t15 =>
 AJ (fun (x28 : AV) =>
 AA (Aa (AV.strip t15) (.bool true) x28) fun t29 =>
 ifK (AV.strip t29)
 (Q (.bool false) S_2)
 (AA (AI .add (v 8) (.int .i64 1)) fun t30 =>
 nx ([(AV.strip t30)], [(bx 1)]) S_2)) fun j_2 =>
 ifK (AV.strip t15)
 (j_2 (.tup []))
 (AA (AI .gtr (AV.strip (AV.strip (v 8))) (.int .i64 0)) fun t18 =>
 AJ (fun (x27 : AV) =>
 AA (Aa (AV.strip t18) x27 (.bool false)) fun t28 =>
 j_2 (AV.strip t28)) fun j =>
 gK (AV.strip t18)
 (AA (bx 1) fun _ =>
 AA (AG A1 (bx 1) 2) fun t21 =>
 AA (AI .sub (AV.strip (AV.strip (v 8))) (.int .i64 1)) fun t23 =>
 AA (Aq AF (AV.strip t21) t23) fun t24 =>
 AA (Ad AF S_2 t24) fun t25 =>
 AA (AI .geq (AV.strip t25) (AV.strip (AV.strip t12))) fun t27 =>
 j t27)
 (j (.tup []))
 (j (.tup []))))
 (j_3 (bx 1) S)) S0
theorem Pu (Ca) (a0a : Int) (a0b : Bool) (a0c : List (List AV)) (a0cr : Rt) (a0d : List (List AV)) (a0dr : Rt) (a0e : Int) (a0f : List (List AV)) (a0fr : Rt) (a0g : List UInt8) (S0 Q) : WF C Ca 144 (Drw C Ca 144) Tryz.f144 [(.agg [(.int .i64 a0a), (.bool a0b), (.vs 1 a0c a0cr), (.vs 7 a0d a0dr), (.int .i64 a0e), (.vs 2 a0f a0fr), (.str a0g)])] S0 Q = Iv Ca a0a a0b a0c a0cr a0d a0dr a0e a0f a0fr a0g S0 Q := by kernel_rfl
theorem Px {w0 : World} {a0a : Int} {a0b : Bool} {a0c : List (List AV)} {a0cr : Rt} {a0d : List (List AV)} {a0dr : Rt} {a0e : Int} {a0f : List (List AV)} {a0fr : Rt} {a0g : List UInt8} {S0 : St} {Q : AV → St → Prop} (h : Iv (AM (En w0)) a0a a0b a0c a0cr a0d a0dr a0e a0f a0fr a0g S0 Q) : AC w0 IX [(.agg [(.int .i64 a0a), (.bool a0b), (.vs 1 a0c a0cr), (.vs 7 a0d a0dr), (.int .i64 a0e), (.vs 2 a0f a0fr), (.str a0g)])] S0 Q := BW w0 Tryz.func144 (by kernel_rfl) (by rw [Pu]; exact h)
def EZ (Ca : Nat → List AV → St → (AV → St → Prop) → Prop) (a0 : Nat) (a0o : Nat) (a1 : Int) (S0 : St) (Q : AV → St → Prop) : Prop :=
 AJ (fun (x12 : AV) =>
 AA (Aa (.bool (decide (a1 < 1))) (.bool true) x12) fun t13 =>
 AJ (fun (x21 : AV) =>
 AA (Aa (AV.strip (AV.strip t13)) (.bool true) x21) fun t22 =>
 ifK (AV.strip t22)
 (Q (.tup [(.int .i64 0), (.bool false)]) S0)
 (AJ (fun (x6 : AV) (S_2 : St) =>
 AA (Ad AF S_2 (.ptr a0 (a0o + 0))) fun t42 =>
 AA (Ba (AV.strip0 t42) (some (.int .i64 a1)) none) fun t44 =>
 AA (Bk AF (stripMem S_2 (.ptr a0 (a0o + 0))) (.ptr a0 (a0o + 0)) t44) fun S_3 =>
 Q (.tup [(AV.flat (AV.strip x6)), (.bool true)]) S_3) fun j_3 =>
 CE ([(.int .i64 0), (.int .i64 0)], []) (fun v bx => ([v 6, v 24], [])) (fun nx v bx S =>
 AA (AI .lss (v 24) (.int .i64 a1)) fun t25 =>
 ifK t25
 (AA (AI .shl (AV.strip (v 6)) (.int .u64 8)) fun t28 =>
 AA (Ad AF S (.ptr a0 (a0o + 0))) fun t32 =>
 AA (DI (AV.strip t32) (AV.strip (AV.strip (v 24)))) fun t34 =>
 AA (E2 .i64 t34) fun t35 =>
 AA (AI .or t28 t35) fun t36 =>
 AA (AI .add (v 24) (.int .i64 1)) fun t37 =>
 nx ([t36, (AV.strip t37)], []) S)
 (j_3 (v 6) S)) S0)) fun j =>
 ifK (AV.strip (AV.strip t13))
 (j (.tup []))
 (AA (Ad AF S0 (.ptr a0 (a0o + 0))) fun t19 =>
 AA (CM (AV.strip t19)) fun t20 =>
 AA (AI .gtr (.int .i64 a1) t20) fun t21 =>
 j t21)) fun j_2 =>
 ifK (.bool (decide (a1 < 1)))
 (j_2 (.tup []))
 (j_2 (.bool (decide (a1 > 4))))
theorem KL (Ca) (a0 : Nat) (a0o : Nat) (a1 : Int) (S0 Q) : WF C Ca 161 (Drw C Ca 161) Tryz.f161 [(.ptr a0 a0o), (.int .i64 a1)] S0 Q = EZ Ca a0 a0o a1 S0 Q := by kernel_rfl
theorem KF {w0 : World} {a0 : Nat} {a0o : Nat} {a1 : Int} {S0 : St} {Q : AV → St → Prop} (h : EZ (AM (En w0)) a0 a0o a1 S0 Q) : AC w0 DS [(.ptr a0 a0o), (.int .i64 a1)] S0 Q := BW w0 Tryz.func161 (by kernel_rfl) (by rw [KL]; exact h)
def EU (Ca : Nat → List AV → St → (AV → St → Prop) → Prop) (a0 : Nat) (a0o : Nat) (a1 : Int) (S0 : St) (Q : AV → St → Prop) : Prop :=
 AA (Ad AF S0 (.ptr a0 (a0o + 0))) fun t13 =>
 Ca DS [(.ptr a0 a0o), (.int .i64 a1)] S0 fun t17 S =>
 AA (AL t17 0) fun t18 =>
 AA (AL (AN t17 0) 1) fun t19 =>
 AA (unA .not (AV.strip t19)) fun t21 =>
 AJ (fun (x29 : AV) =>
 AA (Aa (AV.strip t21) (.bool true) x29) fun t30 =>
 ifK (AV.strip t30)
 (AA (Bk AF S (.ptr a0 (a0o + 0)) (AV.strip (AV.strip t13))) fun S_2 =>
 Q (.tup [(.str []), (.bool false)]) S_2)
 (AA (Ad AF S (.ptr a0 (a0o + 0))) fun t38 =>
 AA (Ba (AV.strip0 t38) none (some (AV.strip t18))) fun t40 =>
 AA (Ad AF (stripMem S (.ptr a0 (a0o + 0))) (.ptr a0 (a0o + 0))) fun t45 =>
 AA (Ba (AV.strip0 t45) (some (AV.strip t18)) none) fun t47 =>
 AA (Bk AF (stripMem (stripMem S (.ptr a0 (a0o + 0))) (.ptr a0 (a0o + 0))) (.ptr a0 (a0o + 0)) t47) fun S_3 =>
 Q (.tup [(AV.flat (AV.strip t40)), (.bool true)]) S_3)) fun j =>
 ifK (AV.strip t21)
 (j (.tup []))
 (AA (Ad AF S (.ptr a0 (a0o + 0))) fun t27 =>
 AA (CM (AV.strip t27)) fun t28 =>
 AA (AI .gtr (AV.strip t18) t28) fun t29 =>
 j t29)
theorem KG (Ca) (a0 : Nat) (a0o : Nat) (a1 : Int) (S0 Q) : WF C Ca 162 (Drw C Ca 162) Tryz.f162 [(.ptr a0 a0o), (.int .i64 a1)] S0 Q = EU Ca a0 a0o a1 S0 Q := by kernel_rfl
theorem KI {w0 : World} {a0 : Nat} {a0o : Nat} {a1 : Int} {S0 : St} {Q : AV → St → Prop} (h : EU (AM (En w0)) a0 a0o a1 S0 Q) : AC w0 Eb [(.ptr a0 a0o), (.int .i64 a1)] S0 Q := BW w0 Tryz.func162 (by kernel_rfl) (by rw [KG]; exact h)
def DR (Ca : Nat → List AV → St → (AV → St → Prop) → Prop) (a0 : Nat) (a0o : Nat) (a1 : List UInt8) (S0 : St) (Q : AV → St → Prop) : Prop :=
 Ca Da [(.str a1), (.str [32])] S0 fun t16 S =>
 AA (Ad Aj S (.ptr a0 (a0o + 6))) fun t20 =>
 AA (AI .eql (AV.strip t20) (.int .i64 0)) fun t21 =>
 ifK t21
 (AA (Cm AF t16 (some (.int .i64 1)) none none) fun t24 =>
 Az Ca Ey [t24] S fun t25 S_2 =>
 AA (AL t25 0) fun t26 =>
 AA (AL (AN t25 0) 1) fun t27 =>
 AA (Aq AF (AV.strip (AV.strip t16)) (.int .i64 0)) fun t29 =>
 AA (Ad AF S_2 t29) fun t30 =>
 AA (AI .neq (AV.strip t30) (.str [114, 111, 111, 109])) fun t31 =>
 AJ (fun (x35 : AV) =>
 AA (Aa (AV.strip t31) (.bool true) x35) fun t36 =>
 AJ (fun (x39 : AV) =>
 AA (Aa (AV.strip (AV.strip t36)) (.bool true) x39) fun t40 =>
 ifK (AV.strip t40)
 (Q (.bool false) S_2)
 (AA (Aq Aj (AV.strip t26) (.int .i64 0)) fun t44 =>
 AA (Ad Aj S_2 t44) fun t45 =>
 AA (Aq Aj (AV.strip t26) (.int .i64 1)) fun t47 =>
 AA (Ad Aj S_2 t47) fun t48 =>
 AA (Aq Aj (AV.strip t26) (.int .i64 2)) fun t50 =>
 AA (Ad Aj S_2 t50) fun t51 =>
 AA (EY B3 1 [(0, (AV.strip t45)), (1, (AV.strip t48)), (2, (AV.strip t51))]) fun t52 =>
 AA (Bk B3 S_2 (.ptr a0 ((a0o + 0) + 0)) t52) fun S_3 =>
 AA (Bk Aj S_3 (.ptr a0 (a0o + 6)) (.int .i64 1)) fun S_4 =>
 Q (.bool true) S_4)) fun j =>
 ifK (AV.strip (AV.strip t36))
 (j (.tup []))
 (AA (unA .not (AV.strip t27)) fun t39 =>
 j t39)) fun j_2 =>
 ifK (AV.strip t31)
 (j_2 (.tup []))
 (AA (A7 (AV.strip t26)) fun t34 =>
 AA (AI .neq t34 (.int .i64 3)) fun t35 =>
 j_2 t35))
 (AA (Ad Aj S (.ptr a0 (a0o + 6))) fun t62 =>
 AA (AI .lss (AV.strip t62) (.int .i64 3)) fun t63 =>
 AJ (fun (x68 : AV) =>
 AA (Aa (AV.strip t63) x68 (.bool false)) fun t69 =>
 AJ (fun (x73 : AV) =>
 AA (Aa (AV.strip (AV.strip t69)) x73 (.bool false)) fun t74 =>
 ifK (AV.strip t74)
 (AA (Aq AF (AV.strip t16) (.int .i64 1)) fun t77 =>
 AA (Ad AF S t77) fun t78 =>
 Az Ca GI [(AV.strip t78)] S fun t79 S_5 =>
 AA (AL t79 0) fun t80 =>
 AA (AL (AN t79 0) 1) fun t81 =>
 AA (Ad A1 S_5 (.ptr a0 ((a0o + 0) + 3))) fun t88 =>
 AA (Bm 1 [(AV.strip t80)]) fun e90 =>
 AA (Ao AF (stripMem S_5 (.ptr a0 ((a0o + 0) + 3))) (AV.strip0 t88) (.vs 1 e90 .full)) fun t91 =>
 AA (Bk A1 (stripMem S_5 (.ptr a0 ((a0o + 0) + 3))) (.ptr a0 ((a0o + 0) + 3)) t91) fun S_6 =>
 AA (Bk Aj S_6 (.ptr a0 (a0o + 6)) (.int .i64 2)) fun S_7 =>
 Q (AV.strip t81) S_7)
 (AA (Ad Aj S (.ptr a0 (a0o + 6))) fun t102 =>
 AA (AI .lss (AV.strip t102) (.int .i64 4)) fun t103 =>
 AJ (fun (x106 : AV) =>
 AA (Aa (AV.strip t103) x106 (.bool false)) fun t107 =>
 ifK (AV.strip t107)
 (AA (Ad Bi S (.ptr a0 ((a0o + 0) + 4))) fun t114 =>
 AA (appendR BS (stripMem S (.ptr a0 ((a0o + 0) + 4))) (AV.strip0 t114) (.vs 1 [[(.vs 6 [] .nil)]] .full)) fun p116 =>
 AA (Bk Bi p116.2 (.ptr a0 ((a0o + 0) + 4)) p116.1) fun S_8 =>
 AA (Bk Aj S_8 (.ptr a0 (a0o + 6)) (.int .i64 3)) fun S_9 =>
 Q (.bool true) S_9)
 (AA (Ad Aj S (.ptr a0 (a0o + 6))) fun t126 =>
 AA (AI .lss (AV.strip t126) (.int .i64 4)) fun t127 =>
 AJ (fun (x132 : AV) =>
 AA (Aa (AV.strip t127) x132 (.bool false)) fun t133 =>
 AJ (fun (x137 : AV) =>
 AA (Aa (AV.strip (AV.strip t133)) x137 (.bool false)) fun t138 =>
 ifK (AV.strip t138)
 (AA (Cm AF t16 (some (.int .i64 1)) none none) fun t141 =>
 Az Ca Ey [t141] S fun t142 S_10 =>
 AA (AL t142 0) fun t143 =>
 AA (AL (AN t142 0) 1) fun t144 =>
 AA (Bk HL S_10 (.ptr a0 ((a0o + 0) + 5)) (AV.strip t143)) fun S_11 =>
 AA (Bk Aj S_11 (.ptr a0 (a0o + 6)) (.int .i64 4)) fun S_12 =>
 Q (AV.strip t144) S_12)
 (Ca IW [(.str a1)] S fun t156 S_13 =>
 AA (AL t156 0) fun t157 =>
 AA (AL (AN t156 0) 1) fun t158 =>
 AA (AP Bl (some [(.int .i64 0), (.str []), (.int .i64 0), (.int .i64 0), (.int .i64 0), (.str [])]) 0 t157) fun b12 =>
 AA (unA .not (AV.strip t158)) fun t160 =>
 AJ (fun (x166 : AV) =>
 AA (Aa (AV.strip t160) (.bool true) x166) fun t167 =>
 ifK (AV.strip t167)
 (Q (.bool false) S_13)
 (AA (Ad Bi S_13 (.ptr a0 ((a0o + 0) + 4))) fun t172 =>
 AA (A7 (AV.strip t172)) fun t173 =>
 AA (AI .sub t173 (.int .i64 1)) fun t174 =>
 AA (Ad Bi S_13 (.ptr a0 ((a0o + 0) + 4))) fun t179 =>
 AA (Ad Bi S_13 (.ptr a0 ((a0o + 0) + 4))) fun t185 =>
 AA (Aq BS (AV.strip t185) (AV.strip t174)) fun t187 =>
 AA (AG Bl (some b12) 0) fun t189 =>
 AA (Bm 6 [(AV.strip t189)]) fun e190 =>
 AA (Ad BS S_13 t187) fun t188 =>
 (AA (Ad Bi (stripMem S_13 t187) (.ptr a0 ((a0o + 0) + 4))) fun t179_2 =>
 ((AV.strip t179_2) : AV) = (AV.strip t179)) ∧
 (AA (Ao Bl (stripMem S_13 t187) (AV.strip0 t188) (.vs 6 e190 .full)) fun t191 =>
 AA (Aq BS (AV.strip t179) (AV.strip t174)) fun t192 =>
 AA (Bk BS (stripMem S_13 t187) t192 t191) fun S_14 =>
 Q (.bool true) S_14))) fun j_8 =>
 ifK (AV.strip t160)
 (j_8 (.tup []))
 (AA (Ad Aj S_13 (.ptr a0 (a0o + 6))) fun t165 =>
 AA (AI .neq (AV.strip t165) (.int .i64 3)) fun t166 =>
 j_8 t166))) fun j_3 =>
 ifK (AV.strip (AV.strip t133))
 (AA (A7 (AV.strip t16)) fun t136 =>
 AA (AI .gtr t136 (.int .i64 1)) fun t137 =>
 j_3 t137)
 (j_3 (.tup []))) fun j_4 =>
 ifK (AV.strip t127)
 (AA (Aq AF (AV.strip t16) (.int .i64 0)) fun t130 =>
 AA (Ad AF S t130) fun t131 =>
 AA (AI .eql (AV.strip t131) (.str [112, 105, 99, 107])) fun t132 =>
 j_4 t132)
 (j_4 (.tup [])))) fun j_5 =>
 ifK (AV.strip t103)
 (j_5 (.bool (a1 == [99, 108, 105, 101, 110, 116])))
 (j_5 (.tup [])))) fun j_6 =>
 ifK (AV.strip (AV.strip t69))
 (AA (A7 (AV.strip t16)) fun t72 =>
 AA (AI .eql t72 (.int .i64 2)) fun t73 =>
 j_6 t73)
 (j_6 (.tup []))) fun j_7 =>
 ifK (AV.strip t63)
 (AA (Aq AF (AV.strip t16) (.int .i64 0)) fun t66 =>
 AA (Ad AF S t66) fun t67 =>
 AA (AI .eql (AV.strip t67) (.str [105, 109, 97, 103, 101])) fun t68 =>
 j_7 t68)
 (j_7 (.tup [])))
theorem H0 (Ca) (a0 : Nat) (a0o : Nat) (a1 : List UInt8) (S0 Q) : WF C0 Ca 86 (Drw C0 Ca 86) Tryz.f86 [(.ptr a0 a0o), (.str a1)] S0 Q = DR Ca a0 a0o a1 S0 Q := by kernel_rfl
theorem H8 {w0 : World} {a0 : Nat} {a0o : Nat} {a1 : List UInt8} {S0 : St} {Q : AV → St → Prop} (h : DR (AM (En w0)) a0 a0o a1 S0 Q) : AC w0 Dl [(.ptr a0 a0o), (.str a1)] S0 Q := bA w0 Tryz.func86 (by kernel_rfl) (by rw [H0]; exact h)
end Go.Av
