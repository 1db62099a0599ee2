/- Parts of the proofs of this seat: abstract values over the model, and what the functions of the program do. No condition. -/
import Derived.Test.YtdjfhghokfiieaaDoorM7
import Derived.Test.YtdjfhghokfiieaaDoorM6
import Derived.Test.YtdjfhghokfiieaaDoorProg
import Derived.KernelRfl
set_option linter.all false
set_option maxRecDepth 100000
namespace Go.Av
open Go.Proofs
abbrev PA : Nat := 3
abbrev HD : Nat := 5
abbrev IQ : Nat := 9
abbrev J9 : Nat := 24
abbrev EE : Nat := 48
abbrev BE : Nat := 73
abbrev Hw : Nat := 81
abbrev Bc : Nat := 83
abbrev D1 : Nat := 7
abbrev Ep : Nat := 8
abbrev F8 : Nat := 10
abbrev Ft : Nat := 11
abbrev F1 : Nat := 12
abbrev EI : Nat := 13
abbrev Fw : Nat := 14
abbrev Cs : Nat := 15
abbrev BJ : Nat := 16
abbrev E4 : Nat := 17
abbrev Gd : Nat := 20
abbrev DO : Nat := 22
abbrev BY : Nat := 23
abbrev D5 : Nat := 24
abbrev C6 : Nat := 25
abbrev CK : Nat := 26
abbrev Cy : Nat := 27
abbrev EJ : Nat := 28
abbrev Gi : Nat := 29
abbrev E9 : Nat := 30
abbrev El : Nat := 31
abbrev HP : Nat := 32
abbrev Ej : Nat := 33
abbrev EN : Nat := 34
abbrev DQ : Nat := 35
abbrev Fz : Nat := 36
abbrev Cq : Nat := 37
abbrev BL : Nat := 38
abbrev Cv : Nat := 39
abbrev GZ : Nat := 40
abbrev BV : Nat := 41
abbrev Dx : Nat := 42
abbrev CV : Nat := 43
abbrev GP : Nat := 47
abbrev Ch : Nat := 48
abbrev FS : Nat := 51
abbrev CO : Nat := 53
abbrev DW : Nat := 57
def KU : TI := { size := 1, bytes := 8, agg := false, zero := [.nilfn], kind := .func, id := 1 }
@[simp] theorem R6 : KU.size = 1 := rfl
@[simp] theorem VI : KU.agg = false ∧ KU.zero = [.nilfn] ∧ KU.kind = .func := ⟨rfl, rfl, rfl⟩
def IB : TI := { size := 1, bytes := 8, agg := false, zero := [.int .i64 0], kind := .int .i64, id := 2 }
@[simp] theorem R3 : IB.size = 1 := rfl
@[simp] theorem T2 : IB.agg = false ∧ IB.zero = [.int .i64 0] ∧ IB.kind = .int .i64 := ⟨rfl, rfl, rfl⟩
def Af : TI := { size := 1, bytes := 8, agg := false, zero := [.int .i64 0], kind := .int .i64, id := 3 }
@[simp] theorem S8 : Af.size = 1 := rfl
@[simp] theorem Va : Af.agg = false ∧ Af.zero = [.int .i64 0] ∧ Af.kind = .int .i64 := ⟨rfl, rfl, rfl⟩
@[simp] theorem U8 : Af.id = PA := rfl
def K1 : TI := { size := 1, bytes := 1, agg := false, zero := [.bool false], kind := .bool, id := 4 }
@[simp] theorem SE : K1.size = 1 := rfl
@[simp] theorem UX : K1.agg = false ∧ K1.zero = [.bool false] ∧ K1.kind = .bool := ⟨rfl, rfl, rfl⟩
def CN : TI := { size := 1, bytes := 1, agg := false, zero := [.int .u8 0], kind := .int .u8, id := 5 }
@[simp] theorem Rf : CN.size = 1 := rfl
@[simp] theorem T5 : CN.agg = false ∧ CN.zero = [.int .u8 0] ∧ CN.kind = .int .u8 := ⟨rfl, rfl, rfl⟩
@[simp] theorem S6 : CN.id = HD := rfl
def BQ : TI := { size := 1, bytes := 1, agg := false, zero := [.int .u8 0], kind := .int .u8, id := 6 }
@[simp] theorem K5 : BQ.size = 1 := rfl
@[simp] theorem L8 : BQ.agg = false ∧ BQ.zero = [.int .u8 0] ∧ BQ.kind = .int .u8 := ⟨rfl, rfl, rfl⟩
def AR : TI := { size := 4, bytes := 24, agg := true, zero := [.int .i64 0, .int .i64 0, .bool false, .int .u8 0], kind := .struct [(0, 2, 1), (1, 3, 1), (2, 4, 1), (3, 6, 1)], id := 7 }
@[simp] theorem DI : AR.size = 4 := rfl
@[simp] theorem Da : AR.agg = true ∧ AR.zero = [.int .i64 0, .int .i64 0, .bool false, .int .u8 0] ∧ AR.kind = .struct [(0, 2, 1), (1, 3, 1), (2, 4, 1), (3, 6, 1)] := ⟨rfl, rfl, rfl⟩
def BO : TI := { size := 4, bytes := 24, agg := true, zero := [.int .i64 0, .int .i64 0, .bool false, .int .u8 0], kind := .struct [(0, 2, 1), (1, 3, 1), (2, 4, 1), (3, 6, 1)], id := 8 }
@[simp] theorem Kf : BO.size = 4 := rfl
@[simp] theorem Lu : BO.agg = true ∧ BO.zero = [.int .i64 0, .int .i64 0, .bool false, .int .u8 0] ∧ BO.kind = .struct [(0, 2, 1), (1, 3, 1), (2, 4, 1), (3, 6, 1)] := ⟨rfl, rfl, rfl⟩
def AL : TI := { size := 1, bytes := 16, agg := false, zero := [.str []], kind := .str, id := 9 }
@[simp] theorem Q2 : AL.size = 1 := rfl
@[simp] theorem Sq : AL.agg = false ∧ AL.zero = [.str []] ∧ AL.kind = .str := ⟨rfl, rfl, rfl⟩
@[simp] theorem SH : AL.id = IQ := rfl
def BR : TI := { size := 1, bytes := 16, agg := false, zero := [.str []], kind := .str, id := 10 }
@[simp] theorem KX : BR.size = 1 := rfl
@[simp] theorem MF : BR.agg = false ∧ BR.zero = [.str []] ∧ BR.kind = .str := ⟨rfl, rfl, rfl⟩
def FN : TI := { size := 1, bytes := 8, agg := false, zero := [.int .u64 0], kind := .int .u64, id := 12 }
@[simp] theorem Qk : FN.size = 1 := rfl
@[simp] theorem SM : FN.agg = false ∧ FN.zero = [.int .u64 0] ∧ FN.kind = .int .u64 := ⟨rfl, rfl, rfl⟩
def BC : TI := { size := 1, bytes := 8, agg := false, zero := [.nil], kind := .ptr 144, id := 16 }
@[simp] theorem Is : BC.size = 1 := rfl
@[simp] theorem Js : BC.agg = false ∧ BC.zero = [.nil] ∧ BC.kind = .ptr 144 := ⟨rfl, rfl, rfl⟩
def DM : TI := { size := 1, bytes := 8, agg := false, zero := [.nil], kind := .ptr 152, id := 17 }
@[simp] theorem O5 : DM.size = 1 := rfl
@[simp] theorem Qt : DM.agg = false ∧ DM.zero = [.nil] ∧ DM.kind = .ptr 152 := ⟨rfl, rfl, rfl⟩
def D9 : TI := { size := 1, bytes := 16, agg := false, zero := [.nilifc], kind := .iface, id := 20 }
@[simp] theorem PQ : D9.size = 1 := rfl
@[simp] theorem Q5 : D9.agg = false ∧ D9.zero = [.nilifc] ∧ D9.kind = .iface := ⟨rfl, rfl, rfl⟩
def IJ : TI := { size := 1, bytes := 4, agg := false, zero := [.int .i32 0], kind := .int .i32, id := 21 }
@[simp] theorem Rh : IJ.size = 1 := rfl
@[simp] theorem T6 : IJ.agg = false ∧ IJ.zero = [.int .i32 0] ∧ IJ.kind = .int .i32 := ⟨rfl, rfl, rfl⟩
def D4 : TI := { size := 1, bytes := 8, agg := false, zero := [.nilfn], kind := .func, id := 22 }
@[simp] theorem Pa : D4.size = 1 := rfl
@[simp] theorem RK : D4.agg = false ∧ D4.zero = [.nilfn] ∧ D4.kind = .func := ⟨rfl, rfl, rfl⟩
def AS : TI := { size := 6, bytes := 64, agg := true, zero := [.int .i64 0, .str [], .int .i64 0, .int .i64 0, .int .i64 0, .str []], kind := .struct [(0, 3, 1), (1, 9, 1), (2, 3, 1), (3, 3, 1), (4, 3, 1), (5, 9, 1)], id := 23 }
@[simp] theorem DF : AS.size = 6 := rfl
@[simp] theorem DY : AS.agg = true ∧ AS.zero = [.int .i64 0, .str [], .int .i64 0, .int .i64 0, .int .i64 0, .str []] ∧ AS.kind = .struct [(0, 3, 1), (1, 9, 1), (2, 3, 1), (3, 3, 1), (4, 3, 1), (5, 9, 1)] := ⟨rfl, rfl, rfl⟩
def Ad : TI := { size := 6, bytes := 64, agg := true, zero := [.int .i64 0, .str [], .int .i64 0, .int .i64 0, .int .i64 0, .str []], kind := .struct [(0, 3, 1), (1, 9, 1), (2, 3, 1), (3, 3, 1), (4, 3, 1), (5, 9, 1)], id := 24 }
@[simp] theorem Q1 : Ad.size = 6 := rfl
@[simp] theorem Sf : Ad.agg = true ∧ Ad.zero = [.int .i64 0, .str [], .int .i64 0, .int .i64 0, .int .i64 0, .str []] ∧ Ad.kind = .struct [(0, 3, 1), (1, 9, 1), (2, 3, 1), (3, 3, 1), (4, 3, 1), (5, 9, 1)] := ⟨rfl, rfl, rfl⟩
@[simp] theorem SC : Ad.id = J9 := rfl
def BU : TI := { size := 1, bytes := 8, agg := false, zero := [.nilfn], kind := .func, id := 32 }
@[simp] theorem LC : BU.size = 1 := rfl
@[simp] theorem MQ : BU.agg = false ∧ BU.zero = [.nilfn] ∧ BU.kind = .func := ⟨rfl, rfl, rfl⟩
def D6 : TI := { size := 1, bytes := 8, agg := false, zero := [.int .i64 0], kind := .int .i64, id := 37 }
@[simp] theorem Pq : D6.size = 1 := rfl
@[simp] theorem RH : D6.agg = false ∧ D6.zero = [.int .i64 0] ∧ D6.kind = .int .i64 := ⟨rfl, rfl, rfl⟩
def A5 : TI := { size := 1, bytes := 24, agg := false, zero := [.vs 1 [] .nil], kind := .slice 9, id := 38 }
@[simp] theorem Pz : A5.size = 1 := rfl
@[simp] theorem RX : A5.agg = false ∧ A5.zero = [.vs 1 [] .nil] ∧ A5.kind = .slice 9 := ⟨rfl, rfl, rfl⟩
def AO : TI := { size := 8, bytes := 88, agg := true, zero := [.int .i64 0, .int .i64 0, .int .i64 0, .int .i64 0, .int .i64 0, .str [], .vs 1 [] .nil, .bool false], kind := .struct [(0, 37, 1), (1, 3, 1), (2, 3, 1), (3, 3, 1), (4, 3, 1), (5, 9, 1), (6, 38, 1), (7, 4, 1)], id := 39 }
@[simp] theorem DK : AO.size = 8 := rfl
@[simp] theorem Dc : AO.agg = true ∧ AO.zero = [.int .i64 0, .int .i64 0, .int .i64 0, .int .i64 0, .int .i64 0, .str [], .vs 1 [] .nil, .bool false] ∧ AO.kind = .struct [(0, 37, 1), (1, 3, 1), (2, 3, 1), (3, 3, 1), (4, 3, 1), (5, 9, 1), (6, 38, 1), (7, 4, 1)] := ⟨rfl, rfl, rfl⟩
def DV : TI := { size := 8, bytes := 88, agg := true, zero := [.int .i64 0, .int .i64 0, .int .i64 0, .int .i64 0, .int .i64 0, .str [], .vs 1 [] .nil, .bool false], kind := .struct [(0, 37, 1), (1, 3, 1), (2, 3, 1), (3, 3, 1), (4, 3, 1), (5, 9, 1), (6, 38, 1), (7, 4, 1)], id := 40 }
@[simp] theorem O7 : DV.size = 8 := rfl
@[simp] theorem QA : DV.agg = true ∧ DV.zero = [.int .i64 0, .int .i64 0, .int .i64 0, .int .i64 0, .int .i64 0, .str [], .vs 1 [] .nil, .bool false] ∧ DV.kind = .struct [(0, 37, 1), (1, 3, 1), (2, 3, 1), (3, 3, 1), (4, 3, 1), (5, 9, 1), (6, 38, 1), (7, 4, 1)] := ⟨rfl, rfl, rfl⟩
def Ak : TI := { size := 3, bytes := 24, agg := true, zero := [.int .i64 0, .int .i64 0, .int .i64 0], kind := .struct [(0, 3, 1), (1, 3, 1), (2, 3, 1)], id := 43 }
@[simp] theorem FH : Ak.size = 3 := rfl
@[simp] theorem Fy : Ak.agg = true ∧ Ak.zero = [.int .i64 0, .int .i64 0, .int .i64 0] ∧ Ak.kind = .struct [(0, 3, 1), (1, 3, 1), (2, 3, 1)] := ⟨rfl, rfl, rfl⟩
def A0 : TI := { size := 3, bytes := 24, agg := true, zero := [.int .i64 0, .int .i64 0, .int .i64 0], kind := .struct [(0, 3, 1), (1, 3, 1), (2, 3, 1)], id := 44 }
@[simp] theorem OB : A0.size = 3 := rfl
@[simp] theorem PL : A0.agg = true ∧ A0.zero = [.int .i64 0, .int .i64 0, .int .i64 0] ∧ A0.kind = .struct [(0, 3, 1), (1, 3, 1), (2, 3, 1)] := ⟨rfl, rfl, rfl⟩
def AU : TI := { size := 1, bytes := 24, agg := false, zero := [.vs 1 [] .nil], kind := .slice 81, id := 45 }
@[simp] theorem Ov : AU.size = 1 := rfl
@[simp] theorem Qz : AU.agg = false ∧ AU.zero = [.vs 1 [] .nil] ∧ AU.kind = .slice 81 := ⟨rfl, rfl, rfl⟩
def Bq : TI := { size := 1, bytes := 24, agg := false, zero := [.vs 1 [] .nil], kind := .slice 3, id := 46 }
@[simp] theorem Rr : Bq.size = 1 := rfl
@[simp] theorem Tk : Bq.agg = false ∧ Bq.zero = [.vs 1 [] .nil] ∧ Bq.kind = .slice 3 := ⟨rfl, rfl, rfl⟩
def AN : TI := { size := 6, bytes := 96, agg := true, zero := [.int .i64 0, .int .i64 0, .int .i64 0, .vs 1 [] .nil, .vs 1 [] .nil, .vs 1 [] .nil], kind := .struct [(0, 44, 3), (3, 38, 1), (4, 45, 1), (5, 46, 1)], id := 47 }
@[simp] theorem DJ : AN.size = 6 := rfl
@[simp] theorem DZ : AN.agg = true ∧ AN.zero = [.int .i64 0, .int .i64 0, .int .i64 0, .vs 1 [] .nil, .vs 1 [] .nil, .vs 1 [] .nil] ∧ AN.kind = .struct [(0, 44, 3), (3, 38, 1), (4, 45, 1), (5, 46, 1)] := ⟨rfl, rfl, rfl⟩
def AH : TI := { size := 6, bytes := 96, agg := true, zero := [.int .i64 0, .int .i64 0, .int .i64 0, .vs 1 [] .nil, .vs 1 [] .nil, .vs 1 [] .nil], kind := .struct [(0, 44, 3), (3, 38, 1), (4, 45, 1), (5, 46, 1)], id := 48 }
@[simp] theorem NO : AH.size = 6 := rfl
@[simp] theorem PC : AH.agg = true ∧ AH.zero = [.int .i64 0, .int .i64 0, .int .i64 0, .vs 1 [] .nil, .vs 1 [] .nil, .vs 1 [] .nil] ∧ AH.kind = .struct [(0, 44, 3), (3, 38, 1), (4, 45, 1), (5, 46, 1)] := ⟨rfl, rfl, rfl⟩
@[simp] theorem OX : AH.id = EE := rfl
def AQ : TI := { size := 6, bytes := 96, agg := true, zero := [.int .i64 0, .int .i64 0, .int .i64 0, .vs 1 [] .nil, .vs 1 [] .nil, .vs 1 [] .nil], kind := .struct [(0, 3, 1), (1, 3, 1), (2, 3, 1), (3, 38, 1), (4, 45, 1), (5, 46, 1)], id := 52 }
@[simp] theorem DG : AQ.size = 6 := rfl
@[simp] theorem DX : AQ.agg = true ∧ AQ.zero = [.int .i64 0, .int .i64 0, .int .i64 0, .vs 1 [] .nil, .vs 1 [] .nil, .vs 1 [] .nil] ∧ AQ.kind = .struct [(0, 3, 1), (1, 3, 1), (2, 3, 1), (3, 38, 1), (4, 45, 1), (5, 46, 1)] := ⟨rfl, rfl, rfl⟩
def Aq : TI := { size := 6, bytes := 96, agg := true, zero := [.int .i64 0, .int .i64 0, .int .i64 0, .vs 1 [] .nil, .vs 1 [] .nil, .vs 1 [] .nil], kind := .struct [(0, 3, 1), (1, 3, 1), (2, 3, 1), (3, 38, 1), (4, 45, 1), (5, 46, 1)], id := 53 }
@[simp] theorem K9 : Aq.size = 6 := rfl
@[simp] theorem MN : Aq.agg = true ∧ Aq.zero = [.int .i64 0, .int .i64 0, .int .i64 0, .vs 1 [] .nil, .vs 1 [] .nil, .vs 1 [] .nil] ∧ Aq.kind = .struct [(0, 3, 1), (1, 3, 1), (2, 3, 1), (3, 38, 1), (4, 45, 1), (5, 46, 1)] := ⟨rfl, rfl, rfl⟩
def A2 : TI := { size := 1, bytes := 8, agg := false, zero := [.nilfn], kind := .func, id := 56 }
@[simp] theorem Hu : A2.size = 1 := rfl
@[simp] theorem Ig : A2.agg = false ∧ A2.zero = [.nilfn] ∧ A2.kind = .func := ⟨rfl, rfl, rfl⟩
def CF : TI := { size := 10, bytes := 160, agg := true, zero := [.str [], .str [], .str [], .str [], .str [], .str [], .str [], .str [], .str [], .str []], kind := .array 10 9, id := 64 }
@[simp] theorem Pg : CF.size = 10 := rfl
@[simp] theorem RD : CF.agg = true ∧ CF.zero = [.str [], .str [], .str [], .str [], .str [], .str [], .str [], .str [], .str [], .str []] ∧ CF.kind = .array 10 9 := ⟨rfl, rfl, rfl⟩
def Dt : TI := { size := 1, bytes := 24, agg := false, zero := [.vs 1 [] .nil], kind := .slice 5, id := 68 }
@[simp] theorem P5 : Dt.size = 1 := rfl
@[simp] theorem SQ : Dt.agg = false ∧ Dt.zero = [.vs 1 [] .nil] ∧ Dt.kind = .slice 5 := ⟨rfl, rfl, rfl⟩
def J4 : TI := { size := 1, bytes := 8, agg := false, zero := [.int .u64 0], kind := .int .u64, id := 70 }
@[simp] theorem SL : J4.size = 1 := rfl
@[simp] theorem Um : J4.agg = false ∧ J4.zero = [.int .u64 0] ∧ J4.kind = .int .u64 := ⟨rfl, rfl, rfl⟩
def Bf : TI := { size := 1, bytes := 8, agg := false, zero := [.nil], kind := .ptr 73, id := 71 }
@[simp] theorem LZ : Bf.size = 1 := rfl
@[simp] theorem M7 : Bf.agg = false ∧ Bf.zero = [.nil] ∧ Bf.kind = .ptr 73 := ⟨rfl, rfl, rfl⟩
def Ag : TI := { size := 2, bytes := 32, agg := true, zero := [.nil, .vs 1 [] .nil], kind := .struct [(0, 71, 1), (1, 68, 1)], id := 72 }
@[simp] theorem Es : Ag.size = 2 := rfl
@[simp] theorem FI : Ag.agg = true ∧ Ag.zero = [.nil, .vs 1 [] .nil] ∧ Ag.kind = .struct [(0, 71, 1), (1, 68, 1)] := ⟨rfl, rfl, rfl⟩
def BF : TI := { size := 2, bytes := 32, agg := true, zero := [.nil, .vs 1 [] .nil], kind := .struct [(0, 71, 1), (1, 68, 1)], id := 73 }
@[simp] theorem M2 : BF.size = 2 := rfl
@[simp] theorem OH : BF.agg = true ∧ BF.zero = [.nil, .vs 1 [] .nil] ∧ BF.kind = .struct [(0, 71, 1), (1, 68, 1)] := ⟨rfl, rfl, rfl⟩
@[simp] theorem NB : BF.id = BE := rfl
def BG : TI := { size := 1, bytes := 16, agg := false, zero := [.nilifc], kind := .iface, id := 74 }
@[simp] theorem JM : BG.size = 1 := rfl
@[simp] theorem KP : BG.agg = false ∧ BG.zero = [.nilifc] ∧ BG.kind = .iface := ⟨rfl, rfl, rfl⟩
def IR : TI := { size := 1, bytes := 16, agg := false, zero := [.nilifc], kind := .iface, id := 75 }
@[simp] theorem RN : IR.size = 1 := rfl
@[simp] theorem To : IR.agg = false ∧ IR.zero = [.nilifc] ∧ IR.kind = .iface := ⟨rfl, rfl, rfl⟩
def CB : TI := { size := 1, bytes := 8, agg := false, zero := [.nilfn], kind := .func, id := 80 }
@[simp] theorem M6 : CB.size = 1 := rfl
@[simp] theorem Ot : CB.agg = false ∧ CB.zero = [.nilfn] ∧ CB.kind = .func := ⟨rfl, rfl, rfl⟩
def AM : TI := { size := 1, bytes := 24, agg := false, zero := [.vs 6 [] .nil], kind := .slice 24, id := 81 }
@[simp] theorem Pw : AM.size = 1 := rfl
@[simp] theorem RL : AM.agg = false ∧ AM.zero = [.vs 6 [] .nil] ∧ AM.kind = .slice 24 := ⟨rfl, rfl, rfl⟩
@[simp] theorem Q3 : AM.id = Hw := rfl
def Ay : TI := { size := 7, bytes := 104, agg := true, zero := [.int .i64 0, .int .i64 0, .int .i64 0, .vs 1 [] .nil, .vs 1 [] .nil, .vs 1 [] .nil, .int .i64 0], kind := .struct [(0, 48, 6), (6, 3, 1)], id := 82 }
@[simp] theorem HE : Ay.size = 7 := rfl
@[simp] theorem H1 : Ay.agg = true ∧ Ay.zero = [.int .i64 0, .int .i64 0, .int .i64 0, .vs 1 [] .nil, .vs 1 [] .nil, .vs 1 [] .nil, .int .i64 0] ∧ Ay.kind = .struct [(0, 48, 6), (6, 3, 1)] := ⟨rfl, rfl, rfl⟩
def Bd : TI := { size := 7, bytes := 104, agg := true, zero := [.int .i64 0, .int .i64 0, .int .i64 0, .vs 1 [] .nil, .vs 1 [] .nil, .vs 1 [] .nil, .int .i64 0], kind := .struct [(0, 48, 6), (6, 3, 1)], id := 83 }
@[simp] theorem M8 : Bd.size = 7 := rfl
@[simp] theorem PI : Bd.agg = true ∧ Bd.zero = [.int .i64 0, .int .i64 0, .int .i64 0, .vs 1 [] .nil, .vs 1 [] .nil, .vs 1 [] .nil, .int .i64 0] ∧ Bd.kind = .struct [(0, 48, 6), (6, 3, 1)] := ⟨rfl, rfl, rfl⟩
@[simp] theorem OS : Bd.id = Bc := rfl
def Fb : TI := { size := 1, bytes := 8, agg := false, zero := [.nil], kind := .ptr 5, id := 90 }
@[simp] theorem QR : Fb.size = 1 := rfl
@[simp] theorem SO : Fb.agg = false ∧ Fb.zero = [.nil] ∧ Fb.kind = .ptr 5 := ⟨rfl, rfl, rfl⟩
def Bz : TI := { size := 1, bytes := 8, agg := false, zero := [.nil], kind := .ptr 83, id := 92 }
@[simp] theorem Mq : Bz.size = 1 := rfl
@[simp] theorem OI : Bz.agg = false ∧ Bz.zero = [.nil] ∧ Bz.kind = .ptr 83 := ⟨rfl, rfl, rfl⟩
def Gf : TI := { size := 1, bytes := 4, agg := false, zero := [.int .u32 0], kind := .int .u32, id := 121 }
@[simp] theorem Q7 : Gf.size = 1 := rfl
@[simp] theorem TN : Gf.agg = false ∧ Gf.zero = [.int .u32 0] ∧ Gf.kind = .int .u32 := ⟨rfl, rfl, rfl⟩
def A6 : TI := { size := 0, bytes := 0, agg := true, zero := [], kind := .array 0 16, id := 142 }
@[simp] theorem H4 : A6.size = 0 := rfl
@[simp] theorem I8 : A6.agg = true ∧ A6.zero = [] ∧ A6.kind = .array 0 16 := ⟨rfl, rfl, rfl⟩
def Ar : TI := { size := 0, bytes := 0, agg := true, zero := [], kind := .struct [(0, 142, 0)], id := 143 }
@[simp] theorem GH : Ar.size = 0 := rfl
@[simp] theorem HI : Ar.agg = true ∧ Ar.zero = [] ∧ Ar.kind = .struct [(0, 142, 0)] := ⟨rfl, rfl, rfl⟩
def BI : TI := { size := 0, bytes := 0, agg := true, zero := [], kind := .struct [(0, 142, 0)], id := 144 }
@[simp] theorem Ji : BI.size = 0 := rfl
@[simp] theorem LA : BI.agg = true ∧ BI.zero = [] ∧ BI.kind = .struct [(0, 142, 0)] := ⟨rfl, rfl, rfl⟩
def D7 : TI := { size := 1, bytes := 1, agg := false, zero := [.int .u8 0], kind := .int .u8, id := 146 }
@[simp] theorem Pp : D7.size = 1 := rfl
@[simp] theorem Q9 : D7.agg = false ∧ D7.zero = [.int .u8 0] ∧ D7.kind = .int .u8 := ⟨rfl, rfl, rfl⟩
def Eg : TI := { size := 1, bytes := 1, agg := false, zero := [.int .u8 0], kind := .int .u8, id := 147 }
@[simp] theorem P0 : Eg.size = 1 := rfl
@[simp] theorem RM : Eg.agg = false ∧ Eg.zero = [.int .u8 0] ∧ Eg.kind = .int .u8 := ⟨rfl, rfl, rfl⟩
def Ah : TI := { size := 1, bytes := 8, agg := false, zero := [.nilfn], kind := .func, id := 148 }
@[simp] theorem FD : Ah.size = 1 := rfl
@[simp] theorem Fe : Ah.agg = false ∧ Ah.zero = [.nilfn] ∧ Ah.kind = .func := ⟨rfl, rfl, rfl⟩
def Cu : TI := { size := 1, bytes := 4, agg := false, zero := [.int .i32 0], kind := .int .i32, id := 149 }
@[simp] theorem Oi : Cu.size = 1 := rfl
@[simp] theorem Pv : Cu.agg = false ∧ Cu.zero = [.int .i32 0] ∧ Cu.kind = .int .i32 := ⟨rfl, rfl, rfl⟩
def Ct : TI := { size := 1, bytes := 4, agg := false, zero := [.int .i32 0], kind := .int .i32, id := 150 }
@[simp] theorem Od : Ct.size = 1 := rfl
@[simp] theorem Py : Ct.agg = false ∧ Ct.zero = [.int .i32 0] ∧ Ct.kind = .int .i32 := ⟨rfl, rfl, rfl⟩
def AP : TI := { size := 11, bytes := 48, agg := true, zero := [.int .u64 0, .int .u64 0, .int .u32 0, .int .u8 0, .int .u8 0, .int .u8 0, .int .u8 0, .nilfn, .nil, .int .i32 0, .int .i32 0], kind := .struct [(0, 12, 1), (1, 12, 1), (2, 121, 1), (3, 146, 1), (4, 5, 1), (5, 5, 1), (6, 147, 1), (7, 148, 1), (8, 90, 1), (9, 149, 1), (10, 150, 1)], id := 151 }
@[simp] theorem DH : AP.size = 11 := rfl
@[simp] theorem Db : AP.agg = true ∧ AP.zero = [.int .u64 0, .int .u64 0, .int .u32 0, .int .u8 0, .int .u8 0, .int .u8 0, .int .u8 0, .nilfn, .nil, .int .i32 0, .int .i32 0] ∧ AP.kind = .struct [(0, 12, 1), (1, 12, 1), (2, 121, 1), (3, 146, 1), (4, 5, 1), (5, 5, 1), (6, 147, 1), (7, 148, 1), (8, 90, 1), (9, 149, 1), (10, 150, 1)] := ⟨rfl, rfl, rfl⟩
def Eh : TI := { size := 11, bytes := 48, agg := true, zero := [.int .u64 0, .int .u64 0, .int .u32 0, .int .u8 0, .int .u8 0, .int .u8 0, .int .u8 0, .nilfn, .nil, .int .i32 0, .int .i32 0], kind := .struct [(0, 12, 1), (1, 12, 1), (2, 121, 1), (3, 146, 1), (4, 5, 1), (5, 5, 1), (6, 147, 1), (7, 148, 1), (8, 90, 1), (9, 149, 1), (10, 150, 1)], id := 152 }
@[simp] theorem Px : Eh.size = 11 := rfl
@[simp] theorem Rm : Eh.agg = true ∧ Eh.zero = [.int .u64 0, .int .u64 0, .int .u32 0, .int .u8 0, .int .u8 0, .int .u8 0, .int .u8 0, .nilfn, .nil, .int .i32 0, .int .i32 0] ∧ Eh.kind = .struct [(0, 12, 1), (1, 12, 1), (2, 121, 1), (3, 146, 1), (4, 5, 1), (5, 5, 1), (6, 147, 1), (7, 148, 1), (8, 90, 1), (9, 149, 1), (10, 150, 1)] := ⟨rfl, rfl, rfl⟩
def R2 : Nat → TI
 | 1 => KU
 | 2 => IB
 | 3 => Af
 | 4 => K1
 | 5 => CN
 | 6 => BQ
 | 7 => AR
 | 8 => BO
 | 9 => AL
 | 10 => BR
 | 12 => FN
 | 16 => BC
 | 17 => DM
 | 20 => D9
 | 21 => IJ
 | 22 => D4
 | 23 => AS
 | 24 => Ad
 | 32 => BU
 | 37 => D6
 | 38 => A5
 | 39 => AO
 | 40 => DV
 | 43 => Ak
 | 44 => A0
 | 45 => AU
 | 46 => Bq
 | 47 => AN
 | 48 => AH
 | 52 => AQ
 | 53 => Aq
 | 56 => A2
 | 64 => CF
 | 68 => Dt
 | 70 => J4
 | 71 => Bf
 | 72 => Ag
 | 73 => BF
 | 74 => BG
 | 75 => IR
 | 80 => CB
 | 81 => AM
 | 82 => Ay
 | 83 => Bd
 | 90 => Fb
 | 92 => Bz
 | 121 => Gf
 | 142 => A6
 | 143 => Ar
 | 144 => BI
 | 146 => D7
 | 147 => Eg
 | 148 => Ah
 | 149 => Cu
 | 150 => Ct
 | 151 => AP
 | 152 => Eh
 | n => { size := 0, bytes := 0, agg := false, zero := [], kind := match n with | 0 | 25 | 30 | 33 | 49 | 61 | 66 | 78 | 93 | 99 | 106 | 111 | 119 | 122 => .tuple | _ => .other }
def R9 : Nat → Nat → Bool
 | 3, 3 => true
 | 5, 3 => true
 | 6, 1 => true
 | 6, 5 => true
 | 7, 3 => true
 | 7, 7 => true
 | 7, 9 => true
 | 8, 1 => true
 | 8, 4 => true
 | 9, 1 => true
 | 9, 3 => true
 | 10, 2 => true
 | 11, 1 => true
 | 12, 1 => true
 | 18, 3 => true
 | 19, 3 => true
 | 20, 1 => true
 | 21, 1 => true
 | 21, 3 => true
 | 22, 1 => true
 | 22, 3 => true
 | 23, 2 => true
 | 24, 1 => true
 | 25, 1 => true
 | 25, 2 => true
 | 26, 1 => true
 | 28, 2 => true
 | 28, 3 => true
 | 30, 1 => true
 | 31, 1 => true
 | 31, 9 => true
 | 34, 0 => true
 | 43, 12 => true
 | 47, 6 => true
 | _, _ => false
def QV : Nat → Nat → List Nat × List Nat
 | 5, 6 => ([22], [])
 | 10, 5 => ([24], [2])
 | 11, 2 => ([3], [1])
 | 13, 5 => ([4, 5], [])
 | 14, 5 => ([9], [])
 | 17, 5 => ([3, 4], [])
 | 18, 19 => ([5, 69], [])
 | 19, 19 => ([5, 6], [3])
 | 23, 4 => ([16], [2])
 | 24, 2 => ([3], [1])
 | 24, 5 => ([4], [1])
 | 26, 3 => ([3, 4], [1])
 | 26, 7 => ([3, 5], [1])
 | 26, 11 => ([3, 6], [1])
 | 26, 17 => ([3, 7], [1])
 | 28, 4 => ([44], [2, 3])
 | 28, 10 => ([62], [2, 3])
 | 28, 16 => ([80], [2, 3])
 | 28, 21 => ([102], [2, 3])
 | 30, 5 => ([27], [])
 | 30, 11 => ([3, 38], [])
 | 31, 3 => ([3, 24], [])
 | 31, 8 => ([3, 38], [])
 | 31, 12 => ([3, 46], [])
 | 35, 9 => ([11, 31], [])
 | 47, 4 => ([13], [])
 | 48, 2 => ([0, 9], [])
 | 57, 3 => ([4, 11], [])
 | _, _ => ([], [])
def QO : List Nat := [1, 2, 3, 4, 5, 6, 7, 8, 9, 10, 12, 16, 17, 20, 21, 22, 23, 24, 32, 37, 38, 39, 40, 43, 44, 45, 46, 47, 48, 52, 53, 56, 64, 68, 70, 71, 72, 73, 74, 75, 80, 81, 82, 83, 90, 92, 121, 142, 143, 144, 146, 147, 148, 149, 150, 151, 152]
def Vf : Nat := 11367804867609441144175572909964116273017329662
def NZ (t : Nat) : Bool := Nat.testBit Vf t
def R0 : List Nat := [7, 8, 23, 24, 43, 44]
def Oz : Nat → Bool
 | 7 => true
 | 8 => true
 | 23 => true
 | 24 => true
 | 43 => true
 | 44 => true
 | _ => false
def RU : Nat → Bool
 | _ => false
def Kx (t : Nat) (m : String) : Option Nat :=
 match t with
 | _ => none
def U3 : Nat → Nat → Bool
 | _, _ => false
def C : Ctx := { ty := R2, has := NZ, eqk := Oz, loc := R9, byref := RU, meth := Kx, live := QV, tk := U3 }
@[simp] theorem Vj : C.meth = Kx := rfl
noncomputable def En (w0 : World) : Env := ⟨Tryd.prog, C, w0⟩
theorem Nd {m n t : Nat} (h : Nat.ble (m.log2 + 1) n = true) (c : ¬ t < n) : m.testBit t = false := by
 by_cases h0 : m = 0
 ·rw [h0]; exact Nat.zero_testBit t
 ·exact Nat.testBit_lt_two_pow (Nat.lt_of_lt_of_le ((Nat.log2_lt h0).1 (Nat.le_of_ble_eq_true h)) (Nat.pow_le_pow_right (by decide) (Nat.le_of_not_lt c)))
theorem MA : ∀ t, NZ t = true → QO.elem t = true := by
 intro t h
 by_cases c : t < 153
 ·have h2 := List.all_eq_true.1 (show (List.range 153).all (fun t => !(NZ t) || QO.elem t) = true by kernel_rfl) t (List.mem_range.2 c)
  rw [h] at h2
  simpa using h2
 ·unfold NZ at h
  rw [Nd (n := 153) (by kernel_rfl) c] at h
  cases h
theorem MH : ∀ t, Oz t = true → R0.elem t = true := by
 intro t h
 unfold Oz at h
 split at h <;> first | rfl | cases h
theorem SR : QO.all (fun t => Jt Tryd.prog t (R2 t)) = true := by kernel_rfl
theorem R7 : R0.all (fun t => Gp Tryd.prog t (R2 t).zero) = true := by kernel_rfl
theorem QW : ∀ t m g, Kx t m = some g → ∀ v w, (method (Tryd.prog.types.size + Made.depth) t v m).run Tryd.prog w = .ok (g, v) w := by
 intro t m g h v w
 unfold Kx at h
 cases h
theorem agree (w0 : World) : Agree (En w0) := NV (En w0) QO R0 MA MH SR R7 QW
theorem mixed : Tryd.prog.follows .mixedOrders = true := by kernel_rfl
theorem Nn (w0 : World) : Eu (En w0) (AW (En w0)) := fun _ _ _ _ h => h
theorem F3 (w0 : World) : Bb (AW (En w0)) := fun g xs S Q Q' h hq => ⟨h.1, fun G w hr hro args' hl ha => (h.2 G w hr hro args' hl ha).mono fun e w' ⟨v, r, S', G', h1, h2, h3⟩ => ⟨v, r, S', G', h1, hq _ _ h2, h3⟩⟩
theorem CC (w0 : World) {n : Nat} {fn : Func} (hf : Tryd.prog.funcs[n]? = some fn) (hname : (fn.name == "runtime.NumGoroutine") = false) {args : List AV} {S : St} {Q : AV → St → Prop}
  (h : WF C (AW (En w0)) n (Drw C (AW (En w0)) n) fn args S Q) : AW (En w0) n args S Q :=
 NQ (E := En w0) (agree w0) (Nn w0) (F3 w0) (Lj (agree w0) (Nn w0) (F3 w0) mixed) (NG (F3 w0)) hf hname h
abbrev AC (w0 : World) := AW (En w0)
theorem MM {w0 : World} {g : Nat} {xs : List AV} {S : St} {Q Q' : AV → St → Prop} (h : AC w0 g xs S Q) (hq : ∀ r S', Q r S' → Q' r S') : AC w0 g xs S Q' := F3 w0 g xs S Q Q' h hq
def QU : Nat → Bool
 | 81 => true
 | _ => false
def C0 : Ctx := { ty := R2, has := NZ, eqk := Oz, loc := R9, byref := QU, meth := Kx, live := QV, tk := U3 }
noncomputable def En0 (w0 : World) : Env := ⟨Tryd.prog, C0, w0⟩
theorem QX (w0 : World) : Agree (En0 w0) := NV (En0 w0) QO R0 MA MH SR R7 QW
theorem Sr (w0 : World) {n : Nat} {fn : Func} (hf : Tryd.prog.funcs[n]? = some fn) (hname : (fn.name == "runtime.NumGoroutine") = false) {args : List AV} {S : St} {Q : AV → St → Prop}
  (h : WF C0 (AW (En w0)) n (Drw C0 (AW (En w0)) n) fn args S Q) : AW (En w0) n args S Q :=
 AW.ctx (E := En0 w0) (E' := En w0) rfl rfl (NQ (E := En0 w0) (Ca := AW (En w0)) (QX w0) (fun _ _ _ _ h => AW.ctx (E := En w0) (E' := En0 w0) rfl rfl h) (F3 w0) (Lj (Ca := AW (En w0)) (QX w0) (fun _ _ _ _ h => AW.ctx (E := En w0) (E' := En0 w0) rfl rfl h) (F3 w0) mixed) (NG (F3 w0)) hf hname h)
abbrev Fh := @Tryd.underlying3
abbrev NT := @Tryd.underlying5
abbrev OA := @Tryd.isAgg5
abbrev Ni := @Tryd.sizeOf5
abbrev Nj := @Tryd.zeroValue5
abbrev HC := @Tryd.underlying9
abbrev Pb := @Tryd.underlying24
abbrev NK := @Tryd.underlying38
abbrev Ih := @Tryd.underlying44
abbrev Lc := @Tryd.underlying45
abbrev Qv := @Tryd.underlying46
abbrev Fd := @Tryd.underlying48
abbrev Na := @Tryd.underlying81
theorem TX : Tryd.prog.cellsOf PA = 1 := by kernel_rfl
theorem Pf : Tryd.prog.cellsOf IQ = 1 := by kernel_rfl
theorem PX : Tryd.prog.cellsOf J9 = 6 := by kernel_rfl
theorem Nk : Tryd.prog.cellsOf Hw = 1 := by kernel_rfl
abbrev Iq := @Tryd.func27
abbrev Jf := @Tryd.func29
abbrev Kh := @Tryd.func32
abbrev HL := @Tryd.func33
abbrev Gt := @Tryd.func37
abbrev Jb := @Tryd.func40
abbrev Je := @Tryd.func41
abbrev IM := @Tryd.func51
set_option maxHeartbeats 2000000
open Go.Proofs
def Ce (Ca : Nat → List AV → St → (AV → St → Prop) → Prop) (a0 : List UInt8) (S0 : St) (Q : AV → St → Prop) : Prop :=
 Ca DO [] S0 fun t11 S =>
 AA (unA .not t11) fun t12 =>
 ifK t12
 (Q (.bool false) S)
 (ifK (.bool (decide ((List.length a0 : Int) > 6000)))
 (Q (.bool true) S)
 (Ca BY [(.str a0)] S fun t18 S_2 =>
 AA (AZ t18 0) fun t19 =>
 AA (AZ (AY t18 0) 1) fun t20 =>
 AA (A4 AH (some [(.int .i64 0), (.int .i64 0), (.int .i64 0), (.vs 1 [] .nil), (.vs 1 [] .nil), (.vs 1 [] .nil)]) 0 t19) fun b3 =>
 AA (AF .eql (AV.strip t20) (.int .i64 0)) fun t22 =>
 ifK t22
 (AA (AG AH (some b3) 0) fun t23 =>
 As Ca C6 [(AV.strip t23)] S_2 fun t24 S_3 =>
 As Ca D5 [t24] S_3 fun t25 S_4 =>
 Ab (fun (x31 : AV) (S_7 : St) =>
 AA (Ax (AV.strip t25) x31 (.bool false)) fun t32 =>
 Q (AV.strip t32) S_7) fun j =>
 ifK (AV.strip t25)
 (AA (AG AH (some b3) 0) fun t27 =>
 As Ca C6 [(AV.strip t27)] S_4 fun t28 S_5 =>
 As Ca CK [t28] S_5 fun t29 S_6 =>
 AA (AF .eql t29 (.str a0)) fun t31 =>
 j t31 S_6)
 (j (.tup []) S_4))
 (Ca Cy [(.str a0), (.str [10])] S_2 fun t34 S_8 =>
 AA (AF .lss (AV.strip t20) (.int .i64 1)) fun t36 =>
 Ab (fun (x41 : AV) =>
 AA (Ax (AV.strip t36) (.bool true) x41) fun t42 =>
 Ab (fun (x47 : AV) (S_10 : St) =>
 AA (Ax (AV.strip (AV.strip t42)) (.bool true) x47) fun t48 =>
 ifK (AV.strip t48)
 (Q (.bool false) S_10)
 (AA (AF .eql (AV.strip t20) (.int .i64 1)) fun t50 =>
 ifK t50
 (Q (.bool true) S_10)
 (AA (AF .sub (AV.strip t20) (.int .i64 1)) fun t53 =>
 AA (Bt AL t34 none (some t53) none) fun t54 =>
 As Ca Gi [t54, (.str [10])] S_10 fun t55 S_11 =>
 AA (AF .add t55 (.str [10])) fun t56 =>
 As Ca BY [(AV.strip t56)] S_11 fun t59 S_12 =>
 AA (AZ t59 0) fun t60 =>
 AA (AZ (AY t59 0) 1) fun t61 =>
 AA (A4 AH (some [(.int .i64 0), (.int .i64 0), (.int .i64 0), (.vs 1 [] .nil), (.vs 1 [] .nil), (.vs 1 [] .nil)]) 0 t60) fun b7 =>
 AA (AF .neq (AV.strip t61) (.int .i64 0)) fun t63 =>
 Ab (fun (x69 : AV) (S_15 : St) =>
 AA (Ax (AV.strip t63) (.bool true) x69) fun t70 =>
 ifK (AV.strip t70)
 (Q (.bool false) S_15)
 (AA (AF .sub (AV.strip t20) (.int .i64 1)) fun t75 =>
 AA (Ae AL (AV.strip (AV.strip t34)) t75) fun t76 =>
 AA (Al AL S_15 t76) fun t77 =>
 AA (AF .add (AV.strip t56) (AV.strip t77)) fun t78 =>
 AA (AF .add t78 (.str [10])) fun t79 =>
 As Ca BY [t79] S_15 fun t80 S_16 =>
 AA (AZ t80 0) fun t81 =>
 AA (AZ (AY t80 0) 1) fun t82 =>
 AA (A4 AH (some [(.int .i64 0), (.int .i64 0), (.int .i64 0), (.vs 1 [] .nil), (.vs 1 [] .nil), (.vs 1 [] .nil)]) 0 t81) fun b9 =>
 AA (AF .eql (AV.strip t82) (AV.strip t20)) fun t85 =>
 Ab (fun (x90 : AV) =>
 AA (Ax (AV.strip t85) (.bool true) x90) fun t91 =>
 Q (AV.strip t91) S_16) fun j_5 =>
 ifK (AV.strip t85)
 (j_5 (.tup []))
 (AA (Ao (AV.strip (AV.strip t34))) fun t89 =>
 AA (AF .eql (AV.strip t20) t89) fun t90 =>
 j_5 t90))) fun j_4 =>
 ifK (AV.strip t63)
 (j_4 (.tup []) S_12)
 (AA (AG AH (some b7) 0) fun t65 =>
 As Ca C6 [(AV.strip t65)] S_12 fun t66 S_13 =>
 As Ca CK [t66] S_13 fun t67 S_14 =>
 AA (AF .neq t67 (AV.strip t56)) fun t69 =>
 j_4 t69 S_14)))) fun j_2 =>
 ifK (AV.strip (AV.strip t42))
 (j_2 (.tup []) S_8)
 (AA (AG AH (some b3) 0) fun t44 =>
 As Ca EJ [(AV.strip t44), (.agg [(.int .i64 0), (.int .i64 0), (.int .i64 0), (.vs 1 [] .nil), (.vs 1 [] .nil), (.vs 1 [] .nil)])] S_8 fun t46 S_9 =>
 AA (unA .not t46) fun t47 =>
 j_2 t47 S_9)) fun j_3 =>
 ifK (AV.strip t36)
 (j_3 (.tup []))
 (AA (Ao (AV.strip t34)) fun t40 =>
 AA (AF .gtr (AV.strip t20) t40) fun t41 =>
 j_3 t41))))
theorem GE (Ca) (a0 : List UInt8) (S0 Q) : WF C Ca 7 (Drw C Ca 7) Tryd.f7 [(.str a0)] S0 Q = Ce Ca a0 S0 Q := by kernel_rfl
theorem GF {w0 : World} {a0 : List UInt8} {S0 : St} {Q : AV → St → Prop} (h : Ce (AW (En w0)) a0 S0 Q) : AC w0 D1 [(.str a0)] S0 Q := CC w0 Tryd.func7 (by kernel_rfl) (by rw [GE]; exact h)
def C9 (Ca : Nat → List AV → St → (AV → St → Prop) → Prop) (a0aa : Int) (a0ab : Int) (a0ac : Int) (a0b : List (List AV)) (a0br : Rt) (a0c : List (List AV)) (a0cr : Rt) (a0d : List (List AV)) (a0dr : Rt) (S0 : St) (Q : AV → St → Prop) : Prop :=
 AA (GT AH (.agg [(.int .i64 a0aa), (.int .i64 a0ab), (.int .i64 a0ac), (.vs 1 a0b a0br), (.vs 1 a0c a0cr), (.vs 1 a0d a0dr)])) fun c1 =>
 Ca DO [] S0 fun t6 S =>
 AA (unA .not t6) fun t7 =>
 ifK t7
 (Q (.bool false) S)
 (AA (AG AH (some c1) 0) fun t8 =>
 As Ca E9 [(AV.strip t8)] S fun t9 S_2 =>
 AA (unA .not t9) fun t10 =>
 Ab (fun (x15 : AV) (S_5 : St) =>
 AA (Ax (AV.strip t10) (.bool true) x15) fun t16 =>
 ifK (AV.strip t16)
 (Q (.bool true) S_5)
 (AA (AG AH (some c1) 0) fun t17 =>
 As Ca El [(AV.strip t17)] S_5 fun t18 S_6 =>
 As Ca BY [(AV.strip t18)] S_6 fun t21 S_7 =>
 AA (AZ t21 0) fun t22 =>
 AA (AZ (AY t21 0) 1) fun t23 =>
 AA (A4 AH (some [(.int .i64 0), (.int .i64 0), (.int .i64 0), (.vs 1 [] .nil), (.vs 1 [] .nil), (.vs 1 [] .nil)]) 0 t22) fun b4 =>
 AA (AG AH (some c1) 0) fun t25 =>
 As Ca C6 [(AV.strip t25)] S_7 fun t26 S_8 =>
 As Ca CK [t26] S_8 fun t27 S_9 =>
 AA (AF .eql (AV.strip t18) t27) fun t28 =>
 Ab (fun (x31 : AV) =>
 AA (Ax (AV.strip t28) x31 (.bool false)) fun t32 =>
 Ab (fun (x36 : AV) (S_11 : St) =>
 AA (Ax (AV.strip (AV.strip t32)) x36 (.bool false)) fun t37 =>
 Q (AV.strip t37) S_11) fun j_2 =>
 ifK (AV.strip (AV.strip t32))
 (AA (AG AH (some b4) 0) fun t34 =>
 AA (AG AH (some c1) 0) fun t35 =>
 As Ca EJ [(AV.strip t34), (AV.strip t35)] S_9 fun t36 S_10 =>
 j_2 t36 S_10)
 (j_2 (.tup []) S_9)) fun j_3 =>
 ifK (AV.strip t28)
 (AA (AF .eql (AV.strip t23) (.int .i64 0)) fun t31 =>
 j_3 t31)
 (j_3 (.tup [])))) fun j =>
 ifK (AV.strip t10)
 (j (.tup []) S_2)
 (AA (AG AH (some c1) 0) fun t12 =>
 As Ca C6 [(AV.strip t12)] S_2 fun t13 S_3 =>
 As Ca D5 [t13] S_3 fun t14 S_4 =>
 AA (unA .not t14) fun t15 =>
 j t15 S_4))
theorem HF (Ca) (a0aa : Int) (a0ab : Int) (a0ac : Int) (a0b : List (List AV)) (a0br : Rt) (a0c : List (List AV)) (a0cr : Rt) (a0d : List (List AV)) (a0dr : Rt) (S0 Q) : WF C Ca 8 (Drw C Ca 8) Tryd.f8 [(.agg [(.int .i64 a0aa), (.int .i64 a0ab), (.int .i64 a0ac), (.vs 1 a0b a0br), (.vs 1 a0c a0cr), (.vs 1 a0d a0dr)])] S0 Q = C9 Ca a0aa a0ab a0ac a0b a0br a0c a0cr a0d a0dr S0 Q := by kernel_rfl
theorem HG {w0 : World} {a0aa : Int} {a0ab : Int} {a0ac : Int} {a0b : List (List AV)} {a0br : Rt} {a0c : List (List AV)} {a0cr : Rt} {a0d : List (List AV)} {a0dr : Rt} {S0 : St} {Q : AV → St → Prop} (h : C9 (AW (En w0)) a0aa a0ab a0ac a0b a0br a0c a0cr a0d a0dr S0 Q) : AC w0 Ep [(.agg [(.int .i64 a0aa), (.int .i64 a0ab), (.int .i64 a0ac), (.vs 1 a0b a0br), (.vs 1 a0c a0cr), (.vs 1 a0d a0dr)])] S0 Q := CC w0 Tryd.func8 (by kernel_rfl) (by rw [HF]; exact h)
def Fq (Ca : Nat → List AV → St → (AV → St → Prop) → Prop) (a0 : List UInt8) (S0 : St) (Q : AV → St → Prop) : Prop :=
 Ca HP [(.str a0), (.str [32])] S0 fun t12 S =>
 AA (AZ t12 0) fun t13 =>
 AA (AZ (AY t12 0) 1) fun t14 =>
 AA (AZ (AY (AY t12 0) 1) 2) fun t15 =>
 AA (unA .not (AV.strip t15)) fun t17 =>
 Ab (fun (x20 : AV) (S_3 : St) =>
 AA (Ax (AV.strip t17) (.bool true) x20) fun t21 =>
 ifK (AV.strip t21)
 (Q (.tup [(.agg [(.int .i64 0), (.str []), (.int .i64 0), (.int .i64 0), (.int .i64 0), (.str [])]), (.bool false)]) S_3)
 (Ab (fun (y2_2 : Option (List AV)) (S_6 : St) =>
 Ab (fun (x3 : AV) (y2_3 : Option (List AV)) (S_11 : St) =>
 AA (unA .not (AV.strip x3)) fun t98 =>
 ifK t98
 (AA (A4 Ad y2_3 0 (.agg [(.int .i64 0), (.str []), (.int .i64 0), (.int .i64 0), (.int .i64 0), (.str [])])) fun b2_11 =>
 AA ((AG Ad (some b2_11) 0).map AV.strip) fun r2_2 =>
 Q (.tup [(AV.flat r2_2), (.bool false)]) S_11)
 (AA (AG Ad y2_3 0) fun t100 =>
 AA (A4 Ad y2_3 0 (AV.strip t100)) fun b2_12 =>
 AA ((AG Ad (some b2_12) 0).map AV.strip) fun r2_3 =>
 Q (.tup [(AV.flat r2_3), (.bool true)]) S_11)) fun j_5 =>
 AA y2_2 fun _ =>
 AA (AG Af y2_2 0) fun t39 =>
 AA (AF .eql (AV.strip t39) (.int .i64 0)) fun t43 =>
 ifK t43
 (AA (A4 Ad y2_2 0 (.agg [(.int .i64 0), (.str []), (.int .i64 0), (.int .i64 0), (.int .i64 0), (.str [])])) fun b2_2 =>
 AA ((AG Ad (some b2_2) 0).map AV.strip) fun r2 =>
 Q (.tup [(AV.flat r2), (.bool false)]) S_6)
 (AA (AF .eql (AV.strip t39) (.int .i64 4)) fun t46 =>
 ifK t46
 (As Ca DQ [(AV.strip t14), (.int .i64 2), (.bool true)] S_6 fun t49 S_7 =>
 AA (AZ t49 0) fun t50 =>
 AA (AZ (AY t49 0) 1) fun t51 =>
 AA (AZ (AY (AY t49 0) 1) 2) fun t52 =>
 AA y2_2 fun _ =>
 AA (A4 AL y2_2 1 t51) fun b2_3 =>
 ifK (AV.strip t52)
 (AA (Ae Af (AV.strip t50) (.int .i64 0)) fun t56 =>
 AA (Al Af S_7 t56) fun t57 =>
 AA (Ae Af (AV.strip t50) (.int .i64 1)) fun t59 =>
 AA (Al Af S_7 t59) fun t60 =>
 AA (some b2_3) fun _ =>
 AA (A4 Af (some b2_3) 2 (AV.strip t57)) fun b2_4 =>
 AA (some b2_4) fun _ =>
 AA (A4 Af (some b2_4) 3 (AV.strip t60)) fun b2_5 =>
 j_5 t52 (some b2_5) S_7)
 (j_5 t52 (some b2_3) S_7))
 (AA (AF .eql (AV.strip t39) (.int .i64 6)) fun t64 =>
 ifK t64
 (As Ca DQ [(AV.strip t14), (.int .i64 2), (.bool false)] S_6 fun t67 S_8 =>
 AA (AZ t67 0) fun t68 =>
 AA (AZ (AY t67 0) 1) fun t69 =>
 AA (AZ (AY (AY t67 0) 1) 2) fun t70 =>
 ifK (AV.strip t70)
 (AA (Ae Af (AV.strip t68) (.int .i64 0)) fun t73 =>
 AA (Al Af S_8 t73) fun t74 =>
 AA (Ae Af (AV.strip t68) (.int .i64 1)) fun t76 =>
 AA (Al Af S_8 t76) fun t77 =>
 AA y2_2 fun _ =>
 AA (A4 Af y2_2 4 (AV.strip t74)) fun b2_6 =>
 AA (some b2_6) fun _ =>
 AA (A4 Af (some b2_6) 3 (AV.strip t77)) fun b2_7 =>
 j_5 t70 (some b2_7) S_8)
 (j_5 t70 y2_2 S_8))
 (Ab (fun (x80 : AV) =>
 ifK x80
 (As Ca Cs [(AV.strip t14)] S_6 fun t85 S_9 =>
 AA (AZ t85 0) fun t86 =>
 AA (AZ (AY t85 0) 1) fun t87 =>
 AA y2_2 fun _ =>
 AA (A4 Af y2_2 4 t86) fun b2_8 =>
 j_5 t87 (some b2_8) S_9)
 (AA (AF .eql (AV.strip t39) (.int .i64 8)) fun t90 =>
 ifK t90
 (As Ca EI [(AV.strip t14)] S_6 fun t93 S_10 =>
 AA (AZ t93 0) fun t94 =>
 AA (AZ (AY t93 0) 1) fun t95 =>
 AA y2_2 fun _ =>
 AA (A4 AL y2_2 5 t94) fun b2_9 =>
 j_5 t95 (some b2_9) S_10)
 (AA y2_2 fun _ =>
 AA (A4 AL y2_2 1 (AV.strip t14)) fun b2_10 =>
 j_5 (.bool true) (some b2_10) S_6))) fun j_4 =>
 AA (AF .eql (AV.strip t39) (.int .i64 7)) fun t81 =>
 ifK t81
 (j_4 t81)
 (AA (AF .eql (AV.strip t39) (.int .i64 9)) fun t82 =>
 j_4 t82))))) fun j_6 =>
 Ca EN [] S_3 fun t23 S_4 =>
 Br ([(.int .i64 0)], [(some [(.int .i64 0), (.str []), (.int .i64 0), (.int .i64 0), (.int .i64 0), (.str [])])]) (fun v bx => ([v 24], [bx 2])) (fun nx v bx S_5 =>
 AA (AF .lss (v 24) (.int .i64 10)) fun t25 =>
 ifK t25
 (Ab (fun (y2 : Option (List AV)) =>
 AA (AF .add (v 24) (.int .i64 1)) fun t37 =>
 nx ([(AV.strip t37)], [y2]) S_5) fun j_3 =>
 AA (I2 10 AL t23 (v 24)) fun t27 =>
 AA (AF .gtr (AV.strip (AV.strip (v 24))) (.int .i64 0)) fun t29 =>
 Ab (fun (x33 : AV) =>
 AA (Ax (AV.strip t29) x33 (.bool false)) fun t34 =>
 ifK (AV.strip t34)
 (AA (bx 2) fun _ =>
 AA (A4 Af (bx 2) 0 (AV.strip (AV.strip (v 24)))) fun b2 =>
 j_3 (some b2))
 (j_3 (bx 2))) fun j_2 =>
 ifK (AV.strip t29)
 (AA (AF .eql (AV.strip (AV.strip t27)) (AV.strip t13)) fun t33 =>
 j_2 t33)
 (j_2 (.tup [])))
 (j_6 (bx 2) S_5)) S_4)) fun j =>
 ifK (AV.strip t17)
 (j (.tup []) S)
 (Ca Ej [(.str a0), (.str [10])] S fun t20 S_2 =>
 j t20 S_2)
theorem Lb (Ca) (a0 : List UInt8) (S0 Q) : WF C Ca 10 (Drw C Ca 10) Tryd.f10 [(.str a0)] S0 Q = Fq Ca a0 S0 Q := by kernel_rfl
theorem LH {w0 : World} {a0 : List UInt8} {S0 : St} {Q : AV → St → Prop} (h : Fq (AW (En w0)) a0 S0 Q) : AC w0 F8 [(.str a0)] S0 Q := CC w0 Tryd.func10 (by kernel_rfl) (by rw [Lb]; exact h)
def F6 (Ca : Nat → List AV → St → (AV → St → Prop) → Prop) (a0a : Int) (a0b : List UInt8) (a0c : Int) (a0d : Int) (a0e : Int) (a0f : List UInt8) (S0 : St) (Q : AV → St → Prop) : Prop :=
 AA (GT Ad (.agg [(.int .i64 a0a), (.str a0b), (.int .i64 a0c), (.int .i64 a0d), (.int .i64 a0e), (.str a0f)])) fun c1 =>
 Ab (fun (y1 : Option (List AV)) (S_2 : St) =>
 AA y1 fun _ =>
 AA (AG AL y1 1) fun t22 =>
 AA (AF .eql (AV.strip t22) (.str [])) fun t23 =>
 AA y1 fun _ =>
 AA (AG Af y1 2) fun t25 =>
 AA (AF .eql (AV.strip t25) (.int .i64 0)) fun t26 =>
 AA y1 fun _ =>
 AA (AG Af y1 3) fun t28 =>
 AA (AF .eql (AV.strip t28) (.int .i64 0)) fun t29 =>
 AA y1 fun _ =>
 AA (AG Af y1 4) fun t31 =>
 AA (AF .eql (AV.strip t31) (.int .i64 0)) fun t32 =>
 AA y1 fun _ =>
 AA (AG AL y1 5) fun t34 =>
 AA (AF .eql (AV.strip t34) (.str [])) fun t35 =>
 AA y1 fun _ =>
 AA (AG Af y1 0) fun t37 =>
 Ab (fun (x38 : AV) =>
 ifK x38
 (Ab (fun (x45 : AV) =>
 AA (Ax (AV.strip (AV.strip t26)) x45 (.bool false)) fun t46 =>
 Ab (fun (x48 : AV) =>
 AA (Ax (AV.strip (AV.strip t46)) x48 (.bool false)) fun t49 =>
 Ab (fun (x51 : AV) =>
 AA (Ax (AV.strip (AV.strip t49)) x51 (.bool false)) fun t52 =>
 Q (AV.strip t52) S_2) fun j =>
 ifK (AV.strip (AV.strip t49))
 (j (AV.strip t35))
 (j (.tup []))) fun j_2 =>
 ifK (AV.strip (AV.strip t46))
 (j_2 (AV.strip t32))
 (j_2 (.tup []))) fun j_3 =>
 ifK (AV.strip (AV.strip t26))
 (j_3 (AV.strip t29))
 (j_3 (.tup [])))
 (AA (AF .eql (AV.strip t37) (.int .i64 4)) fun t54 =>
 ifK t54
 (Ab (fun (x57 : AV) =>
 AA (Ax (AV.strip (AV.strip t32)) x57 (.bool false)) fun t58 =>
 Q (AV.strip t58) S_2) fun j_4 =>
 ifK (AV.strip (AV.strip t32))
 (j_4 (AV.strip t35))
 (j_4 (.tup [])))
 (AA (AF .eql (AV.strip t37) (.int .i64 6)) fun t60 =>
 ifK t60
 (Ab (fun (x63 : AV) =>
 AA (Ax (AV.strip (AV.strip t23)) x63 (.bool false)) fun t64 =>
 Ab (fun (x66 : AV) =>
 AA (Ax (AV.strip (AV.strip t64)) x66 (.bool false)) fun t67 =>
 Q (AV.strip t67) S_2) fun j_5 =>
 ifK (AV.strip (AV.strip t64))
 (j_5 (AV.strip t35))
 (j_5 (.tup []))) fun j_6 =>
 ifK (AV.strip (AV.strip t23))
 (j_6 (AV.strip t26))
 (j_6 (.tup [])))
 (Ab (fun (x68 : AV) =>
 ifK x68
 (Ab (fun (x73 : AV) =>
 AA (Ax (AV.strip (AV.strip t23)) x73 (.bool false)) fun t74 =>
 Ab (fun (x76 : AV) =>
 AA (Ax (AV.strip (AV.strip t74)) x76 (.bool false)) fun t77 =>
 Ab (fun (x79 : AV) =>
 AA (Ax (AV.strip (AV.strip t77)) x79 (.bool false)) fun t80 =>
 Q (AV.strip t80) S_2) fun j_7 =>
 ifK (AV.strip (AV.strip t77))
 (j_7 (AV.strip t35))
 (j_7 (.tup []))) fun j_8 =>
 ifK (AV.strip (AV.strip t74))
 (j_8 (AV.strip t29))
 (j_8 (.tup []))) fun j_9 =>
 ifK (AV.strip (AV.strip t23))
 (j_9 (AV.strip t26))
 (j_9 (.tup [])))
 (AA (AF .eql (AV.strip t37) (.int .i64 8)) fun t82 =>
 ifK t82
 (Ab (fun (x85 : AV) =>
 AA (Ax (AV.strip (AV.strip t23)) x85 (.bool false)) fun t86 =>
 Ab (fun (x88 : AV) =>
 AA (Ax (AV.strip (AV.strip t86)) x88 (.bool false)) fun t89 =>
 Ab (fun (x91 : AV) =>
 AA (Ax (AV.strip (AV.strip t89)) x91 (.bool false)) fun t92 =>
 Q (AV.strip t92) S_2) fun j_10 =>
 ifK (AV.strip (AV.strip t89))
 (j_10 (AV.strip t32))
 (j_10 (.tup []))) fun j_11 =>
 ifK (AV.strip (AV.strip t86))
 (j_11 (AV.strip t29))
 (j_11 (.tup []))) fun j_12 =>
 ifK (AV.strip (AV.strip t23))
 (j_12 (AV.strip t26))
 (j_12 (.tup [])))
 (Q (.bool false) S_2))) fun j_13 =>
 AA (AF .eql (AV.strip t37) (.int .i64 7)) fun t69 =>
 ifK t69
 (j_13 t69)
 (AA (AF .eql (AV.strip t37) (.int .i64 9)) fun t70 =>
 j_13 t70))))) fun j_14 =>
 AA (AF .eql (AV.strip t37) (.int .i64 1)) fun t39 =>
 ifK t39
 (j_14 t39)
 (AA (AF .eql (AV.strip t37) (.int .i64 2)) fun t40 =>
 ifK t40
 (j_14 t40)
 (AA (AF .eql (AV.strip t37) (.int .i64 3)) fun t41 =>
 ifK t41
 (j_14 t41)
 (AA (AF .eql (AV.strip t37) (.int .i64 5)) fun t42 =>
 j_14 t42)))) fun j_15 =>
 Br ([(.int .i64 0)], [(some c1)]) (fun v bx => ([v 3], [bx 1])) (fun nx v bx S =>
 AA (bx 1) fun _ =>
 AA (AG AL (bx 1) 1) fun t11 =>
 AA (E3 (AV.strip t11)) fun t12 =>
 AA (AF .lss (AV.strip (v 3)) t12) fun t13 =>
 ifK t13
 (AA (bx 1) fun _ =>
 AA (AG AL (bx 1) 1) fun t17 =>
 AA (Cw (AV.strip t17) (AV.strip (v 3))) fun t19 =>
 AA (AF .eql t19 (.int .u8 10)) fun t20 =>
 ifK t20
 (Q (.bool false) S)
 (AA (AF .add (AV.strip (v 3)) (.int .i64 1)) fun t15 =>
 nx ([t15], [(bx 1)]) S))
 (j_15 (bx 1) S)) S0
theorem LJ (Ca) (a0a : Int) (a0b : List UInt8) (a0c : Int) (a0d : Int) (a0e : Int) (a0f : List UInt8) (S0 Q) : WF C Ca 11 (Drw C Ca 11) Tryd.f11 [(.agg [(.int .i64 a0a), (.str a0b), (.int .i64 a0c), (.int .i64 a0d), (.int .i64 a0e), (.str a0f)])] S0 Q = F6 Ca a0a a0b a0c a0d a0e a0f S0 Q := by kernel_rfl
theorem LL {w0 : World} {a0a : Int} {a0b : List UInt8} {a0c : Int} {a0d : Int} {a0e : Int} {a0f : List UInt8} {S0 : St} {Q : AV → St → Prop} (h : F6 (AW (En w0)) a0a a0b a0c a0d a0e a0f S0 Q) : AC w0 Ft [(.agg [(.int .i64 a0a), (.str a0b), (.int .i64 a0c), (.int .i64 a0d), (.int .i64 a0e), (.str a0f)])] S0 Q := CC w0 Tryd.func11 (by kernel_rfl) (by rw [LJ]; exact h)
def F2 (Ca : Nat → List AV → St → (AV → St → Prop) → Prop) (a0a : Int) (a0b : List UInt8) (a0c : Int) (a0d : Int) (a0e : Int) (a0f : List UInt8) (S0 : St) (Q : AV → St → Prop) : Prop :=
 AA (GT Ad (.agg [(.int .i64 a0a), (.str a0b), (.int .i64 a0c), (.int .i64 a0d), (.int .i64 a0e), (.str a0f)])) fun c1 =>
 AA (some c1) fun _ =>
 AA (AG Af (some c1) 0) fun t5 =>
 AA (AF .lss (AV.strip t5) (.int .i64 1)) fun t6 =>
 Ab (fun (x10 : AV) =>
 AA (Ax (AV.strip t6) (.bool true) x10) fun t11 =>
 ifK (AV.strip t11)
 (Q (.str []) S0)
 (AA (some c1) fun _ =>
 AA (AG Af (some c1) 0) fun t13 =>
 As Ca Fz [(AV.strip t13)] S0 fun t14 S =>
 AA (AF .add t14 (.str [32])) fun t15 =>
 AA (some c1) fun _ =>
 AA (AG Af (some c1) 0) fun t17 =>
 AA (AF .eql (AV.strip t17) (.int .i64 4)) fun t19 =>
 ifK t19
 (AA (some c1) fun _ =>
 AA (AG Af (some c1) 2) fun t22 =>
 AA (some c1) fun _ =>
 AA (AG Af (some c1) 3) fun t27 =>
 AA (some c1) fun _ =>
 AA (AG AL (some c1) 1) fun t32 =>
 As Ca BJ [(AV.strip t22)] S fun t23 S_2 =>
 AA (AF .add (AV.strip t15) t23) fun t24 =>
 AA (AF .add t24 (.str [32])) fun t25 =>
 As Ca BJ [(AV.strip t27)] S_2 fun t28 S_3 =>
 AA (AF .add t25 t28) fun t29 =>
 AA (AF .add t29 (.str [32])) fun t30 =>
 AA (AF .add t30 (AV.strip t32)) fun t33 =>
 Q t33 S_3)
 (AA (AF .eql (AV.strip t17) (.int .i64 6)) fun t35 =>
 ifK t35
 (AA (some c1) fun _ =>
 AA (AG Af (some c1) 4) fun t38 =>
 AA (some c1) fun _ =>
 AA (AG Af (some c1) 3) fun t43 =>
 As Ca BJ [(AV.strip t38)] S fun t39 S_4 =>
 AA (AF .add (AV.strip t15) t39) fun t40 =>
 AA (AF .add t40 (.str [32])) fun t41 =>
 As Ca BJ [(AV.strip t43)] S_4 fun t44 S_5 =>
 AA (AF .add t41 t44) fun t45 =>
 Q t45 S_5)
 (Ab (fun (x46 : AV) =>
 ifK x46
 (AA (some c1) fun _ =>
 AA (AG Af (some c1) 4) fun t51 =>
 As Ca BJ [(AV.strip t51)] S fun t52 S_6 =>
 AA (AF .add (AV.strip t15) t52) fun t53 =>
 Q t53 S_6)
 (AA (AF .eql (AV.strip t17) (.int .i64 8)) fun t55 =>
 ifK t55
 (AA (some c1) fun _ =>
 AA (AG AL (some c1) 5) fun t58 =>
 As Ca E4 [(AV.strip t58)] S fun t59 S_7 =>
 AA (AF .add (AV.strip t15) t59) fun t60 =>
 Q t60 S_7)
 (AA (some c1) fun _ =>
 AA (AG AL (some c1) 1) fun t63 =>
 AA (AF .add (AV.strip t15) (AV.strip t63)) fun t64 =>
 Q t64 S))) fun j_2 =>
 AA (AF .eql (AV.strip t17) (.int .i64 7)) fun t47 =>
 ifK t47
 (j_2 t47)
 (AA (AF .eql (AV.strip t17) (.int .i64 9)) fun t48 =>
 j_2 t48))))) fun j =>
 ifK (AV.strip t6)
 (j (.tup []))
 (AA (some c1) fun _ =>
 AA (AG Af (some c1) 0) fun t9 =>
 AA (AF .gtr (AV.strip t9) (.int .i64 9)) fun t10 =>
 j t10)
theorem LM (Ca) (a0a : Int) (a0b : List UInt8) (a0c : Int) (a0d : Int) (a0e : Int) (a0f : List UInt8) (S0 Q) : WF C Ca 12 (Drw C Ca 12) Tryd.f12 [(.agg [(.int .i64 a0a), (.str a0b), (.int .i64 a0c), (.int .i64 a0d), (.int .i64 a0e), (.str a0f)])] S0 Q = F2 Ca a0a a0b a0c a0d a0e a0f S0 Q := by kernel_rfl
theorem LE {w0 : World} {a0a : Int} {a0b : List UInt8} {a0c : Int} {a0d : Int} {a0e : Int} {a0f : List UInt8} {S0 : St} {Q : AV → St → Prop} (h : F2 (AW (En w0)) a0a a0b a0c a0d a0e a0f S0 Q) : AC w0 F1 [(.agg [(.int .i64 a0a), (.str a0b), (.int .i64 a0c), (.int .i64 a0d), (.int .i64 a0e), (.str a0f)])] S0 Q := CC w0 Tryd.func12 (by kernel_rfl) (by rw [LM]; exact h)
def Fx (Ca : Nat → List AV → St → (AV → St → Prop) → Prop) (a0 : List UInt8) (S0 : St) (Q : AV → St → Prop) : Prop :=
 ifK (.bool (a0 == [45]))
 (Q (.tup [(.str []), (.bool true)]) S0)
 (AA (DA CN false S0 (.int .i64 0) (.int .i64 (IntKind.i64.wrap (Int.tdiv (List.length a0 : Int) 2)))) fun p13 =>
 Ab (fun (x4 : AV) (S_4 : St) =>
 AA (Ba S_4 (AV.strip x4)) fun t45 =>
 Ab (fun (x52 : AV) =>
 AA (Ax (.bool (!(a0 == []))) x52 (.bool false)) fun t53 =>
 Q (.tup [(AV.flat t45), (AV.flat (AV.strip t53))]) S_4) fun j_2 =>
 ifK (.bool (!(a0 == [])))
 (j_2 (.bool ((Int.tmod (List.length a0 : Int) 2) == 0)))
 (j_2 (.tup []))) fun j_3 =>
 Br ([p13.1, (.int .i64 0)], []) (fun v bx => ([v 4, v 5], [])) (fun nx v bx S =>
 AA (AF .add (AV.strip (v 5)) (.int .i64 1)) fun t15 =>
 AA (AF .lss t15 (.int .i64 (List.length a0 : Int))) fun t18 =>
 ifK t18
 (AA (Cw (.str a0) (AV.strip (v 5))) fun t23 =>
 AA (AF .add (AV.strip (v 5)) (.int .i64 1)) fun t27 =>
 AA (Cw (.str a0) t27) fun t28 =>
 As Ca Cq [(.str [48, 49, 50, 51, 52, 53, 54, 55, 56, 57, 97, 98, 99, 100, 101, 102]), t23] S fun t24 S_2 =>
 As Ca Cq [(.str [48, 49, 50, 51, 52, 53, 54, 55, 56, 57, 97, 98, 99, 100, 101, 102]), t28] S_2 fun t29 S_3 =>
 AA (AF .lss (AV.strip t24) (.int .i64 0)) fun t31 =>
 Ab (fun (x34 : AV) =>
 AA (Ax (AV.strip t31) (.bool true) x34) fun t35 =>
 ifK (AV.strip t35)
 (Q (.tup [(.str []), (.bool false)]) S_3)
 (AA (AF .shl (AV.strip t24) (.int .u64 4)) fun t38 =>
 AA (AF .or t38 (AV.strip t29)) fun t40 =>
 AA (Em .u8 t40) fun t41 =>
 AA (Bx 1 [t41]) fun e42 =>
 AA (Bl CN S_3 (v 4) (.vs 1 e42 .full)) fun t43 =>
 AA (AF .add (AV.strip (v 5)) (.int .i64 2)) fun t20 =>
 nx ([t43, t20], []) S_3)) fun j =>
 ifK (AV.strip t31)
 (j (.tup []))
 (AA (AF .lss (AV.strip t29) (.int .i64 0)) fun t34 =>
 j t34))
 (j_3 (v 4) S)) p13.2)
theorem LW (Ca) (a0 : List UInt8) (S0 Q) : WF C Ca 13 (Drw C Ca 13) Tryd.f13 [(.str a0)] S0 Q = Fx Ca a0 S0 Q := by kernel_rfl
theorem LQ {w0 : World} {a0 : List UInt8} {S0 : St} {Q : AV → St → Prop} (h : Fx (AW (En w0)) a0 S0 Q) : AC w0 EI [(.str a0)] S0 Q := CC w0 Tryd.func13 (by kernel_rfl) (by rw [LW]; exact h)
def Hc (Ca : Nat → List AV → St → (AV → St → Prop) → Prop) (a0 : List UInt8) (S0 : St) (Q : AV → St → Prop) : Prop :=
 ifK (.bool (a0 == []))
 (Q (.str [45]) S0)
 (Ab (fun (S_4 : St) =>
 Ca Cv [(.ptr S0.length 0)] S_4 fun t25 S_5 =>
 Q t25 S_5) fun j =>
 Br ([(.int .i64 0)], []) (fun v bx => ([v 9], [])) (fun nx v bx S =>
 AA (AF .lss (v 9) (.int .i64 (List.length a0 : Int))) fun t10 =>
 ifK t10
 (AA (Cw (.str a0) (AV.strip (AV.strip (v 9)))) fun t14 =>
 AA (AF .shr t14 (.int .u64 4)) fun t15 =>
 AA (Cw (.str [48, 49, 50, 51, 52, 53, 54, 55, 56, 57, 97, 98, 99, 100, 101, 102]) t15) fun t16 =>
 As Ca BL [(.ptr S0.length 0), t16] S fun t17 S_2 =>
 AA (Cw (.str a0) (AV.strip (AV.strip (v 9)))) fun t20 =>
 AA (AF .and t20 (.int .u8 15)) fun t21 =>
 AA (Cw (.str [48, 49, 50, 51, 52, 53, 54, 55, 56, 57, 97, 98, 99, 100, 101, 102]) t21) fun t22 =>
 As Ca BL [(.ptr S0.length 0), t22] S_2 fun t23 S_3 =>
 AA (AF .add (v 9) (.int .i64 1)) fun t24 =>
 nx ([(AV.strip t24)], []) S_3)
 (j S)) (S0 ++ [.cells BF.zero BE]))
theorem NL (Ca) (a0 : List UInt8) (S0 Q) : WF C Ca 14 (Drw C Ca 14) Tryd.f14 [(.str a0)] S0 Q = Hc Ca a0 S0 Q := by kernel_rfl
theorem NI {w0 : World} {a0 : List UInt8} {S0 : St} {Q : AV → St → Prop} (h : Hc (AW (En w0)) a0 S0 Q) : AC w0 Fw [(.str a0)] S0 Q := CC w0 Tryd.func14 (by kernel_rfl) (by rw [NL]; exact h)
def FE (Ca : Nat → List AV → St → (AV → St → Prop) → Prop) (a0 : List UInt8) (S0 : St) (Q : AV → St → Prop) : Prop :=
 Ca GZ [(.str a0)] S0 fun t8 S =>
 AA (AZ t8 0) fun t9 =>
 AA (AZ (AY t8 0) 1) fun t10 =>
 AA (HH .ifc .eql (AV.strip t10) .nilifc) fun t13 =>
 Ab (fun (x18 : AV) (S_3 : St) =>
 AA (Ax (AV.strip t13) x18 (.bool false)) fun t19 =>
 Q (.tup [(AV.flat (AV.strip t9)), (AV.flat (AV.strip t19))]) S_3) fun j =>
 ifK (AV.strip t13)
 (As Ca BV [(AV.strip t9)] S fun t16 S_2 =>
 AA (AF .eql t16 (.str a0)) fun t18 =>
 j t18 S_2)
 (j (.tup []) S)
theorem J5 (Ca) (a0 : List UInt8) (S0 Q) : WF C Ca 15 (Drw C Ca 15) Tryd.f15 [(.str a0)] S0 Q = FE Ca a0 S0 Q := by kernel_rfl
theorem Kt {w0 : World} {a0 : List UInt8} {S0 : St} {Q : AV → St → Prop} (h : FE (AW (En w0)) a0 S0 Q) : AC w0 Cs [(.str a0)] S0 Q := CC w0 Tryd.func15 (by kernel_rfl) (by rw [J5]; exact h)
def GQ (Ca : Nat → List AV → St → (AV → St → Prop) → Prop) (a0 : Int) (S0 : St) (Q : AV → St → Prop) : Prop :=
 ifK (.bool (decide (a0 < 0)))
 (AA (Ba S0 (.vs 1 [[(.int .u8 (IntKind.u8.wrap (IntKind.i64.wrap (48 - (Int.tmod a0 10)))))]] .full)) fun t12 =>
 ifK (.bool (decide (a0 > (-10))))
 (AA (AF .add (.str [45]) (AV.strip t12)) fun t16 =>
 Q t16 S0)
 (Ca BJ [(.int .i64 (IntKind.i64.wrap (Int.tdiv a0 10)))] S0 fun t19 S =>
 AA (AF .add t19 (AV.strip t12)) fun t21 =>
 Q t21 S))
 (AA (Ba S0 (.vs 1 [[(.int .u8 (IntKind.u8.wrap (IntKind.i64.wrap (48 + (Int.tmod a0 10)))))]] .full)) fun t27 =>
 ifK (.bool (decide (a0 < 10)))
 (Q (AV.strip t27) S0)
 (Ca BJ [(.int .i64 (IntKind.i64.wrap (Int.tdiv a0 10)))] S0 fun t33 S_2 =>
 AA (AF .add t33 (AV.strip t27)) fun t35 =>
 Q t35 S_2))
theorem MT (Ca) (a0 : Int) (S0 Q) : WF C Ca 16 (Drw C Ca 16) Tryd.f16 [(.int .i64 a0)] S0 Q = GQ Ca a0 S0 Q := by kernel_rfl
theorem Mc {w0 : World} {a0 : Int} {S0 : St} {Q : AV → St → Prop} (h : GQ (AW (En w0)) a0 S0 Q) : AC w0 BJ [(.int .i64 a0)] S0 Q := CC w0 Tryd.func16 (by kernel_rfl) (by rw [MT]; exact h)
def GY (Ca : Nat → List AV → St → (AV → St → Prop) → Prop) (a0 : List UInt8) (S0 : St) (Q : AV → St → Prop) : Prop :=
 ifK (.bool (a0 == []))
 (Q (.str [45]) S0)
 (Ab (fun (x3 : AV) (S_4 : St) =>
 AA (Ba S_4 (AV.strip x3)) fun t30 =>
 Q t30 S_4) fun j =>
 Br ([(.vs 1 [] .full), (.int .i64 0)], []) (fun v bx => ([v 3, v 4], [])) (fun nx v bx S =>
 AA (AF .lss (AV.strip (v 4)) (.int .i64 (List.length a0 : Int))) fun t11 =>
 ifK t11
 (AA (Cw (.str a0) (AV.strip (v 4))) fun t17 =>
 AA (Em .i64 t17) fun t18 =>
 AA (AF .quo t18 (.int .i64 16)) fun t19 =>
 AA (Cw (.str a0) (AV.strip (v 4))) fun t23 =>
 AA (Em .i64 t23) fun t24 =>
 AA (AF .rem t24 (.int .i64 16)) fun t25 =>
 As Ca Dx [t19] S fun t20 S_2 =>
 As Ca Dx [t25] S_2 fun t26 S_3 =>
 AA (Bx 1 [t20, t26]) fun e27 =>
 AA (Bl CN S_3 (v 3) (.vs 1 e27 .full)) fun t28 =>
 AA (AF .add (AV.strip (v 4)) (.int .i64 1)) fun t13 =>
 nx ([t28, t13], []) S_3)
 (j (v 3) S)) S0)
theorem My (Ca) (a0 : List UInt8) (S0 Q) : WF C Ca 17 (Drw C Ca 17) Tryd.f17 [(.str a0)] S0 Q = GY Ca a0 S0 Q := by kernel_rfl
theorem M1 {w0 : World} {a0 : List UInt8} {S0 : St} {Q : AV → St → Prop} (h : GY (AW (En w0)) a0 S0 Q) : AC w0 E4 [(.str a0)] S0 Q := CC w0 Tryd.func17 (by kernel_rfl) (by rw [My]; exact h)
def GJ (Ca : Nat → List AV → St → (AV → St → Prop) → Prop) (a0a : Int) (a0b : List UInt8) (a0c : Int) (a0d : Int) (a0e : Int) (a0f : List UInt8) (S0 : St) (Q : AV → St → Prop) : Prop :=
 AA (GT Ad (.agg [(.int .i64 a0a), (.str a0b), (.int .i64 a0c), (.int .i64 a0d), (.int .i64 a0e), (.str a0f)])) fun c1 =>
 AA (some c1) fun _ =>
 AA (AG Af (some c1) 0) fun t5 =>
 AA (AF .lss (AV.strip t5) (.int .i64 1)) fun t6 =>
 Ab (fun (x10 : AV) =>
 AA (Ax (AV.strip t6) (.bool true) x10) fun t11 =>
 ifK (AV.strip t11)
 (Q (.str []) S0)
 (AA (some c1) fun _ =>
 AA (AG Af (some c1) 0) fun t14 =>
 Ca EN [] S0 fun t12 S =>
 AA (I2 10 AL t12 (AV.strip t14)) fun t15 =>
 AA (AF .add (AV.strip t15) (.str [32])) fun t16 =>
 AA (some c1) fun _ =>
 AA (AG Af (some c1) 0) fun t18 =>
 AA (AF .eql (AV.strip t18) (.int .i64 4)) fun t20 =>
 ifK t20
 (AA (some c1) fun _ =>
 AA (AG Af (some c1) 2) fun t23 =>
 AA (some c1) fun _ =>
 AA (AG Af (some c1) 3) fun t28 =>
 AA (some c1) fun _ =>
 AA (AG AL (some c1) 1) fun t33 =>
 As Ca BV [(AV.strip t23)] S fun t24 S_2 =>
 AA (AF .add (AV.strip t16) t24) fun t25 =>
 AA (AF .add t25 (.str [32])) fun t26 =>
 As Ca BV [(AV.strip t28)] S_2 fun t29 S_3 =>
 AA (AF .add t26 t29) fun t30 =>
 AA (AF .add t30 (.str [32])) fun t31 =>
 AA (AF .add t31 (AV.strip t33)) fun t34 =>
 Q t34 S_3)
 (AA (AF .eql (AV.strip t18) (.int .i64 6)) fun t36 =>
 ifK t36
 (AA (some c1) fun _ =>
 AA (AG Af (some c1) 4) fun t39 =>
 AA (some c1) fun _ =>
 AA (AG Af (some c1) 3) fun t44 =>
 As Ca BV [(AV.strip t39)] S fun t40 S_4 =>
 AA (AF .add (AV.strip t16) t40) fun t41 =>
 AA (AF .add t41 (.str [32])) fun t42 =>
 As Ca BV [(AV.strip t44)] S_4 fun t45 S_5 =>
 AA (AF .add t42 t45) fun t46 =>
 Q t46 S_5)
 (Ab (fun (x47 : AV) =>
 ifK x47
 (AA (some c1) fun _ =>
 AA (AG Af (some c1) 4) fun t52 =>
 As Ca BV [(AV.strip t52)] S fun t53 S_6 =>
 AA (AF .add (AV.strip t16) t53) fun t54 =>
 Q t54 S_6)
 (AA (AF .eql (AV.strip t18) (.int .i64 8)) fun t56 =>
 ifK t56
 (AA (some c1) fun _ =>
 AA (AG AL (some c1) 5) fun t59 =>
 As Ca Fw [(AV.strip t59)] S fun t60 S_7 =>
 AA (AF .add (AV.strip t16) t60) fun t61 =>
 Q t61 S_7)
 (AA (some c1) fun _ =>
 AA (AG AL (some c1) 1) fun t64 =>
 AA (AF .add (AV.strip t16) (AV.strip t64)) fun t65 =>
 Q t65 S))) fun j_2 =>
 AA (AF .eql (AV.strip t18) (.int .i64 7)) fun t48 =>
 ifK t48
 (j_2 t48)
 (AA (AF .eql (AV.strip t18) (.int .i64 9)) fun t49 =>
 j_2 t49))))) fun j =>
 ifK (AV.strip t6)
 (j (.tup []))
 (AA (some c1) fun _ =>
 AA (AG Af (some c1) 0) fun t9 =>
 AA (AF .gtr (AV.strip t9) (.int .i64 9)) fun t10 =>
 j t10)
theorem Mh (Ca) (a0a : Int) (a0b : List UInt8) (a0c : Int) (a0d : Int) (a0e : Int) (a0f : List UInt8) (S0 Q) : WF C Ca 20 (Drw C Ca 20) Tryd.f20 [(.agg [(.int .i64 a0a), (.str a0b), (.int .i64 a0c), (.int .i64 a0d), (.int .i64 a0e), (.str a0f)])] S0 Q = GJ Ca a0a a0b a0c a0d a0e a0f S0 Q := by kernel_rfl
theorem Mx {w0 : World} {a0a : Int} {a0b : List UInt8} {a0c : Int} {a0d : Int} {a0e : Int} {a0f : List UInt8} {S0 : St} {Q : AV → St → Prop} (h : GJ (AW (En w0)) a0a a0b a0c a0d a0e a0f S0 Q) : AC w0 Gd [(.agg [(.int .i64 a0a), (.str a0b), (.int .i64 a0c), (.int .i64 a0d), (.int .i64 a0e), (.str a0f)])] S0 Q := CC w0 Tryd.func20 (by kernel_rfl) (by rw [Mh]; exact h)
def Ed (Ca : Nat → List AV → St → (AV → St → Prop) → Prop) (S0 : St) (Q : AV → St → Prop) : Prop :=
 Ca BY [(.str [114, 111, 111, 109, 32, 49, 32, 50, 32, 51, 10, 99, 108, 105, 101, 110, 116, 10, 99, 108, 111, 115, 101, 32, 53, 10])] S0 fun t6 S =>
 AA (AZ t6 0) fun t7 =>
 AA (AZ (AY t6 0) 1) fun t8 =>
 AA (A4 AH (some [(.int .i64 0), (.int .i64 0), (.int .i64 0), (.vs 1 [] .nil), (.vs 1 [] .nil), (.vs 1 [] .nil)]) 0 t7) fun b1 =>
 Ca BY [(.str [114, 111, 111, 109, 32, 49, 32, 50, 32, 51, 10, 99, 108, 105, 101, 110, 116, 10, 99, 108, 111, 115, 101, 10])] S fun t10 S_2 =>
 AA (AZ t10 0) fun t11 =>
 AA (AZ (AY t10 0) 1) fun t12 =>
 AA (A4 AH (some [(.int .i64 0), (.int .i64 0), (.int .i64 0), (.vs 1 [] .nil), (.vs 1 [] .nil), (.vs 1 [] .nil)]) 0 t11) fun b3 =>
 AA (AF .eql (AV.strip t8) (.int .i64 0)) fun t14 =>
 Ab (fun (x17 : AV) =>
 AA (Ax (AV.strip t14) x17 (.bool false)) fun t18 =>
 Ab (fun (x23 : AV) =>
 AA (Ax (AV.strip (AV.strip t18)) x23 (.bool false)) fun t24 =>
 Ab (fun (x29 : AV) =>
 AA (Ax (AV.strip (AV.strip t24)) x29 (.bool false)) fun t30 =>
 Ab (fun (x37 : AV) =>
 AA (Ax (AV.strip (AV.strip t30)) x37 (.bool false)) fun t38 =>
 Ab (fun (x47 : AV) =>
 AA (Ax (AV.strip (AV.strip t38)) x47 (.bool false)) fun t48 =>
 Q (AV.strip t48) S_2) fun j =>
 ifK (AV.strip (AV.strip t38))
 (AA (some b1) fun _ =>
 AA (AG AU (some b1) 4) fun t41 =>
 AA (Ae AM (AV.strip t41) (.int .i64 0)) fun t42 =>
 AA (Al AM S_2 t42) fun t43 =>
 AA (Ae Ad (AV.strip t43) (.int .i64 0)) fun t44 =>
 AA (Al Ad S_2 t44) fun t45 =>
 AA (HH (.agg Ad.zero) .eql (AV.strip t45) (.agg [(.int .i64 7), (.str []), (.int .i64 0), (.int .i64 0), (.int .i64 5), (.str [])])) fun t47 =>
 j t47)
 (j (.tup []))) fun j_2 =>
 ifK (AV.strip (AV.strip t30))
 (AA (some b1) fun _ =>
 AA (AG AU (some b1) 4) fun t33 =>
 AA (Ae AM (AV.strip t33) (.int .i64 0)) fun t34 =>
 AA (Al AM S_2 t34) fun t35 =>
 AA (Ao (AV.strip t35)) fun t36 =>
 AA (AF .eql t36 (.int .i64 1)) fun t37 =>
 j_2 t37)
 (j_2 (.tup []))) fun j_3 =>
 ifK (AV.strip (AV.strip t24))
 (AA (some b1) fun _ =>
 AA (AG AU (some b1) 4) fun t27 =>
 AA (Ao (AV.strip t27)) fun t28 =>
 AA (AF .eql t28 (.int .i64 1)) fun t29 =>
 j_3 t29)
 (j_3 (.tup []))) fun j_4 =>
 ifK (AV.strip (AV.strip t18))
 (AA (some b1) fun _ =>
 AA (AG A0 (some b1) 0) fun t21 =>
 AA (HH (.agg A0.zero) .eql (AV.strip t21) (.agg [(.int .i64 1), (.int .i64 2), (.int .i64 3)])) fun t23 =>
 j_4 t23)
 (j_4 (.tup []))) fun j_5 =>
 ifK (AV.strip t14)
 (AA (AF .eql (AV.strip t12) (.int .i64 3)) fun t17 =>
 j_5 t17)
 (j_5 (.tup []))
theorem Ja (Ca) (S0 Q) : WF C Ca 22 (Drw C Ca 22) Tryd.f22 [] S0 Q = Ed Ca  S0 Q := by kernel_rfl
theorem Jm {w0 : World} {S0 : St} {Q : AV → St → Prop} (h : Ed (AW (En w0))  S0 Q) : AC w0 DO [] S0 Q := CC w0 Tryd.func22 (by kernel_rfl) (by rw [Ja]; exact h)
def Ee (Ca : Nat → List AV → St → (AV → St → Prop) → Prop) (a0 : List UInt8) (S0 : St) (Q : AV → St → Prop) : Prop :=
 Ca Cy [(.str a0), (.str [10])] S0 fun t9 S =>
 Ab (fun (x4 : AV) (y2 : Option (List AV)) (S_4 : St) =>
 AA (Ao (AV.strip x4)) fun t30 =>
 AA (AF .sub t30 (.int .i64 1)) fun t31 =>
 AA (Ae AL (AV.strip x4) t31) fun t32 =>
 AA (Al AL S_4 t32) fun t33 =>
 AA (AF .neq (AV.strip t33) (.str [])) fun t34 =>
 Ab (fun (x38 : AV) =>
 AA (Ax (AV.strip t34) (.bool true) x38) fun t39 =>
 ifK (AV.strip t39)
 (AA (Ao (AV.strip x4)) fun t42 =>
 AA (A4 AH y2 0 (.agg [(.int .i64 0), (.int .i64 0), (.int .i64 0), (.vs 1 [] .nil), (.vs 1 [] .nil), (.vs 1 [] .nil)])) fun b2_2 =>
 AA ((AG AH (some b2_2) 0).map AV.strip) fun r2_2 =>
 Q (.tup [(AV.flat r2_2), (AV.flat t42)]) S_4)
 (AA (Al AH S_4 (.ptr S.length 0)) fun t44 =>
 AA (A4 AH y2 0 (AV.strip t44)) fun b2_3 =>
 AA ((AG AH (some b2_3) 0).map AV.strip) fun r2_3 =>
 Q (.tup [(AV.flat r2_3), (.int .i64 0)]) S_4)) fun j =>
 ifK (AV.strip t34)
 (j (.tup []))
 (AA (Al Af S_4 (.ptr S.length 6)) fun t37 =>
 AA (AF .eql (AV.strip t37) (.int .i64 0)) fun t38 =>
 j t38)) fun j_2 =>
 AA (Ao (AV.strip (AV.strip t9))) fun t12 =>
 AA (AF .sub t12 (.int .i64 1)) fun t13 =>
 AA (Bt AL t9 none (some t13) none) fun t14 =>
 AA (Ao t14) fun t15 =>
 Br ([(.int .i64 0)], [(some [(.int .i64 0), (.int .i64 0), (.int .i64 0), (.vs 1 [] .nil), (.vs 1 [] .nil), (.vs 1 [] .nil)])]) (fun v bx => ([v 16], [bx 2])) (fun nx v bx S_2 =>
 AA (AF .lss (v 16) t15) fun t17 =>
 ifK t17
 (AA (Ae AL t14 (v 16)) fun t19 =>
 AA (Al AL S_2 t19) fun t20 =>
 As Ca CV [(.ptr S.length 0), (AV.strip (AV.strip t20))] S_2 fun t22 S_3 =>
 AA (unA .not t22) fun t23 =>
 ifK t23
 (AA (AF .add (AV.strip (AV.strip (v 16))) (.int .i64 1)) fun t26 =>
 AA (A4 AH (bx 2) 0 (.agg [(.int .i64 0), (.int .i64 0), (.int .i64 0), (.vs 1 [] .nil), (.vs 1 [] .nil), (.vs 1 [] .nil)])) fun b2 =>
 AA ((AG AH (some b2) 0).map AV.strip) fun r2 =>
 Q (.tup [(AV.flat r2), (AV.flat t26)]) S_3)
 (AA (AF .add (v 16) (.int .i64 1)) fun t27 =>
 nx ([(AV.strip t27)], [(bx 2)]) S_3))
 (j_2 (AV.strip t9) (bx 2) S_2)) (S ++ [.cells Bd.zero Bc])
theorem Jl (Ca) (a0 : List UInt8) (S0 Q) : WF C Ca 23 (Drw C Ca 23) Tryd.f23 [(.str a0)] S0 Q = Ee Ca a0 S0 Q := by kernel_rfl
theorem JW {w0 : World} {a0 : List UInt8} {S0 : St} {Q : AV → St → Prop} (h : Ee (AW (En w0)) a0 S0 Q) : AC w0 BY [(.str a0)] S0 Q := CC w0 Tryd.func23 (by kernel_rfl) (by rw [Jl]; exact h)
def GV (Ca : Nat → List AV → St → (AV → St → Prop) → Prop) (a0a : Int) (a0b : Int) (a0c : Int) (a0d : List (List AV)) (a0dr : Rt) (a0e : List (List AV)) (a0er : Rt) (a0f : List (List AV)) (a0fr : Rt) (S0 : St) (Q : AV → St → Prop) : Prop :=
 AA (GT Aq (.agg [(.int .i64 a0a), (.int .i64 a0b), (.int .i64 a0c), (.vs 1 a0d a0dr), (.vs 1 a0e a0er), (.vs 1 a0f a0fr)])) fun c1 =>
 Ab (fun (S_5 : St) =>
 Q (.bool true) S_5) fun j_2 =>
 Br ([(.int .i64 0)], [(some c1)]) (fun v bx => ([v 3], [bx 1])) (fun nx v bx S =>
 AA (bx 1) fun _ =>
 AA (AG AU (bx 1) 4) fun t7 =>
 AA (Ao (AV.strip t7)) fun t8 =>
 AA (AF .lss (AV.strip (v 3)) t8) fun t9 =>
 ifK t9
 (Ab (fun (y1 : Option (List AV)) (S_4 : St) =>
 AA (AF .add (AV.strip (v 3)) (.int .i64 1)) fun t11 =>
 nx ([t11], [y1]) S_4) fun j =>
 Br ([(.int .i64 0)], [(bx 1)]) (fun v_2 bx_2 => ([v_2 4], [bx_2 1])) (fun nx_2 v_2 bx_2 S_2 =>
 AA (bx_2 1) fun _ =>
 AA (AG AU (bx_2 1) 4) fun t14 =>
 AA (Ae AM (AV.strip t14) (AV.strip (v 3))) fun t16 =>
 AA (Al AM S_2 t16) fun t17 =>
 AA (Ao (AV.strip t17)) fun t18 =>
 AA (AF .lss (AV.strip (v_2 4)) t18) fun t19 =>
 ifK t19
 (AA (bx_2 1) fun _ =>
 AA (AG AU (bx_2 1) 4) fun t23 =>
 AA (Ae AM (AV.strip t23) (AV.strip (v 3))) fun t25 =>
 AA (Al AM S_2 t25) fun t26 =>
 AA (Ae Ad (AV.strip t26) (AV.strip (v_2 4))) fun t28 =>
 AA (Al Ad S_2 t28) fun t29 =>
 As Ca Ft [(AV.strip t29)] S_2 fun t30 S_3 =>
 AA (unA .not t30) fun t31 =>
 ifK t31
 (Q (.bool false) S_3)
 (AA (AF .add (AV.strip (v_2 4)) (.int .i64 1)) fun t21 =>
 nx_2 ([t21], [(bx_2 1)]) S_3))
 (j (bx_2 1) S_2)) S)
 (j_2 S)) S0
theorem Mi (Ca) (a0a : Int) (a0b : Int) (a0c : Int) (a0d : List (List AV)) (a0dr : Rt) (a0e : List (List AV)) (a0er : Rt) (a0f : List (List AV)) (a0fr : Rt) (S0 Q) : WF C Ca 24 (Drw C Ca 24) Tryd.f24 [(.agg [(.int .i64 a0a), (.int .i64 a0b), (.int .i64 a0c), (.vs 1 a0d a0dr), (.vs 1 a0e a0er), (.vs 1 a0f a0fr)])] S0 Q = GV Ca a0a a0b a0c a0d a0dr a0e a0er a0f a0fr S0 Q := by kernel_rfl
theorem Mr {w0 : World} {a0a : Int} {a0b : Int} {a0c : Int} {a0d : List (List AV)} {a0dr : Rt} {a0e : List (List AV)} {a0er : Rt} {a0f : List (List AV)} {a0fr : Rt} {S0 : St} {Q : AV → St → Prop} (h : GV (AW (En w0)) a0a a0b a0c a0d a0dr a0e a0er a0f a0fr S0 Q) : AC w0 D5 [(.agg [(.int .i64 a0a), (.int .i64 a0b), (.int .i64 a0c), (.vs 1 a0d a0dr), (.vs 1 a0e a0er), (.vs 1 a0f a0fr)])] S0 Q := CC w0 Tryd.func24 (by kernel_rfl) (by rw [Mi]; exact h)
def Hm (Ca : Nat → List AV → St → (AV → St → Prop) → Prop) (a0aa : Int) (a0ab : Int) (a0ac : Int) (a0b : List (List AV)) (a0br : Rt) (a0c : List (List AV)) (a0cr : Rt) (a0d : List (List AV)) (a0dr : Rt) (S0 : St) (Q : AV → St → Prop) : Prop :=
 AA (GT AH (.agg [(.int .i64 a0aa), (.int .i64 a0ab), (.int .i64 a0ac), (.vs 1 a0b a0br), (.vs 1 a0c a0cr), (.vs 1 a0d a0dr)])) fun c1 =>
 AA (some c1) fun _ =>
 AA (some c1) fun _ =>
 AA (AG Af (some c1) 0) fun t5 =>
 AA (some c1) fun _ =>
 AA (some c1) fun _ =>
 AA (AG Af (some c1) 1) fun t8 =>
 AA (some c1) fun _ =>
 AA (some c1) fun _ =>
 AA (AG Af (some c1) 2) fun t11 =>
 AA (some c1) fun _ =>
 AA (AG A5 (some c1) 3) fun t13 =>
 AA (some c1) fun _ =>
 AA (AG AU (some c1) 4) fun t15 =>
 AA (some c1) fun _ =>
 AA (AG Bq (some c1) 5) fun t17 =>
 AA (Hh Aq 1 [(0, (AV.strip t5)), (1, (AV.strip t8)), (2, (AV.strip t11)), (3, (AV.strip t13)), (4, (AV.strip t15)), (5, (AV.strip t17))]) fun t18 =>
 AA (A4 Aq (some [(.int .i64 0), (.int .i64 0), (.int .i64 0), (.vs 1 [] .nil), (.vs 1 [] .nil), (.vs 1 [] .nil)]) 0 t18) fun b2 =>
 AA ((AG Aq (some b2) 0).map AV.strip) fun r2 =>
 Q r2 S0
theorem Nf (Ca) (a0aa : Int) (a0ab : Int) (a0ac : Int) (a0b : List (List AV)) (a0br : Rt) (a0c : List (List AV)) (a0cr : Rt) (a0d : List (List AV)) (a0dr : Rt) (S0 Q) : WF C Ca 25 (Drw C Ca 25) Tryd.f25 [(.agg [(.int .i64 a0aa), (.int .i64 a0ab), (.int .i64 a0ac), (.vs 1 a0b a0br), (.vs 1 a0c a0cr), (.vs 1 a0d a0dr)])] S0 Q = Hm Ca a0aa a0ab a0ac a0b a0br a0c a0cr a0d a0dr S0 Q := by kernel_rfl
theorem Ny {w0 : World} {a0aa : Int} {a0ab : Int} {a0ac : Int} {a0b : List (List AV)} {a0br : Rt} {a0c : List (List AV)} {a0cr : Rt} {a0d : List (List AV)} {a0dr : Rt} {S0 : St} {Q : AV → St → Prop} (h : Hm (AW (En w0)) a0aa a0ab a0ac a0b a0br a0c a0cr a0d a0dr S0 Q) : AC w0 C6 [(.agg [(.int .i64 a0aa), (.int .i64 a0ab), (.int .i64 a0ac), (.vs 1 a0b a0br), (.vs 1 a0c a0cr), (.vs 1 a0d a0dr)])] S0 Q := CC w0 Tryd.func25 (by kernel_rfl) (by rw [Nf]; exact h)
def FG (Ca : Nat → List AV → St → (AV → St → Prop) → Prop) (a0a : Int) (a0b : Int) (a0c : Int) (a0d : List (List AV)) (a0dr : Rt) (a0e : List (List AV)) (a0er : Rt) (a0f : List (List AV)) (a0fr : Rt) (S0 : St) (Q : AV → St → Prop) : Prop :=
 AA (GT Aq (.agg [(.int .i64 a0a), (.int .i64 a0b), (.int .i64 a0c), (.vs 1 a0d a0dr), (.vs 1 a0e a0er), (.vs 1 a0f a0fr)])) fun c1 =>
 AA (some c1) fun _ =>
 AA (AG Af (some c1) 0) fun t9 =>
 AA (some c1) fun _ =>
 AA (AG Af (some c1) 1) fun t14 =>
 AA (some c1) fun _ =>
 AA (AG Af (some c1) 2) fun t19 =>
 As Ca BJ [(AV.strip t9)] S0 fun t10 S =>
 AA (AF .add (.str [114, 111, 111, 109, 32]) t10) fun t11 =>
 AA (AF .add t11 (.str [32])) fun t12 =>
 As Ca BJ [(AV.strip t14)] S fun t15 S_2 =>
 AA (AF .add t12 t15) fun t16 =>
 AA (AF .add t16 (.str [32])) fun t17 =>
 As Ca BJ [(AV.strip t19)] S_2 fun t20 S_3 =>
 AA (AF .add t17 t20) fun t21 =>
 AA (AF .add t21 (.str [10])) fun t22 =>
 Ab (fun (x3 : AV) (y1 : Option (List AV)) (S_6 : St) =>
 Ab (fun (x3_3 : AV) (y1_3 : Option (List AV)) (S_11 : St) =>
 Ab (fun (x3_5 : AV) (S_15 : St) =>
 Q (AV.strip x3_5) S_15) fun j_3 =>
 AA y1_3 fun _ =>
 AA (AG Bq y1_3 5) fun t72 =>
 AA (Ao (AV.strip t72)) fun t73 =>
 AA (AF .gtr t73 (.int .i64 0)) fun t74 =>
 ifK t74
 (AA (AF .add (AV.strip x3_3) (.str [112, 105, 99, 107])) fun t76 =>
 Ab (fun (x3_4 : AV) (S_14 : St) =>
 AA (AF .add (AV.strip x3_4) (.str [10])) fun t94 =>
 j_3 t94 S_14) fun j_2 =>
 Br ([t76, (.int .i64 0)], [y1_3]) (fun v_4 bx_4 => ([v_4 3, v_4 7], [bx_4 1])) (fun nx_4 v_4 bx_4 S_12 =>
 AA (bx_4 1) fun _ =>
 AA (AG Bq (bx_4 1) 5) fun t79 =>
 AA (Ao (AV.strip t79)) fun t80 =>
 AA (AF .lss (AV.strip (v_4 7)) t80) fun t81 =>
 ifK t81
 (AA (AF .add (AV.strip (v_4 3)) (.str [32])) fun t85 =>
 AA (bx_4 1) fun _ =>
 AA (AG Bq (bx_4 1) 5) fun t87 =>
 AA (Ae Af (AV.strip t87) (AV.strip (v_4 7))) fun t89 =>
 AA (Al Af S_12 t89) fun t90 =>
 As Ca BJ [(AV.strip t90)] S_12 fun t91 S_13 =>
 AA (AF .add t85 t91) fun t92 =>
 AA (AF .add (AV.strip (v_4 7)) (.int .i64 1)) fun t83 =>
 nx_4 ([t92, t83], [(bx_4 1)]) S_13)
 (j_2 (v_4 3) S_12)) S_11)
 (j_3 x3_3 S_11)) fun j_4 =>
 Br ([x3, (.int .i64 0)], [y1]) (fun v_2 bx_2 => ([v_2 3, v_2 5], [bx_2 1])) (fun nx_2 v_2 bx_2 S_7 =>
 AA (bx_2 1) fun _ =>
 AA (AG AU (bx_2 1) 4) fun t42 =>
 AA (Ao (AV.strip t42)) fun t43 =>
 AA (AF .lss (AV.strip (v_2 5)) t43) fun t44 =>
 ifK t44
 (Ab (fun (x3_2 : AV) (y1_2 : Option (List AV)) (S_10 : St) =>
 AA (AF .add (AV.strip (v_2 5)) (.int .i64 1)) fun t46 =>
 nx_2 ([x3_2, t46], [y1_2]) S_10) fun j =>
 AA (AF .add (AV.strip (v_2 3)) (.str [99, 108, 105, 101, 110, 116, 10])) fun t48 =>
 Br ([t48, (.int .i64 0)], [(bx_2 1)]) (fun v_3 bx_3 => ([v_3 3, v_3 6], [bx_3 1])) (fun nx_3 v_3 bx_3 S_8 =>
 AA (bx_3 1) fun _ =>
 AA (AG AU (bx_3 1) 4) fun t51 =>
 AA (Ae AM (AV.strip t51) (AV.strip (v_2 5))) fun t53 =>
 AA (Al AM S_8 t53) fun t54 =>
 AA (Ao (AV.strip t54)) fun t55 =>
 AA (AF .lss (AV.strip (v_3 6)) t55) fun t56 =>
 ifK t56
 (AA (bx_3 1) fun _ =>
 AA (AG AU (bx_3 1) 4) fun t61 =>
 AA (Ae AM (AV.strip t61) (AV.strip (v_2 5))) fun t63 =>
 AA (Al AM S_8 t63) fun t64 =>
 AA (Ae Ad (AV.strip t64) (AV.strip (v_3 6))) fun t66 =>
 AA (Al Ad S_8 t66) fun t67 =>
 As Ca F1 [(AV.strip t67)] S_8 fun t68 S_9 =>
 AA (AF .add (AV.strip (v_3 3)) t68) fun t69 =>
 AA (AF .add t69 (.str [10])) fun t70 =>
 AA (AF .add (AV.strip (v_3 6)) (.int .i64 1)) fun t58 =>
 nx_3 ([t70, t58], [(bx_3 1)]) S_9)
 (j (v_3 3) (bx_3 1) S_8)) S_7)
 (j_4 (v_2 3) (bx_2 1) S_7)) S_6) fun j_5 =>
 Br ([t22, (.int .i64 0)], [(some c1)]) (fun v bx => ([v 3, v 4], [bx 1])) (fun nx v bx S_4 =>
 AA (bx 1) fun _ =>
 AA (AG A5 (bx 1) 3) fun t25 =>
 AA (Ao (AV.strip t25)) fun t26 =>
 AA (AF .lss (AV.strip (v 4)) t26) fun t27 =>
 ifK t27
 (AA (AF .add (AV.strip (v 3)) (.str [105, 109, 97, 103, 101, 32])) fun t31 =>
 AA (bx 1) fun _ =>
 AA (AG A5 (bx 1) 3) fun t33 =>
 AA (Ae AL (AV.strip t33) (AV.strip (v 4))) fun t35 =>
 AA (Al AL S_4 t35) fun t36 =>
 As Ca E4 [(AV.strip t36)] S_4 fun t37 S_5 =>
 AA (AF .add t31 t37) fun t38 =>
 AA (AF .add t38 (.str [10])) fun t39 =>
 AA (AF .add (AV.strip (v 4)) (.int .i64 1)) fun t29 =>
 nx ([t39, t29], [(bx 1)]) S_5)
 (j_5 (v 3) (bx 1) S_4)) S_3
theorem KN (Ca) (a0a : Int) (a0b : Int) (a0c : Int) (a0d : List (List AV)) (a0dr : Rt) (a0e : List (List AV)) (a0er : Rt) (a0f : List (List AV)) (a0fr : Rt) (S0 Q) : WF C Ca 26 (Drw C Ca 26) Tryd.f26 [(.agg [(.int .i64 a0a), (.int .i64 a0b), (.int .i64 a0c), (.vs 1 a0d a0dr), (.vs 1 a0e a0er), (.vs 1 a0f a0fr)])] S0 Q = FG Ca a0a a0b a0c a0d a0dr a0e a0er a0f a0fr S0 Q := by kernel_rfl
theorem Kw {w0 : World} {a0a : Int} {a0b : Int} {a0c : Int} {a0d : List (List AV)} {a0dr : Rt} {a0e : List (List AV)} {a0er : Rt} {a0f : List (List AV)} {a0fr : Rt} {S0 : St} {Q : AV → St → Prop} (h : FG (AW (En w0)) a0a a0b a0c a0d a0dr a0e a0er a0f a0fr S0 Q) : AC w0 CK [(.agg [(.int .i64 a0a), (.int .i64 a0b), (.int .i64 a0c), (.vs 1 a0d a0dr), (.vs 1 a0e a0er), (.vs 1 a0f a0fr)])] S0 Q := CC w0 Tryd.func26 (by kernel_rfl) (by rw [KN]; exact h)
def Fj (Ca : Nat → List AV → St → (AV → St → Prop) → Prop) (a0aa : Int) (a0ab : Int) (a0ac : Int) (a0b : List (List AV)) (a0br : Rt) (a0c : List (List AV)) (a0cr : Rt) (a0d : List (List AV)) (a0dr : Rt) (a1aa : Int) (a1ab : Int) (a1ac : Int) (a1b : List (List AV)) (a1br : Rt) (a1c : List (List AV)) (a1cr : Rt) (a1d : List (List AV)) (a1dr : Rt) (S0 : St) (Q : AV → St → Prop) : Prop :=
 AA (GT AH (.agg [(.int .i64 a0aa), (.int .i64 a0ab), (.int .i64 a0ac), (.vs 1 a0b a0br), (.vs 1 a0c a0cr), (.vs 1 a0d a0dr)])) fun c2 =>
 AA (GT AH (.agg [(.int .i64 a1aa), (.int .i64 a1ab), (.int .i64 a1ac), (.vs 1 a1b a1br), (.vs 1 a1c a1cr), (.vs 1 a1d a1dr)])) fun c3 =>
 AA (some c2) fun _ =>
 AA (AG A0 (some c2) 0) fun t10 =>
 AA (some c3) fun _ =>
 AA (AG A0 (some c3) 0) fun t12 =>
 AA (HH (.agg A0.zero) .neq (AV.strip t10) (AV.strip t12)) fun t13 =>
 Ab (fun (x21 : AV) =>
 AA (Ax (AV.strip t13) (.bool true) x21) fun t22 =>
 Ab (fun (x30 : AV) =>
 AA (Ax (AV.strip (AV.strip t22)) (.bool true) x30) fun t31 =>
 Ab (fun (x39 : AV) =>
 AA (Ax (AV.strip (AV.strip t31)) (.bool true) x39) fun t40 =>
 ifK (AV.strip t40)
 (Q (.bool false) S0)
 (Ab (fun (y2 : Option (List AV)) (y3 : Option (List AV)) (S_2 : St) =>
 Ab (fun (y2_2 : Option (List AV)) (y3_2 : Option (List AV)) (S_4 : St) =>
 Ab (fun (S_8 : St) =>
 Q (.bool true) S_8) fun j_5 =>
 AA y2_2 fun _ =>
 AA (AG AU y2_2 4) fun t78 =>
 AA (Ao (AV.strip t78)) fun t79 =>
 Br ([(.int .i64 0)], [y2_2, y3_2]) (fun v_3 bx_3 => ([v_3 80], [bx_3 2, bx_3 3])) (fun nx_3 v_3 bx_3 S_5 =>
 AA (AF .lss (v_3 80) t79) fun t81 =>
 ifK t81
 (Ab (fun (y2_3 : Option (List AV)) (y3_3 : Option (List AV)) (S_7 : St) =>
 AA (AF .add (v_3 80) (.int .i64 1)) fun t123 =>
 nx_3 ([(AV.strip t123)], [y2_3, y3_3]) S_7) fun j_4 =>
 AA (bx_3 2) fun _ =>
 AA (AG AU (bx_3 2) 4) fun t84 =>
 AA (Ae AM (AV.strip t84) (AV.strip (AV.strip (v_3 80)))) fun t86 =>
 AA (Al AM S_5 t86) fun t87 =>
 AA (Ao (AV.strip t87)) fun t88 =>
 AA (bx_3 3) fun _ =>
 AA (AG AU (bx_3 3) 4) fun t90 =>
 AA (Ae AM (AV.strip t90) (AV.strip (AV.strip (v_3 80)))) fun t92 =>
 AA (Al AM S_5 t92) fun t93 =>
 AA (Ao (AV.strip t93)) fun t94 =>
 AA (AF .neq t88 t94) fun t95 =>
 ifK t95
 (Q (.bool false) S_5)
 (AA (bx_3 2) fun _ =>
 AA (AG AU (bx_3 2) 4) fun t97 =>
 AA (Ae AM (AV.strip t97) (AV.strip (AV.strip (v_3 80)))) fun t99 =>
 AA (Al AM S_5 t99) fun t100 =>
 AA (Ao (AV.strip t100)) fun t101 =>
 Br ([(.int .i64 0)], [(bx_3 2), (bx_3 3)]) (fun v_4 bx_4 => ([v_4 102], [bx_4 2, bx_4 3])) (fun nx_4 v_4 bx_4 S_6 =>
 AA (AF .lss (v_4 102) t101) fun t103 =>
 ifK t103
 (AA (bx_4 2) fun _ =>
 AA (AG AU (bx_4 2) 4) fun t106 =>
 AA (Ae AM (AV.strip t106) (AV.strip (AV.strip (v_3 80)))) fun t108 =>
 AA (Al AM S_6 t108) fun t109 =>
 AA (Ae Ad (AV.strip t109) (AV.strip (AV.strip (v_4 102)))) fun t111 =>
 AA (Al Ad S_6 t111) fun t112 =>
 AA (bx_4 3) fun _ =>
 AA (AG AU (bx_4 3) 4) fun t114 =>
 AA (Ae AM (AV.strip t114) (AV.strip (AV.strip (v_3 80)))) fun t116 =>
 AA (Al AM S_6 t116) fun t117 =>
 AA (Ae Ad (AV.strip t117) (AV.strip (AV.strip (v_4 102)))) fun t119 =>
 AA (Al Ad S_6 t119) fun t120 =>
 AA (HH (.agg Ad.zero) .neq (AV.strip t112) (AV.strip t120)) fun t121 =>
 ifK t121
 (Q (.bool false) S_6)
 (AA (AF .add (v_4 102) (.int .i64 1)) fun t122 =>
 nx_4 ([(AV.strip t122)], [(bx_4 2), (bx_4 3)]) S_6))
 (j_4 (bx_4 2) (bx_4 3) S_6)) S_5))
 (j_5 S_5)) S_4) fun j_6 =>
 AA y2 fun _ =>
 AA (AG Bq y2 5) fun t60 =>
 AA (Ao (AV.strip t60)) fun t61 =>
 Br ([(.int .i64 0)], [y2, y3]) (fun v_2 bx_2 => ([v_2 62], [bx_2 2, bx_2 3])) (fun nx_2 v_2 bx_2 S_3 =>
 AA (AF .lss (v_2 62) t61) fun t63 =>
 ifK t63
 (AA (bx_2 2) fun _ =>
 AA (AG Bq (bx_2 2) 5) fun t66 =>
 AA (Ae Af (AV.strip t66) (AV.strip (AV.strip (v_2 62)))) fun t68 =>
 AA (Al Af S_3 t68) fun t69 =>
 AA (bx_2 3) fun _ =>
 AA (AG Bq (bx_2 3) 5) fun t71 =>
 AA (Ae Af (AV.strip t71) (AV.strip (AV.strip (v_2 62)))) fun t73 =>
 AA (Al Af S_3 t73) fun t74 =>
 AA (AF .neq (AV.strip t69) (AV.strip t74)) fun t75 =>
 ifK t75
 (Q (.bool false) S_3)
 (AA (AF .add (v_2 62) (.int .i64 1)) fun t76 =>
 nx_2 ([(AV.strip t76)], [(bx_2 2), (bx_2 3)]) S_3))
 (j_6 (bx_2 2) (bx_2 3) S_3)) S_2) fun j_7 =>
 AA (some c2) fun _ =>
 AA (AG A5 (some c2) 3) fun t42 =>
 AA (Ao (AV.strip t42)) fun t43 =>
 Br ([(.int .i64 0)], [(some c2), (some c3)]) (fun v bx => ([v 44], [bx 2, bx 3])) (fun nx v bx S =>
 AA (AF .lss (v 44) t43) fun t45 =>
 ifK t45
 (AA (bx 2) fun _ =>
 AA (AG A5 (bx 2) 3) fun t48 =>
 AA (Ae AL (AV.strip t48) (AV.strip (AV.strip (v 44)))) fun t50 =>
 AA (Al AL S t50) fun t51 =>
 AA (bx 3) fun _ =>
 AA (AG A5 (bx 3) 3) fun t53 =>
 AA (Ae AL (AV.strip t53) (AV.strip (AV.strip (v 44)))) fun t55 =>
 AA (Al AL S t55) fun t56 =>
 AA (AF .neq (AV.strip t51) (AV.strip t56)) fun t57 =>
 ifK t57
 (Q (.bool false) S)
 (AA (AF .add (v 44) (.int .i64 1)) fun t58 =>
 nx ([(AV.strip t58)], [(bx 2), (bx 3)]) S))
 (j_7 (bx 2) (bx 3) S)) S0)) fun j =>
 ifK (AV.strip (AV.strip t31))
 (j (.tup []))
 (AA (some c2) fun _ =>
 AA (AG Bq (some c2) 5) fun t34 =>
 AA (Ao (AV.strip t34)) fun t35 =>
 AA (some c3) fun _ =>
 AA (AG Bq (some c3) 5) fun t37 =>
 AA (Ao (AV.strip t37)) fun t38 =>
 AA (AF .neq t35 t38) fun t39 =>
 j t39)) fun j_2 =>
 ifK (AV.strip (AV.strip t22))
 (j_2 (.tup []))
 (AA (some c2) fun _ =>
 AA (AG AU (some c2) 4) fun t25 =>
 AA (Ao (AV.strip t25)) fun t26 =>
 AA (some c3) fun _ =>
 AA (AG AU (some c3) 4) fun t28 =>
 AA (Ao (AV.strip t28)) fun t29 =>
 AA (AF .neq t26 t29) fun t30 =>
 j_2 t30)) fun j_3 =>
 ifK (AV.strip t13)
 (j_3 (.tup []))
 (AA (some c2) fun _ =>
 AA (AG A5 (some c2) 3) fun t16 =>
 AA (Ao (AV.strip t16)) fun t17 =>
 AA (some c3) fun _ =>
 AA (AG A5 (some c3) 3) fun t19 =>
 AA (Ao (AV.strip t19)) fun t20 =>
 AA (AF .neq t17 t20) fun t21 =>
 j_3 t21)
theorem LK (Ca) (a0aa : Int) (a0ab : Int) (a0ac : Int) (a0b : List (List AV)) (a0br : Rt) (a0c : List (List AV)) (a0cr : Rt) (a0d : List (List AV)) (a0dr : Rt) (a1aa : Int) (a1ab : Int) (a1ac : Int) (a1b : List (List AV)) (a1br : Rt) (a1c : List (List AV)) (a1cr : Rt) (a1d : List (List AV)) (a1dr : Rt) (S0 Q) : WF C Ca 28 (Drw C Ca 28) Tryd.f28 [(.agg [(.int .i64 a0aa), (.int .i64 a0ab), (.int .i64 a0ac), (.vs 1 a0b a0br), (.vs 1 a0c a0cr), (.vs 1 a0d a0dr)]), (.agg [(.int .i64 a1aa), (.int .i64 a1ab), (.int .i64 a1ac), (.vs 1 a1b a1br), (.vs 1 a1c a1cr), (.vs 1 a1d a1dr)])] S0 Q = Fj Ca a0aa a0ab a0ac a0b a0br a0c a0cr a0d a0dr a1aa a1ab a1ac a1b a1br a1c a1cr a1d a1dr S0 Q := by kernel_rfl
theorem LF {w0 : World} {a0aa : Int} {a0ab : Int} {a0ac : Int} {a0b : List (List AV)} {a0br : Rt} {a0c : List (List AV)} {a0cr : Rt} {a0d : List (List AV)} {a0dr : Rt} {a1aa : Int} {a1ab : Int} {a1ac : Int} {a1b : List (List AV)} {a1br : Rt} {a1c : List (List AV)} {a1cr : Rt} {a1d : List (List AV)} {a1dr : Rt} {S0 : St} {Q : AV → St → Prop} (h : Fj (AW (En w0)) a0aa a0ab a0ac a0b a0br a0c a0cr a0d a0dr a1aa a1ab a1ac a1b a1br a1c a1cr a1d a1dr S0 Q) : AC w0 EJ [(.agg [(.int .i64 a0aa), (.int .i64 a0ab), (.int .i64 a0ac), (.vs 1 a0b a0br), (.vs 1 a0c a0cr), (.vs 1 a0d a0dr)]), (.agg [(.int .i64 a1aa), (.int .i64 a1ab), (.int .i64 a1ac), (.vs 1 a1b a1br), (.vs 1 a1c a1cr), (.vs 1 a1d a1dr)])] S0 Q := CC w0 Tryd.func28 (by kernel_rfl) (by rw [LK]; exact h)
def E8 (Ca : Nat → List AV → St → (AV → St → Prop) → Prop) (a0aa : Int) (a0ab : Int) (a0ac : Int) (a0b : List (List AV)) (a0br : Rt) (a0c : List (List AV)) (a0cr : Rt) (a0d : List (List AV)) (a0dr : Rt) (S0 : St) (Q : AV → St → Prop) : Prop :=
 AA (GT AH (.agg [(.int .i64 a0aa), (.int .i64 a0ab), (.int .i64 a0ac), (.vs 1 a0b a0br), (.vs 1 a0c a0cr), (.vs 1 a0d a0dr)])) fun c1 =>
 AA (some c1) fun _ =>
 AA (AG A5 (some c1) 3) fun t9 =>
 AA (Ao (AV.strip t9)) fun t10 =>
 AA (AF .gtr t10 (.int .i64 20)) fun t11 =>
 Ab (fun (x16 : AV) =>
 AA (Ax (AV.strip t11) (.bool true) x16) fun t17 =>
 Ab (fun (x22 : AV) =>
 AA (Ax (AV.strip (AV.strip t17)) (.bool true) x22) fun t23 =>
 ifK (AV.strip t23)
 (Q (.bool false) S0)
 (Ab (fun (S_2 : St) =>
 Ab (fun (S_6 : St) =>
 Q (.bool true) S_6) fun j_4 =>
 AA (some c1) fun _ =>
 AA (AG AU (some c1) 4) fun t36 =>
 AA (Ao (AV.strip t36)) fun t37 =>
 Br ([(.int .i64 0), (.int .i64 0)], []) (fun v_2 bx_2 => ([v_2 3, v_2 38], [])) (fun nx_2 v_2 bx_2 S_3 =>
 AA (AF .lss (v_2 38) t37) fun t39 =>
 ifK t39
 (AA (Ae AM (AV.strip t36) (v_2 38)) fun t40 =>
 AA (Al AM S_3 t40) fun t41 =>
 AA (Ao (AV.strip (AV.strip t41))) fun t44 =>
 AA (AF .add (AV.strip (v_2 3)) t44) fun t45 =>
 AA (AF .gtr (AV.strip t45) (.int .i64 100)) fun t47 =>
 Ab (fun (x51 : AV) (S_5 : St) =>
 AA (Ax (AV.strip t47) (.bool true) x51) fun t52 =>
 ifK (AV.strip t52)
 (Q (.bool false) S_5)
 (AA (AF .add (v_2 38) (.int .i64 1)) fun t53 =>
 nx_2 ([t45, (AV.strip t53)], []) S_5)) fun j_3 =>
 ifK (AV.strip t47)
 (j_3 (.tup []) S_3)
 (As Ca GP [(AV.strip (AV.strip t41)), (.int .i64 100)] S_3 fun t50 S_4 =>
 AA (AF .eql t50 (.int .i64 0)) fun t51 =>
 j_3 t51 S_4))
 (j_4 S_3)) S_2) fun j_5 =>
 AA (some c1) fun _ =>
 AA (AG A5 (some c1) 3) fun t25 =>
 AA (Ao (AV.strip t25)) fun t26 =>
 Br ([(.int .i64 0)], []) (fun v bx => ([v 27], [])) (fun nx v bx S =>
 AA (AF .lss (v 27) t26) fun t28 =>
 ifK t28
 (AA (Ae AL (AV.strip t25) (v 27)) fun t29 =>
 AA (Al AL S t29) fun t30 =>
 AA (E3 (AV.strip (AV.strip t30))) fun t32 =>
 AA (AF .gtr t32 (.int .i64 3000)) fun t33 =>
 ifK t33
 (Q (.bool false) S)
 (AA (AF .add (v 27) (.int .i64 1)) fun t34 =>
 nx ([(AV.strip t34)], []) S))
 (j_5 S)) S0)) fun j =>
 ifK (AV.strip (AV.strip t17))
 (j (.tup []))
 (AA (some c1) fun _ =>
 AA (AG Bq (some c1) 5) fun t20 =>
 AA (Ao (AV.strip t20)) fun t21 =>
 AA (AF .gtr t21 (.int .i64 500)) fun t22 =>
 j t22)) fun j_2 =>
 ifK (AV.strip t11)
 (j_2 (.tup []))
 (AA (some c1) fun _ =>
 AA (AG AU (some c1) 4) fun t14 =>
 AA (Ao (AV.strip t14)) fun t15 =>
 AA (AF .gtr t15 (.int .i64 70)) fun t16 =>
 j_2 t16)
theorem KW (Ca) (a0aa : Int) (a0ab : Int) (a0ac : Int) (a0b : List (List AV)) (a0br : Rt) (a0c : List (List AV)) (a0cr : Rt) (a0d : List (List AV)) (a0dr : Rt) (S0 Q) : WF C Ca 30 (Drw C Ca 30) Tryd.f30 [(.agg [(.int .i64 a0aa), (.int .i64 a0ab), (.int .i64 a0ac), (.vs 1 a0b a0br), (.vs 1 a0c a0cr), (.vs 1 a0d a0dr)])] S0 Q = E8 Ca a0aa a0ab a0ac a0b a0br a0c a0cr a0d a0dr S0 Q := by kernel_rfl
theorem KB {w0 : World} {a0aa : Int} {a0ab : Int} {a0ac : Int} {a0b : List (List AV)} {a0br : Rt} {a0c : List (List AV)} {a0cr : Rt} {a0d : List (List AV)} {a0dr : Rt} {S0 : St} {Q : AV → St → Prop} (h : E8 (AW (En w0)) a0aa a0ab a0ac a0b a0br a0c a0cr a0d a0dr S0 Q) : AC w0 E9 [(.agg [(.int .i64 a0aa), (.int .i64 a0ab), (.int .i64 a0ac), (.vs 1 a0b a0br), (.vs 1 a0c a0cr), (.vs 1 a0d a0dr)])] S0 Q := CC w0 Tryd.func30 (by kernel_rfl) (by rw [KW]; exact h)
def EX (Ca : Nat → List AV → St → (AV → St → Prop) → Prop) (a0aa : Int) (a0ab : Int) (a0ac : Int) (a0b : List (List AV)) (a0br : Rt) (a0c : List (List AV)) (a0cr : Rt) (a0d : List (List AV)) (a0dr : Rt) (S0 : St) (Q : AV → St → Prop) : Prop :=
 AA (GT AH (.agg [(.int .i64 a0aa), (.int .i64 a0ab), (.int .i64 a0ac), (.vs 1 a0b a0br), (.vs 1 a0c a0cr), (.vs 1 a0d a0dr)])) fun c1 =>
 AA (some c1) fun _ =>
 AA (some c1) fun _ =>
 AA (AG Af (some c1) 0) fun t12 =>
 AA (some c1) fun _ =>
 AA (some c1) fun _ =>
 AA (AG Af (some c1) 1) fun t15 =>
 AA (some c1) fun _ =>
 AA (some c1) fun _ =>
 AA (AG Af (some c1) 2) fun t18 =>
 AA (Bx 1 [(AV.strip t12), (AV.strip t15), (AV.strip t18)]) fun e19 =>
 Ca Ch [(.str [114, 111, 111, 109]), (.vs 1 e19 .full)] S0 fun t20 S =>
 Ab (fun (x3 : AV) (S_4 : St) =>
 Ab (fun (x3_3 : AV) (S_9 : St) =>
 Ab (fun (x3_4 : AV) (S_11 : St) =>
 Q (AV.strip x3_4) S_11) fun j_2 =>
 AA (some c1) fun _ =>
 AA (AG Bq (some c1) 5) fun t58 =>
 AA (Ao (AV.strip t58)) fun t59 =>
 AA (AF .gtr t59 (.int .i64 0)) fun t60 =>
 ifK t60
 (AA (some c1) fun _ =>
 AA (AG Bq (some c1) 5) fun t63 =>
 As Ca Ch [(.str [112, 105, 99, 107]), (AV.strip t63)] S_9 fun t64 S_10 =>
 AA (AF .add (AV.strip x3_3) t64) fun t65 =>
 j_2 t65 S_10)
 (j_2 x3_3 S_9)) fun j_3 =>
 AA (some c1) fun _ =>
 AA (AG AU (some c1) 4) fun t36 =>
 AA (Ao (AV.strip t36)) fun t37 =>
 Br ([x3, (.int .i64 0)], []) (fun v_2 bx_2 => ([v_2 3, v_2 38], [])) (fun nx_2 v_2 bx_2 S_5 =>
 AA (AF .lss (v_2 38) t37) fun t39 =>
 ifK t39
 (Ab (fun (x3_2 : AV) (S_8 : St) =>
 AA (AF .add (v_2 38) (.int .i64 1)) fun t56 =>
 nx_2 ([x3_2, (AV.strip t56)], []) S_8) fun j =>
 AA (Ae AM (AV.strip t36) (v_2 38)) fun t40 =>
 AA (Al AM S_5 t40) fun t41 =>
 AA (AF .add (AV.strip (v_2 3)) (.str [99, 108, 105, 101, 110, 116, 10])) fun t43 =>
 AA (Ao (AV.strip (AV.strip t41))) fun t45 =>
 Br ([t43, (.int .i64 0)], []) (fun v_3 bx_3 => ([v_3 3, v_3 46], [])) (fun nx_3 v_3 bx_3 S_6 =>
 AA (AF .lss (v_3 46) t45) fun t47 =>
 ifK t47
 (AA (Ae Ad (AV.strip (AV.strip t41)) (v_3 46)) fun t48 =>
 AA (Al Ad S_6 t48) fun t49 =>
 AA (A4 Ad (some [(.int .i64 0), (.str []), (.int .i64 0), (.int .i64 0), (.int .i64 0), (.str [])]) 0 (AV.strip t49)) fun b9 =>
 AA (AG Ad (some b9) 0) fun t51 =>
 As Ca Gd [(AV.strip t51)] S_6 fun t52 S_7 =>
 AA (AF .add t52 (.str [10])) fun t53 =>
 AA (AF .add (AV.strip (v_3 3)) t53) fun t54 =>
 AA (AF .add (v_3 46) (.int .i64 1)) fun t55 =>
 nx_3 ([t54, (AV.strip t55)], []) S_7)
 (j (v_3 3) S_6)) S_5)
 (j_3 (v_2 3) S_5)) S_4) fun j_4 =>
 AA (some c1) fun _ =>
 AA (AG A5 (some c1) 3) fun t22 =>
 AA (Ao (AV.strip t22)) fun t23 =>
 Br ([t20, (.int .i64 0)], []) (fun v bx => ([v 3, v 24], [])) (fun nx v bx S_2 =>
 AA (AF .lss (v 24) t23) fun t25 =>
 ifK t25
 (AA (Ae AL (AV.strip t22) (v 24)) fun t26 =>
 AA (Al AL S_2 t26) fun t27 =>
 As Ca Fw [(AV.strip (AV.strip t27))] S_2 fun t30 S_3 =>
 AA (AF .add (.str [105, 109, 97, 103, 101, 32]) t30) fun t31 =>
 AA (AF .add t31 (.str [10])) fun t32 =>
 AA (AF .add (AV.strip (v 3)) t32) fun t33 =>
 AA (AF .add (v 24) (.int .i64 1)) fun t34 =>
 nx ([t33, (AV.strip t34)], []) S_3)
 (j_4 (v 3) S_2)) S
theorem JZ (Ca) (a0aa : Int) (a0ab : Int) (a0ac : Int) (a0b : List (List AV)) (a0br : Rt) (a0c : List (List AV)) (a0cr : Rt) (a0d : List (List AV)) (a0dr : Rt) (S0 Q) : WF C Ca 31 (Drw C Ca 31) Tryd.f31 [(.agg [(.int .i64 a0aa), (.int .i64 a0ab), (.int .i64 a0ac), (.vs 1 a0b a0br), (.vs 1 a0c a0cr), (.vs 1 a0d a0dr)])] S0 Q = EX Ca a0aa a0ab a0ac a0b a0br a0c a0cr a0d a0dr S0 Q := by kernel_rfl
theorem JV {w0 : World} {a0aa : Int} {a0ab : Int} {a0ac : Int} {a0b : List (List AV)} {a0br : Rt} {a0c : List (List AV)} {a0cr : Rt} {a0d : List (List AV)} {a0dr : Rt} {S0 : St} {Q : AV → St → Prop} (h : EX (AW (En w0)) a0aa a0ab a0ac a0b a0br a0c a0cr a0d a0dr S0 Q) : AC w0 El [(.agg [(.int .i64 a0aa), (.int .i64 a0ab), (.int .i64 a0ac), (.vs 1 a0b a0br), (.vs 1 a0c a0cr), (.vs 1 a0d a0dr)])] S0 Q := CC w0 Tryd.func31 (by kernel_rfl) (by rw [JZ]; exact h)
def Fg (Ca : Nat → List AV → St → (AV → St → Prop) → Prop) (S0 : St) (Q : AV → St → Prop) : Prop :=
 AA (Hh CF 1 [(0, (.str [])), (1, (.str [108, 111, 111, 107, 117, 112])), (2, (.str [115, 116, 97, 116])), (3, (.str [114, 101, 97, 100, 108, 105, 110, 107])), (4, (.str [114, 101, 97, 100])), (5, (.str [111, 112, 101, 110])), (6, (.str [112, 97, 103, 101])), (7, (.str [99, 108, 111, 115, 101])), (8, (.str [97, 100, 100])), (9, (.str [114, 101, 109, 111, 118, 101]))]) fun t1 =>
 AA (A4 CF (some [(.str []), (.str []), (.str []), (.str []), (.str []), (.str []), (.str []), (.str []), (.str []), (.str [])]) 0 t1) fun b0 =>
 AA ((AG CF (some b0) 0).map AV.strip) fun r0 =>
 Q r0 S0
theorem LP (Ca) (S0 Q) : WF C Ca 34 (Drw C Ca 34) Tryd.f34 [] S0 Q = Fg Ca  S0 Q := by kernel_rfl
theorem La {w0 : World} {S0 : St} {Q : AV → St → Prop} (h : Fg (AW (En w0))  S0 Q) : AC w0 EN [] S0 Q := CC w0 Tryd.func34 (by kernel_rfl) (by rw [LP]; exact h)
def Ek (Ca : Nat → List AV → St → (AV → St → Prop) → Prop) (a0 : List UInt8) (a1 : Int) (a2 : Bool) (S0 : St) (Q : AV → St → Prop) : Prop :=
 Ab (fun (x9 : AV) =>
 As Ca FS [(.str a0), (.str [32]), (AV.strip x9)] S0 fun t22 S =>
 AA (Ao (AV.strip t22)) fun t24 =>
 AA (AF .neq t24 (AV.strip x9)) fun t26 =>
 ifK t26
 (Q (.tup [(.vs 1 [] .nil), (.str []), (.bool false)]) S)
 (Ab (fun (x10 : AV) (x11 : AV) (S_4 : St) =>
 ifK (.bool a2)
 (AA (Ae AL (AV.strip x10) (.int .i64 a1)) fun t51 =>
 AA (Al AL S_4 t51) fun t52 =>
 Q (.tup [(AV.flat (AV.strip x11)), (AV.flat (AV.strip t52)), (.bool true)]) S_4)
 (Q (.tup [(AV.flat (AV.strip x11)), (.str []), (.bool true)]) S_4)) fun j =>
 AA (Bt AL t22 none (some (.int .i64 a1)) none) fun t29 =>
 AA (Ao t29) fun t30 =>
 Br ([(.vs 1 [] .nil), (.int .i64 0)], []) (fun v bx => ([v 11, v 31], [])) (fun nx v bx S_2 =>
 AA (AF .lss (v 31) t30) fun t32 =>
 ifK t32
 (AA (Ae AL t29 (v 31)) fun t33 =>
 AA (Al AL S_2 t33) fun t34 =>
 As Ca Cs [(AV.strip (AV.strip t34))] S_2 fun t37 S_3 =>
 AA (AZ t37 0) fun t38 =>
 AA (AZ (AY t37 0) 1) fun t39 =>
 AA (unA .not (AV.strip t39)) fun t41 =>
 ifK t41
 (Q (.tup [(.vs 1 [] .nil), (.str []), (.bool false)]) S_3)
 (AA (Bx 1 [(AV.strip t38)]) fun e44 =>
 AA (Bl Af S_3 (v 11) (.vs 1 e44 .full)) fun t45 =>
 AA (AF .add (v 31) (.int .i64 1)) fun t46 =>
 nx ([t45, (AV.strip t46)], []) S_3))
 (j (AV.strip t22) (v 11) S_2)) S)) fun j_2 =>
 ifK (.bool a2)
 (j_2 (.int .i64 (IntKind.i64.wrap (a1 + 1))))
 (j_2 (.int .i64 a1))
theorem Jc (Ca) (a0 : List UInt8) (a1 : Int) (a2 : Bool) (S0 Q) : WF C Ca 35 (Drw C Ca 35) Tryd.f35 [(.str a0), (.int .i64 a1), (.bool a2)] S0 Q = Ek Ca a0 a1 a2 S0 Q := by kernel_rfl
theorem JX {w0 : World} {a0 : List UInt8} {a1 : Int} {a2 : Bool} {S0 : St} {Q : AV → St → Prop} (h : Ek (AW (En w0)) a0 a1 a2 S0 Q) : AC w0 DQ [(.str a0), (.int .i64 a1), (.bool a2)] S0 Q := CC w0 Tryd.func35 (by kernel_rfl) (by rw [Jc]; exact h)
def Fi (Ca : Nat → List AV → St → (AV → St → Prop) → Prop) (a0 : Int) (S0 : St) (Q : AV → St → Prop) : Prop :=
 ifK (.bool (a0 == 1))
 (Q (.str [108, 111, 111, 107, 117, 112]) S0)
 (ifK (.bool (a0 == 2))
 (Q (.str [115, 116, 97, 116]) S0)
 (ifK (.bool (a0 == 3))
 (Q (.str [114, 101, 97, 100, 108, 105, 110, 107]) S0)
 (ifK (.bool (a0 == 4))
 (Q (.str [114, 101, 97, 100]) S0)
 (ifK (.bool (a0 == 5))
 (Q (.str [111, 112, 101, 110]) S0)
 (ifK (.bool (a0 == 6))
 (Q (.str [112, 97, 103, 101]) S0)
 (ifK (.bool (a0 == 7))
 (Q (.str [99, 108, 111, 115, 101]) S0)
 (ifK (.bool (a0 == 8))
 (Q (.str [97, 100, 100]) S0)
 (ifK (.bool (a0 == 9))
 (Q (.str [114, 101, 109, 111, 118, 101]) S0)
 (Q (.str []) S0)))))))))
theorem LY (Ca) (a0 : Int) (S0 Q) : WF C Ca 36 (Drw C Ca 36) Tryd.f36 [(.int .i64 a0)] S0 Q = Fi Ca a0 S0 Q := by kernel_rfl
theorem LG {w0 : World} {a0 : Int} {S0 : St} {Q : AV → St → Prop} (h : Fi (AW (En w0)) a0 S0 Q) : AC w0 Fz [(.int .i64 a0)] S0 Q := CC w0 Tryd.func36 (by kernel_rfl) (by rw [LY]; exact h)
def Bm (Ca : Nat → List AV → St → (AV → St → Prop) → Prop) (a0 : Nat) (a0o : Nat) (a1 : Int) (S0 : St) (Q : AV → St → Prop) : Prop :=
 Ca CO [(.ptr a0 a0o)] S0 fun t6 S =>
 AA (Al Dt S (.ptr a0 (a0o + 1))) fun t11 =>
 AA (Bl CN (stripMem S (.ptr a0 (a0o + 1))) (AV.strip0 t11) (.vs 1 [[(.int .u8 a1)]] .full)) fun t14 =>
 AA (Cc Dt (stripMem S (.ptr a0 (a0o + 1))) (.ptr a0 (a0o + 1)) t14) fun S_2 =>
 Q .nilifc S_2
theorem EB (Ca) (a0 : Nat) (a0o : Nat) (a1 : Int) (S0 Q) : WF C Ca 38 (Drw C Ca 38) Tryd.f38 [(.ptr a0 a0o), (.int .u8 a1)] S0 Q = Bm Ca a0 a0o a1 S0 Q := by kernel_rfl
theorem ED {w0 : World} {a0 : Nat} {a0o : Nat} {a1 : Int} {S0 : St} {Q : AV → St → Prop} (h : Bm (AW (En w0)) a0 a0o a1 S0 Q) : AC w0 BL [(.ptr a0 a0o), (.int .u8 a1)] S0 Q := CC w0 Tryd.func38 (by kernel_rfl) (by rw [EB]; exact h)
def FB (Ca : Nat → List AV → St → (AV → St → Prop) → Prop) (a0 : Int) (S0 : St) (Q : AV → St → Prop) : Prop :=
 ifK (.bool (decide (a0 < 10)))
 (Q (.int .u8 (IntKind.u8.wrap (IntKind.i64.wrap (48 + a0)))) S0)
 (Q (.int .u8 (IntKind.u8.wrap (IntKind.i64.wrap ((IntKind.i64.wrap (97 + a0)) - 10)))) S0)
theorem Kg (Ca) (a0 : Int) (S0 Q) : WF C Ca 42 (Drw C Ca 42) Tryd.f42 [(.int .i64 a0)] S0 Q = FB Ca a0 S0 Q := by kernel_rfl
theorem KM {w0 : World} {a0 : Int} {S0 : St} {Q : AV → St → Prop} (h : FB (AW (En w0)) a0 S0 Q) : AC w0 Dx [(.int .i64 a0)] S0 Q := CC w0 Tryd.func42 (by kernel_rfl) (by rw [Kg]; exact h)
set_option maxHeartbeats 2000000
open Go.Proofs
def GU (Ca : Nat → List AV → St → (AV → St → Prop) → Prop) (a0 : List (List AV)) (a0r : Rt) (a1 : Int) (S0 : St) (Q : AV → St → Prop) : Prop :=
 ifK (.bool (decide ((List.length a0 : Int) > a1)))
 (Q (.int .i64 0) S0)
 (Ab (fun (S_2 : St) =>
 Q (.int .i64 1) S_2) fun j_3 =>
 Br ([(.int .i64 0)], []) (fun v bx => ([v 13], [])) (fun nx v bx S =>
 AA (AF .lss (v 13) (.int .i64 (List.length a0 : Int))) fun t14 =>
 ifK t14
 (AA (Ae Ad (.vs 6 a0 (Rt.strip a0r)) (v 13)) fun t15 =>
 AA (Al Ad S t15) fun t16 =>
 AA (A4 Ad (some [(.int .i64 0), (.str []), (.int .i64 0), (.int .i64 0), (.int .i64 0), (.str [])]) 0 (AV.strip t16)) fun b6 =>
 AA (some b6) fun _ =>
 AA (AG AL (some b6) 1) fun t18 =>
 AA (E3 (AV.strip t18)) fun t19 =>
 AA (AF .gtr t19 (.int .i64 1100)) fun t20 =>
 Ab (fun (x25 : AV) =>
 AA (Ax (AV.strip t20) (.bool true) x25) fun t26 =>
 Ab (fun (x30 : AV) =>
 AA (Ax (AV.strip (AV.strip t26)) (.bool true) x30) fun t31 =>
 ifK (AV.strip t31)
 (Q (.int .i64 0) S)
 (AA (AF .add (v 13) (.int .i64 1)) fun t32 =>
 nx ([(AV.strip t32)], []) S)) fun j =>
 ifK (AV.strip (AV.strip t26))
 (j (.tup []))
 (AA (some b6) fun _ =>
 AA (AG Af (some b6) 3) fun t29 =>
 AA (AF .gtr (AV.strip t29) (.int .i64 3000)) fun t30 =>
 j t30)) fun j_2 =>
 ifK (AV.strip t20)
 (j_2 (.tup []))
 (AA (some b6) fun _ =>
 AA (AG AL (some b6) 5) fun t23 =>
 AA (E3 (AV.strip t23)) fun t24 =>
 AA (AF .gtr t24 (.int .i64 2000)) fun t25 =>
 j_2 t25))
 (j_3 S)) S0)
theorem M5 (Ca) (a0 : List (List AV)) (a0r : Rt) (a1 : Int) (S0 Q) : WF C Ca 47 (Drw C Ca 47) Tryd.f47 [(.vs 6 a0 a0r), (.int .i64 a1)] S0 Q = GU Ca a0 a0r a1 S0 Q := by kernel_rfl
theorem Md {w0 : World} {a0 : List (List AV)} {a0r : Rt} {a1 : Int} {S0 : St} {Q : AV → St → Prop} (h : GU (AW (En w0)) a0 a0r a1 S0 Q) : AC w0 GP [(.vs 6 a0 a0r), (.int .i64 a1)] S0 Q := CC w0 Tryd.func47 (by kernel_rfl) (by rw [M5]; exact h)
def Dm (Ca : Nat → List AV → St → (AV → St → Prop) → Prop) (a0 : List UInt8) (a1 : List (List AV)) (a1r : Rt) (S0 : St) (Q : AV → St → Prop) : Prop :=
 Ab (fun (x0 : AV) (S_3 : St) =>
 AA (AF .add (AV.strip x0) (.str [10])) fun t20 =>
 Q t20 S_3) fun j =>
 Br ([(.str a0), (.int .i64 0)], []) (fun v bx => ([v 0, v 9], [])) (fun nx v bx S =>
 AA (AF .lss (v 9) (.int .i64 (List.length a1 : Int))) fun t10 =>
 ifK t10
 (AA (Ae Af (.vs 1 a1 (Rt.strip a1r)) (v 9)) fun t11 =>
 AA (Al Af S t11) fun t12 =>
 As Ca BV [(AV.strip (AV.strip t12))] S fun t15 S_2 =>
 AA (AF .add (.str [32]) t15) fun t16 =>
 AA (AF .add (AV.strip (v 0)) t16) fun t17 =>
 AA (AF .add (v 9) (.int .i64 1)) fun t18 =>
 nx ([t17, (AV.strip t18)], []) S_2)
 (j (v 0) S)) S0
theorem ID (Ca) (a0 : List UInt8) (a1 : List (List AV)) (a1r : Rt) (S0 Q) : WF C Ca 48 (Drw C Ca 48) Tryd.f48 [(.str a0), (.vs 1 a1 a1r)] S0 Q = Dm Ca a0 a1 a1r S0 Q := by kernel_rfl
theorem IX {w0 : World} {a0 : List UInt8} {a1 : List (List AV)} {a1r : Rt} {S0 : St} {Q : AV → St → Prop} (h : Dm (AW (En w0)) a0 a1 a1r S0 Q) : AC w0 Ch [(.str a0), (.vs 1 a1 a1r)] S0 Q := CC w0 Tryd.func48 (by kernel_rfl) (by rw [ID]; exact h)
def Ec (Ca : Nat → List AV → St → (AV → St → Prop) → Prop) (a0 : List (List AV)) (a0r : Rt) (S0 : St) (Q : AV → St → Prop) : Prop :=
 Ab (fun (x4 : AV) (S_3 : St) =>
 Q (.tup [(AV.flat (AV.strip x4)), (.bool true)]) S_3) fun j =>
 Br ([(.vs 1 [] .nil), (.int .i64 0)], []) (fun v bx => ([v 4, v 11], [])) (fun nx v bx S =>
 AA (AF .lss (v 11) (.int .i64 (List.length a0 : Int))) fun t12 =>
 ifK t12
 (AA (Ae AL (.vs 1 a0 (Rt.strip a0r)) (v 11)) fun t13 =>
 AA (Al AL S t13) fun t14 =>
 As Ca Cs [(AV.strip (AV.strip t14))] S fun t17 S_2 =>
 AA (AZ t17 0) fun t18 =>
 AA (AZ (AY t17 0) 1) fun t19 =>
 AA (unA .not (AV.strip t19)) fun t21 =>
 ifK t21
 (Q (.tup [(.vs 1 [] .nil), (.bool false)]) S_2)
 (AA (Bx 1 [(AV.strip t18)]) fun e24 =>
 AA (Bl Af S_2 (v 4) (.vs 1 e24 .full)) fun t25 =>
 AA (AF .add (v 11) (.int .i64 1)) fun t26 =>
 nx ([t25, (AV.strip t26)], []) S_2))
 (j (v 4) S)) S0
theorem Jn (Ca) (a0 : List (List AV)) (a0r : Rt) (S0 Q) : WF C Ca 57 (Drw C Ca 57) Tryd.f57 [(.vs 1 a0 a0r)] S0 Q = Ec Ca a0 a0r S0 Q := by kernel_rfl
theorem JU {w0 : World} {a0 : List (List AV)} {a0r : Rt} {S0 : St} {Q : AV → St → Prop} (h : Ec (AW (En w0)) a0 a0r S0 Q) : AC w0 DW [(.vs 1 a0 a0r)] S0 Q := CC w0 Tryd.func57 (by kernel_rfl) (by rw [Jn]; exact h)
def CI (Ca : Nat → List AV → St → (AV → St → Prop) → Prop) (a0 : Nat) (a0o : Nat) (a1 : List UInt8) (S0 : St) (Q : AV → St → Prop) : Prop :=
 Ca Cy [(.str a1), (.str [32])] S0 fun t16 S =>
 AA (Al Af S (.ptr a0 (a0o + 6))) fun t20 =>
 AA (AF .eql (AV.strip t20) (.int .i64 0)) fun t21 =>
 ifK t21
 (AA (Bt AL t16 (some (.int .i64 1)) none none) fun t24 =>
 As Ca DW [t24] S fun t25 S_2 =>
 AA (AZ t25 0) fun t26 =>
 AA (AZ (AY t25 0) 1) fun t27 =>
 AA (Ae AL (AV.strip (AV.strip t16)) (.int .i64 0)) fun t29 =>
 AA (Al AL S_2 t29) fun t30 =>
 AA (AF .neq (AV.strip t30) (.str [114, 111, 111, 109])) fun t31 =>
 Ab (fun (x35 : AV) =>
 AA (Ax (AV.strip t31) (.bool true) x35) fun t36 =>
 Ab (fun (x39 : AV) =>
 AA (Ax (AV.strip (AV.strip t36)) (.bool true) x39) fun t40 =>
 ifK (AV.strip t40)
 (Q (.bool false) S_2)
 (AA (Ae Af (AV.strip t26) (.int .i64 0)) fun t44 =>
 AA (Al Af S_2 t44) fun t45 =>
 AA (Ae Af (AV.strip t26) (.int .i64 1)) fun t47 =>
 AA (Al Af S_2 t47) fun t48 =>
 AA (Ae Af (AV.strip t26) (.int .i64 2)) fun t50 =>
 AA (Al Af S_2 t50) fun t51 =>
 AA (Hh A0 1 [(0, (AV.strip t45)), (1, (AV.strip t48)), (2, (AV.strip t51))]) fun t52 =>
 AA (Cc A0 S_2 (.ptr a0 ((a0o + 0) + 0)) t52) fun S_3 =>
 AA (Cc Af S_3 (.ptr a0 (a0o + 6)) (.int .i64 1)) fun S_4 =>
 Q (.bool true) S_4)) fun j =>
 ifK (AV.strip (AV.strip t36))
 (j (.tup []))
 (AA (unA .not (AV.strip t27)) fun t39 =>
 j t39)) fun j_2 =>
 ifK (AV.strip t31)
 (j_2 (.tup []))
 (AA (Ao (AV.strip t26)) fun t34 =>
 AA (AF .neq t34 (.int .i64 3)) fun t35 =>
 j_2 t35))
 (AA (Al Af S (.ptr a0 (a0o + 6))) fun t62 =>
 AA (AF .lss (AV.strip t62) (.int .i64 3)) fun t63 =>
 Ab (fun (x68 : AV) =>
 AA (Ax (AV.strip t63) x68 (.bool false)) fun t69 =>
 Ab (fun (x73 : AV) =>
 AA (Ax (AV.strip (AV.strip t69)) x73 (.bool false)) fun t74 =>
 ifK (AV.strip t74)
 (AA (Ae AL (AV.strip t16) (.int .i64 1)) fun t77 =>
 AA (Al AL S t77) fun t78 =>
 As Ca EI [(AV.strip t78)] S fun t79 S_5 =>
 AA (AZ t79 0) fun t80 =>
 AA (AZ (AY t79 0) 1) fun t81 =>
 AA (Al A5 S_5 (.ptr a0 ((a0o + 0) + 3))) fun t88 =>
 AA (Bx 1 [(AV.strip t80)]) fun e90 =>
 AA (Bl AL (stripMem S_5 (.ptr a0 ((a0o + 0) + 3))) (AV.strip0 t88) (.vs 1 e90 .full)) fun t91 =>
 AA (Cc A5 (stripMem S_5 (.ptr a0 ((a0o + 0) + 3))) (.ptr a0 ((a0o + 0) + 3)) t91) fun S_6 =>
 AA (Cc Af S_6 (.ptr a0 (a0o + 6)) (.int .i64 2)) fun S_7 =>
 Q (AV.strip t81) S_7)
 (AA (Al Af S (.ptr a0 (a0o + 6))) fun t102 =>
 AA (AF .lss (AV.strip t102) (.int .i64 4)) fun t103 =>
 Ab (fun (x106 : AV) =>
 AA (Ax (AV.strip t103) x106 (.bool false)) fun t107 =>
 ifK (AV.strip t107)
 (AA (Al AU S (.ptr a0 ((a0o + 0) + 4))) fun t114 =>
 AA (appendR AM (stripMem S (.ptr a0 ((a0o + 0) + 4))) (AV.strip0 t114) (.vs 1 [[(.vs 6 [] .nil)]] .full)) fun p116 =>
 AA (Cc AU p116.2 (.ptr a0 ((a0o + 0) + 4)) p116.1) fun S_8 =>
 AA (Cc Af S_8 (.ptr a0 (a0o + 6)) (.int .i64 3)) fun S_9 =>
 Q (.bool true) S_9)
 (AA (Al Af S (.ptr a0 (a0o + 6))) fun t126 =>
 AA (AF .lss (AV.strip t126) (.int .i64 4)) fun t127 =>
 Ab (fun (x132 : AV) =>
 AA (Ax (AV.strip t127) x132 (.bool false)) fun t133 =>
 Ab (fun (x137 : AV) =>
 AA (Ax (AV.strip (AV.strip t133)) x137 (.bool false)) fun t138 =>
 ifK (AV.strip t138)
 (AA (Bt AL t16 (some (.int .i64 1)) none none) fun t141 =>
 As Ca DW [t141] S fun t142 S_10 =>
 AA (AZ t142 0) fun t143 =>
 AA (AZ (AY t142 0) 1) fun t144 =>
 AA (Cc Bq S_10 (.ptr a0 ((a0o + 0) + 5)) (AV.strip t143)) fun S_11 =>
 AA (Cc Af S_11 (.ptr a0 (a0o + 6)) (.int .i64 4)) fun S_12 =>
 Q (AV.strip t144) S_12)
 (Ca F8 [(.str a1)] S fun t156 S_13 =>
 AA (AZ t156 0) fun t157 =>
 AA (AZ (AY t156 0) 1) fun t158 =>
 AA (A4 Ad (some [(.int .i64 0), (.str []), (.int .i64 0), (.int .i64 0), (.int .i64 0), (.str [])]) 0 t157) fun b12 =>
 AA (unA .not (AV.strip t158)) fun t160 =>
 Ab (fun (x166 : AV) =>
 AA (Ax (AV.strip t160) (.bool true) x166) fun t167 =>
 ifK (AV.strip t167)
 (Q (.bool false) S_13)
 (AA (Al AU S_13 (.ptr a0 ((a0o + 0) + 4))) fun t172 =>
 AA (Ao (AV.strip t172)) fun t173 =>
 AA (AF .sub t173 (.int .i64 1)) fun t174 =>
 AA (Al AU S_13 (.ptr a0 ((a0o + 0) + 4))) fun t179 =>
 AA (Al AU S_13 (.ptr a0 ((a0o + 0) + 4))) fun t185 =>
 AA (Ae AM (AV.strip t185) (AV.strip t174)) fun t187 =>
 AA (AG Ad (some b12) 0) fun t189 =>
 AA (Bx 6 [(AV.strip t189)]) fun e190 =>
 AA (Al AM S_13 t187) fun t188 =>
 (AA (Al AU (stripMem S_13 t187) (.ptr a0 ((a0o + 0) + 4))) fun t179_2 =>
 ((AV.strip t179_2) : AV) = (AV.strip t179)) ∧
 (AA (Bl Ad (stripMem S_13 t187) (AV.strip0 t188) (.vs 6 e190 .full)) fun t191 =>
 AA (Ae AM (AV.strip t179) (AV.strip t174)) fun t192 =>
 AA (Cc AM (stripMem S_13 t187) t192 t191) fun S_14 =>
 Q (.bool true) S_14))) fun j_8 =>
 ifK (AV.strip t160)
 (j_8 (.tup []))
 (AA (Al Af S_13 (.ptr a0 (a0o + 6))) fun t165 =>
 AA (AF .neq (AV.strip t165) (.int .i64 3)) fun t166 =>
 j_8 t166))) fun j_3 =>
 ifK (AV.strip (AV.strip t133))
 (AA (Ao (AV.strip t16)) fun t136 =>
 AA (AF .gtr t136 (.int .i64 1)) fun t137 =>
 j_3 t137)
 (j_3 (.tup []))) fun j_4 =>
 ifK (AV.strip t127)
 (AA (Ae AL (AV.strip t16) (.int .i64 0)) fun t130 =>
 AA (Al AL S t130) fun t131 =>
 AA (AF .eql (AV.strip t131) (.str [112, 105, 99, 107])) fun t132 =>
 j_4 t132)
 (j_4 (.tup [])))) fun j_5 =>
 ifK (AV.strip t103)
 (j_5 (.bool (a1 == [99, 108, 105, 101, 110, 116])))
 (j_5 (.tup [])))) fun j_6 =>
 ifK (AV.strip (AV.strip t69))
 (AA (Ao (AV.strip t16)) fun t72 =>
 AA (AF .eql t72 (.int .i64 2)) fun t73 =>
 j_6 t73)
 (j_6 (.tup []))) fun j_7 =>
 ifK (AV.strip t63)
 (AA (Ae AL (AV.strip t16) (.int .i64 0)) fun t66 =>
 AA (Al AL S t66) fun t67 =>
 AA (AF .eql (AV.strip t67) (.str [105, 109, 97, 103, 101])) fun t68 =>
 j_7 t68)
 (j_7 (.tup [])))
theorem FP (Ca) (a0 : Nat) (a0o : Nat) (a1 : List UInt8) (S0 Q) : WF C0 Ca 43 (Drw C0 Ca 43) Tryd.f43 [(.ptr a0 a0o), (.str a1)] S0 Q = CI Ca a0 a0o a1 S0 Q := by kernel_rfl
theorem FR {w0 : World} {a0 : Nat} {a0o : Nat} {a1 : List UInt8} {S0 : St} {Q : AV → St → Prop} (h : CI (AW (En w0)) a0 a0o a1 S0 Q) : AC w0 CV [(.ptr a0 a0o), (.str a1)] S0 Q := Sr w0 Tryd.func43 (by kernel_rfl) (by rw [FP]; exact h)
end Go.Av
