/- Parts of the proofs of this seat: abstract values over the model, and what the functions of the program do. No condition. -/
import Derived.Test.YtehadbpejfjheaaGreatDoorM7
import Derived.Test.YtehadbpejfjheaaGreatDoorM6
import Derived.Test.YtehadbpejfjheaaGreatDoorProg
import Derived.KernelRfl
set_option linter.all false
set_option maxRecDepth 100000
namespace Go.Av
open Go.Proofs
abbrev FE:Nat:=3
abbrev dy:Nat:=5
abbrev Ct:Nat:=9
abbrev Bw:Nat:=27
abbrev t_server_Config:Nat:=30
abbrev RX:Nat:=40
abbrev t_2_s_api_Node:Nat:=41
abbrev Mm:Nat:=42
abbrev JJ:Nat:=53
abbrev Qu:Nat:=91
abbrev Ce:Nat:=109
abbrev H0:Nat:=131
abbrev DF:Nat:=152
abbrev DY:Nat:=158
abbrev Cp:Nat:=168
abbrev DL:Nat:=191
abbrev Kj:Nat:=198
abbrev Bc:Nat:=201
abbrev Bk:Nat:=206
abbrev NZ:Nat:=210
abbrev Tu:Nat:=225
abbrev LM:Nat:=231
abbrev BY:Nat:=241
abbrev BZ:Nat:=244
abbrev C0:Nat:=249
abbrev Dz:Nat:=254
abbrev UW:Nat:=256
abbrev F_law21_ServerSees:Nat:=4
abbrev Hs:Nat:=7
abbrev E7:Nat:=8
abbrev EE:Nat:=10
abbrev EH:Nat:=11
abbrev PK:Nat:=12
abbrev Lp:Nat:=13
abbrev F_law21_along:Nat:=14
abbrev LS:Nat:=15
abbrev GS:Nat:=16
abbrev ED:Nat:=19
abbrev E2:Nat:=20
abbrev Dd:Nat:=21
abbrev NN:Nat:=30
abbrev RD:Nat:=31
abbrev O5:Nat:=32
abbrev E5:Nat:=33
abbrev FN:Nat:=34
abbrev JY:Nat:=35
abbrev M6:Nat:=36
abbrev IK:Nat:=37
abbrev GW:Nat:=38
abbrev JH:Nat:=39
abbrev JK:Nat:=40
abbrev Qo:Nat:=41
abbrev F9:Nat:=42
abbrev GG:Nat:=43
abbrev Fo:Nat:=44
abbrev Lf:Nat:=45
abbrev Ds:Nat:=46
abbrev Ec:Nat:=47
abbrev Gl:Nat:=48
abbrev Gj:Nat:=49
abbrev Gu:Nat:=52
abbrev CB:Nat:=53
abbrev M5:Nat:=54
abbrev F5:Nat:=55
abbrev Gw:Nat:=56
abbrev GJ:Nat:=57
abbrev NM:Nat:=64
abbrev H7:Nat:=65
abbrev CH:Nat:=66
abbrev Di:Nat:=67
abbrev Gv:Nat:=68
abbrev Gn:Nat:=69
abbrev Ee:Nat:=70
abbrev ND:Nat:=71
abbrev FA:Nat:=72
abbrev FQ:Nat:=73
abbrev JN:Nat:=74
abbrev LP:Nat:=75
abbrev JO:Nat:=76
abbrev JM:Nat:=77
abbrev IH:Nat:=78
abbrev FZ:Nat:=79
abbrev HT:Nat:=80
abbrev Fn:Nat:=81
abbrev E3:Nat:=82
abbrev Ew:Nat:=83
abbrev Dl:Nat:=84
abbrev Dy:Nat:=85
abbrev D3:Nat:=86
abbrev F1:Nat:=87
abbrev Gq:Nat:=91
abbrev Gm:Nat:=92
abbrev M8:Nat:=93
abbrev Cl:Nat:=94
abbrev Cx:Nat:=95
abbrev NA:Nat:=98
abbrev FI:Nat:=99
abbrev DE:Nat:=100
abbrev EA:Nat:=101
abbrev DD:Nat:=102
abbrev EL:Nat:=103
abbrev EU:Nat:=104
abbrev OX:Nat:=105
abbrev Np:Nat:=106
abbrev KT:Nat:=107
abbrev DO:Nat:=108
abbrev Dg:Nat:=109
abbrev Dh:Nat:=110
abbrev JF:Nat:=111
abbrev KS:Nat:=113
abbrev DS:Nat:=116
abbrev DQ:Nat:=117
abbrev F7:Nat:=118
abbrev M1:Nat:=119
abbrev KW:Nat:=120
abbrev LO:Nat:=121
abbrev KU:Nat:=126
abbrev DK:Nat:=127
abbrev Da:Nat:=128
abbrev DZ:Nat:=129
abbrev Ls:Nat:=130
abbrev Jz:Nat:=131
abbrev Ih:Nat:=133
abbrev H3:Nat:=134
abbrev F6:Nat:=135
abbrev Dm:Nat:=137
abbrev Dj:Nat:=138
abbrev Cm:Nat:=139
abbrev NY:Nat:=140
abbrev FX:Nat:=141
abbrev Of:Nat:=142
abbrev Ol:Nat:=143
abbrev OR:Nat:=148
abbrev Ki:Nat:=149
abbrev NJ:Nat:=150
abbrev Cd:Nat:=151
abbrev CU:Nat:=152
abbrev HU:Nat:=157
abbrev Co:Nat:=158
abbrev Cc:Nat:=159
abbrev IB:Nat:=160
abbrev V9:Nat:=161
abbrev F8:Nat:=213
abbrev Gb:Nat:=214
abbrev GB:Nat:=215
def WD:TI:={size:=1,bytes:=8,agg:=false,zero:=[.nilfn],kind:=.func,id:=1}
@[simp] theorem lY:WD.size=1:=rfl
@[simp] theorem oV:WD.agg=false∧WD.zero=[.nilfn]∧WD.kind= .func:=⟨rfl,rfl,rfl⟩
def SF:TI:={size:=1,bytes:=8,agg:=false,zero:=[.int .i64 0],kind:=.int .i64,id:=2}
@[simp] theorem kO:SF.size=1:=rfl
@[simp] theorem nW:SF.agg=false∧SF.zero=[.int .i64 0]∧SF.kind= .int .i64:=⟨rfl,rfl,rfl⟩
def Ak:TI:={size:=1,bytes:=8,agg:=false,zero:=[.int .i64 0],kind:=.int .i64,id:=3}
@[simp] theorem mQ:Ak.size=1:=rfl
@[simp] theorem pK:Ak.agg=false∧Ak.zero=[.int .i64 0]∧Ak.kind= .int .i64:=⟨rfl,rfl,rfl⟩
@[simp] theorem oz:Ak.id=FE:=rfl
def Gk:TI:={size:=1,bytes:=1,agg:=false,zero:=[.bool false],kind:=.bool,id:=4}
@[simp] theorem lP:Gk.size=1:=rfl
@[simp] theorem oZ:Gk.agg=false∧Gk.zero=[.bool false]∧Gk.kind= .bool:=⟨rfl,rfl,rfl⟩
def HM:TI:={size:=1,bytes:=1,agg:=false,zero:=[.int .u8 0],kind:=.int .u8,id:=5}
@[simp] theorem kF:HM.size=1:=rfl
@[simp] theorem nK:HM.agg=false∧HM.zero=[.int .u8 0]∧HM.kind= .int .u8:=⟨rfl,rfl,rfl⟩
@[simp] theorem mX:HM.id=dy:=rfl
def D6:TI:={size:=1,bytes:=1,agg:=false,zero:=[.int .u8 0],kind:=.int .u8,id:=6}
@[simp] theorem Vs:D6.size=1:=rfl
@[simp] theorem YV:D6.agg=false∧D6.zero=[.int .u8 0]∧D6.kind= .int .u8:=⟨rfl,rfl,rfl⟩
def A5:TI:={size:=4,bytes:=24,agg:=true,zero:=[.int .i64 0,.int .i64 0,.bool false,.int .u8 0],kind:=.struct [(0,2,1),(1,3,1),(2,4,1),(3,6,1)],id:=7}
@[simp] theorem Hj:A5.size=4:=rfl
@[simp] theorem IY:A5.agg=true∧A5.zero=[.int .i64 0,.int .i64 0,.bool false,.int .u8 0]∧A5.kind= .struct [(0,2,1),(1,3,1),(2,4,1),(3,6,1)]:=⟨rfl,rfl,rfl⟩
def D7:TI:={size:=4,bytes:=24,agg:=true,zero:=[.int .i64 0,.int .i64 0,.bool false,.int .u8 0],kind:=.struct [(0,2,1),(1,3,1),(2,4,1),(3,6,1)],id:=8}
@[simp] theorem VG:D7.size=4:=rfl
@[simp] theorem Yc:D7.agg=true∧D7.zero=[.int .i64 0,.int .i64 0,.bool false,.int .u8 0]∧D7.kind= .struct [(0,2,1),(1,3,1),(2,4,1),(3,6,1)]:=⟨rfl,rfl,rfl⟩
def AH:TI:={size:=1,bytes:=16,agg:=false,zero:=[.str []],kind:=.str,id:=9}
@[simp] theorem jt:AH.size=1:=rfl
@[simp] theorem mg:AH.agg=false∧AH.zero=[.str []]∧AH.kind= .str:=⟨rfl,rfl,rfl⟩
@[simp] theorem lX:AH.id=Ct:=rfl
def D8:TI:={size:=1,bytes:=16,agg:=false,zero:=[.str []],kind:=.str,id:=10}
@[simp] theorem We:D8.size=1:=rfl
@[simp] theorem YR:D8.agg=false∧D8.zero=[.str []]∧D8.kind= .str:=⟨rfl,rfl,rfl⟩
def MH:TI:={size:=1,bytes:=8,agg:=false,zero:=[.int .u64 0],kind:=.int .u64,id:=12}
@[simp] theorem iJ:MH.size=1:=rfl
@[simp] theorem lh:MH.agg=false∧MH.zero=[.int .u64 0]∧MH.kind= .int .u64:=⟨rfl,rfl,rfl⟩
def DU:TI:={size:=1,bytes:=8,agg:=false,zero:=[.nil],kind:=.ptr 307,id:=16}
@[simp] theorem Ti:DU.size=1:=rfl
@[simp] theorem U7:DU.agg=false∧DU.zero=[.nil]∧DU.kind= .ptr 307:=⟨rfl,rfl,rfl⟩
def IF:TI:={size:=1,bytes:=8,agg:=false,zero:=[.nil],kind:=.ptr 314,id:=17}
@[simp] theorem eP:IF.size=1:=rfl
@[simp] theorem jC:IF.agg=false∧IF.zero=[.nil]∧IF.kind= .ptr 314:=⟨rfl,rfl,rfl⟩
def JV:TI:={size:=1,bytes:=16,agg:=false,zero:=[.nilifc],kind:=.iface,id:=20}
@[simp] theorem fU:JV.size=1:=rfl
@[simp] theorem jm:JV.agg=false∧JV.zero=[.nilifc]∧JV.kind= .iface:=⟨rfl,rfl,rfl⟩
def Sd:TI:={size:=1,bytes:=4,agg:=false,zero:=[.int .i32 0],kind:=.int .i32,id:=21}
@[simp] theorem kC:Sd.size=1:=rfl
@[simp] theorem nq:Sd.agg=false∧Sd.zero=[.int .i32 0]∧Sd.kind= .int .i32:=⟨rfl,rfl,rfl⟩
def D1:TI:={size:=1,bytes:=24,agg:=false,zero:=[.vs 4 [] .nil],kind:=.slice 33,id:=22}
@[simp] theorem X1:D1.size=1:=rfl
@[simp] theorem Zv:D1.agg=false∧D1.zero=[.vs 4 [] .nil]∧D1.kind= .slice 33:=⟨rfl,rfl,rfl⟩
def Jj:TI:={size:=1,bytes:=8,agg:=false,zero:=[.nilfn],kind:=.func,id:=23}
@[simp] theorem fX:Jj.size=1:=rfl
@[simp] theorem jo:Jj.agg=false∧Jj.zero=[.nilfn]∧Jj.kind= .func:=⟨rfl,rfl,rfl⟩
def DM:TI:={size:=1,bytes:=24,agg:=false,zero:=[.vs 2 [] .nil],kind:=.slice 174,id:=24}
@[simp] theorem an:DM.size=1:=rfl
@[simp] theorem eW:DM.agg=false∧DM.zero=[.vs 2 [] .nil]∧DM.kind= .slice 174:=⟨rfl,rfl,rfl⟩
def CL:TI:={size:=2,bytes:=32,agg:=true,zero:=[.vs 2 [] .nil,.int .i64 0],kind:=.struct [(0,24,1),(1,3,1)],id:=25}
@[simp] theorem PG:CL.size=2:=rfl
@[simp] theorem QN:CL.agg=true∧CL.zero=[.vs 2 [] .nil,.int .i64 0]∧CL.kind= .struct [(0,24,1),(1,3,1)]:=⟨rfl,rfl,rfl⟩
def AL:TI:={size:=2,bytes:=32,agg:=true,zero:=[.vs 2 [] .nil,.int .i64 0],kind:=.struct [(0,24,1),(1,3,1)],id:=26}
@[simp] theorem dg:AL.size=2:=rfl
@[simp] theorem gz:AL.agg=true∧AL.zero=[.vs 2 [] .nil,.int .i64 0]∧AL.kind= .struct [(0,24,1),(1,3,1)]:=⟨rfl,rfl,rfl⟩
def CQ:TI:={size:=1,bytes:=8,agg:=false,zero:=[.nil],kind:=.ptr 109,id:=27}
@[simp] theorem ZE:CQ.size=1:=rfl
@[simp] theorem cJ:CQ.agg=false∧CQ.zero=[.nil]∧CQ.kind= .ptr 109:=⟨rfl,rfl,rfl⟩
@[simp] theorem bc:CQ.id=Bw:=rfl
def Bu:TI:={size:=3,bytes:=24,agg:=true,zero:=[.int .i64 0,.int .i64 0,.int .i64 0],kind:=.struct [(0,3,1),(1,3,1),(2,3,1)],id:=29}
@[simp] theorem L7:Bu.size=3:=rfl
@[simp] theorem Mo:Bu.agg=true∧Bu.zero=[.int .i64 0,.int .i64 0,.int .i64 0]∧Bu.kind= .struct [(0,3,1),(1,3,1),(2,3,1)]:=⟨rfl,rfl,rfl⟩
def ER:TI:={size:=3,bytes:=24,agg:=true,zero:=[.int .i64 0,.int .i64 0,.int .i64 0],kind:=.struct [(0,3,1),(1,3,1),(2,3,1)],id:=30}
@[simp] theorem bf:ER.size=3:=rfl
@[simp] theorem ek:ER.agg=true∧ER.zero=[.int .i64 0,.int .i64 0,.int .i64 0]∧ER.kind= .struct [(0,3,1),(1,3,1),(2,3,1)]:=⟨rfl,rfl,rfl⟩
@[simp] theorem T_server_Config_id:ER.id=t_server_Config:=rfl
def Bg:TI:={size:=1,bytes:=8,agg:=false,zero:=[.map none],kind:=.map 35 3,id:=31}
@[simp] theorem VF:Bg.size=1:=rfl
@[simp] theorem YC:Bg.agg=false∧Bg.zero=[.map none]∧Bg.kind= .map 35 3:=⟨rfl,rfl,rfl⟩
def BL:TI:={size:=4,bytes:=4,agg:=true,zero:=[.bool false,.bool false,.int .u8 0,.int .u8 0],kind:=.struct [(0,4,1),(1,4,1),(2,5,1),(3,5,1)],id:=32}
@[simp] theorem Jo:BL.size=4:=rfl
@[simp] theorem Kb:BL.agg=true∧BL.zero=[.bool false,.bool false,.int .u8 0,.int .u8 0]∧BL.kind= .struct [(0,4,1),(1,4,1),(2,5,1),(3,5,1)]:=⟨rfl,rfl,rfl⟩
def C8:TI:={size:=4,bytes:=4,agg:=true,zero:=[.bool false,.bool false,.int .u8 0,.int .u8 0],kind:=.struct [(0,4,1),(1,4,1),(2,5,1),(3,5,1)],id:=33}
@[simp] theorem Zi:C8.size=4:=rfl
@[simp] theorem cN:C8.agg=true∧C8.zero=[.bool false,.bool false,.int .u8 0,.int .u8 0]∧C8.kind= .struct [(0,4,1),(1,4,1),(2,5,1),(3,5,1)]:=⟨rfl,rfl,rfl⟩
def Cv:TI:={size:=2,bytes:=16,agg:=true,zero:=[.bool false,.int .i64 0],kind:=.struct [(0,4,1),(1,3,1)],id:=34}
@[simp] theorem Qg:Cv.size=2:=rfl
@[simp] theorem Sy:Cv.agg=true∧Cv.zero=[.bool false,.int .i64 0]∧Cv.kind= .struct [(0,4,1),(1,3,1)]:=⟨rfl,rfl,rfl⟩
def Ah:TI:={size:=2,bytes:=16,agg:=true,zero:=[.bool false,.int .i64 0],kind:=.struct [(0,4,1),(1,3,1)],id:=35}
@[simp] theorem cQ:Ah.size=2:=rfl
@[simp] theorem hY:Ah.agg=true∧Ah.zero=[.bool false,.int .i64 0]∧Ah.kind= .struct [(0,4,1),(1,3,1)]:=⟨rfl,rfl,rfl⟩
def BR:TI:={size:=1,bytes:=24,agg:=false,zero:=[.vs 7 [] .nil],kind:=.slice 91,id:=40}
@[simp] theorem dz:BR.size=1:=rfl
@[simp] theorem jZ:BR.agg=false∧BR.zero=[.vs 7 [] .nil]∧BR.kind= .slice 91:=⟨rfl,rfl,rfl⟩
@[simp] theorem iD:BR.id=RX:=rfl
def GH:TI:={size:=2,bytes:=48,agg:=true,zero:=[.vs 7 [] .nil,.vs 7 [] .nil],kind:=.array 2 40,id:=41}
@[simp] theorem cI:GH.size=2:=rfl
@[simp] theorem fN:GH.agg=true∧GH.zero=[.vs 7 [] .nil,.vs 7 [] .nil]∧GH.kind= .array 2 40:=⟨rfl,rfl,rfl⟩
@[simp] theorem T_2_s_api_Node_id:GH.id=t_2_s_api_Node:=rfl
def Ai:TI:={size:=1,bytes:=24,agg:=false,zero:=[.vs 1 [] .nil],kind:=.slice 9,id:=42}
@[simp] theorem gq:Ai.size=1:=rfl
@[simp] theorem kR:Ai.agg=false∧Ai.zero=[.vs 1 [] .nil]∧Ai.kind= .slice 9:=⟨rfl,rfl,rfl⟩
@[simp] theorem ji:Ai.id=Mm:=rfl
def C2:TI:={size:=2,bytes:=16,agg:=true,zero:=[.int .i64 0,.int .i64 0],kind:=.struct [(0,3,1),(1,3,1)],id:=46}
@[simp] theorem RO:C2.size=2:=rfl
@[simp] theorem Tg:C2.agg=true∧C2.zero=[.int .i64 0,.int .i64 0]∧C2.kind= .struct [(0,3,1),(1,3,1)]:=⟨rfl,rfl,rfl⟩
def BV:TI:={size:=2,bytes:=16,agg:=true,zero:=[.int .i64 0,.int .i64 0],kind:=.struct [(0,3,1),(1,3,1)],id:=47}
@[simp] theorem fd:BV.size=2:=rfl
@[simp] theorem jl:BV.agg=true∧BV.zero=[.int .i64 0,.int .i64 0]∧BV.kind= .struct [(0,3,1),(1,3,1)]:=⟨rfl,rfl,rfl⟩
def HJ:TI:={size:=1,bytes:=24,agg:=false,zero:=[.vs 2 [] .nil],kind:=.slice 47,id:=48}
@[simp] theorem dX:HJ.size=1:=rfl
@[simp] theorem gw:HJ.agg=false∧HJ.zero=[.vs 2 [] .nil]∧HJ.kind= .slice 47:=⟨rfl,rfl,rfl⟩
def CS:TI:={size:=1,bytes:=24,agg:=false,zero:=[.vs 2 [] .nil],kind:=.slice 47,id:=49}
@[simp] theorem eJ:CS.size=1:=rfl
@[simp] theorem iV:CS.agg=false∧CS.zero=[.vs 2 [] .nil]∧CS.kind= .slice 47:=⟨rfl,rfl,rfl⟩
def Bj:TI:={size:=4,bytes:=48,agg:=true,zero:=[.int .i64 0,.int .i64 0,.int .i64 0,.vs 2 [] .nil],kind:=.struct [(0,3,1),(1,47,2),(3,49,1)],id:=50}
@[simp] theorem LD:Bj.size=4:=rfl
@[simp] theorem L9:Bj.agg=true∧Bj.zero=[.int .i64 0,.int .i64 0,.int .i64 0,.vs 2 [] .nil]∧Bj.kind= .struct [(0,3,1),(1,47,2),(3,49,1)]:=⟨rfl,rfl,rfl⟩
def BW:TI:={size:=4,bytes:=48,agg:=true,zero:=[.int .i64 0,.int .i64 0,.int .i64 0,.vs 2 [] .nil],kind:=.struct [(0,3,1),(1,47,2),(3,49,1)],id:=51}
@[simp] theorem dx:BW.size=4:=rfl
@[simp] theorem iL:BW.agg=true∧BW.zero=[.int .i64 0,.int .i64 0,.int .i64 0,.vs 2 [] .nil]∧BW.kind= .struct [(0,3,1),(1,47,2),(3,49,1)]:=⟨rfl,rfl,rfl⟩
def CY:TI:={size:=5,bytes:=64,agg:=true,zero:=[.str [],.int .i64 0,.int .i64 0,.int .i64 0,.vs 2 [] .nil],kind:=.struct [(0,9,1),(1,51,4)],id:=52}
@[simp] theorem Pk:CY.size=5:=rfl
@[simp] theorem RP:CY.agg=true∧CY.zero=[.str [],.int .i64 0,.int .i64 0,.int .i64 0,.vs 2 [] .nil]∧CY.kind= .struct [(0,9,1),(1,51,4)]:=⟨rfl,rfl,rfl⟩
def Ar:TI:={size:=5,bytes:=64,agg:=true,zero:=[.str [],.int .i64 0,.int .i64 0,.int .i64 0,.vs 2 [] .nil],kind:=.struct [(0,9,1),(1,51,4)],id:=53}
@[simp] theorem dH:Ar.size=5:=rfl
@[simp] theorem gl:Ar.agg=true∧Ar.zero=[.str [],.int .i64 0,.int .i64 0,.int .i64 0,.vs 2 [] .nil]∧Ar.kind= .struct [(0,9,1),(1,51,4)]:=⟨rfl,rfl,rfl⟩
@[simp] theorem e7:Ar.id=JJ:=rfl
def Jb:TI:={size:=1,bytes:=8,agg:=false,zero:=[.int .i64 0],kind:=.int .i64,id:=54}
@[simp] theorem fv:Jb.size=1:=rfl
@[simp] theorem jp:Jb.agg=false∧Jb.zero=[.int .i64 0]∧Jb.kind= .int .i64:=⟨rfl,rfl,rfl⟩
def Az:TI:={size:=1,bytes:=8,agg:=false,zero:=[.nilfn],kind:=.func,id:=56}
@[simp] theorem Hi:Az.size=1:=rfl
@[simp] theorem IP:Az.agg=false∧Az.zero=[.nilfn]∧Az.kind= .func:=⟨rfl,rfl,rfl⟩
def BQ:TI:={size:=3,bytes:=48,agg:=true,zero:=[.vs 7 [] .nil,.str [],.bool false],kind:=.struct [(0,40,1),(1,9,1),(2,4,1)],id:=61}
@[simp] theorem Js:BQ.size=3:=rfl
@[simp] theorem Kc:BQ.agg=true∧BQ.zero=[.vs 7 [] .nil,.str [],.bool false]∧BQ.kind= .struct [(0,40,1),(1,9,1),(2,4,1)]:=⟨rfl,rfl,rfl⟩
def Dk:TI:={size:=3,bytes:=48,agg:=true,zero:=[.vs 7 [] .nil,.str [],.bool false],kind:=.struct [(0,40,1),(1,9,1),(2,4,1)],id:=62}
@[simp] theorem YD:Dk.size=3:=rfl
@[simp] theorem aS:Dk.agg=true∧Dk.zero=[.vs 7 [] .nil,.str [],.bool false]∧Dk.kind= .struct [(0,40,1),(1,9,1),(2,4,1)]:=⟨rfl,rfl,rfl⟩
def D9:TI:={size:=1,bytes:=24,agg:=false,zero:=[.vs 2 [] .nil],kind:=.slice 71,id:=63}
@[simp] theorem V3:D9.size=1:=rfl
@[simp] theorem YU:D9.agg=false∧D9.zero=[.vs 2 [] .nil]∧D9.kind= .slice 71:=⟨rfl,rfl,rfl⟩
def ET:TI:={size:=1,bytes:=24,agg:=false,zero:=[.vs 2 [] .nil],kind:=.slice 70,id:=67}
@[simp] theorem aB:ET.size=1:=rfl
@[simp] theorem eT:ET.agg=false∧ET.zero=[.vs 2 [] .nil]∧ET.kind= .slice 70:=⟨rfl,rfl,rfl⟩
def Cs:TI:={size:=2,bytes:=24,agg:=true,zero:=[.str [],.int .i64 0],kind:=.struct [(0,9,1),(1,3,1)],id:=69}
@[simp] theorem QY:Cs.size=2:=rfl
@[simp] theorem Sz:Cs.agg=true∧Cs.zero=[.str [],.int .i64 0]∧Cs.kind= .struct [(0,9,1),(1,3,1)]:=⟨rfl,rfl,rfl⟩
def Bz:TI:={size:=2,bytes:=24,agg:=true,zero:=[.str [],.int .i64 0],kind:=.struct [(0,9,1),(1,3,1)],id:=70}
@[simp] theorem dU:Bz.size=2:=rfl
@[simp] theorem g8:Bz.agg=true∧Bz.zero=[.str [],.int .i64 0]∧Bz.kind= .struct [(0,9,1),(1,3,1)]:=⟨rfl,rfl,rfl⟩
def Bm:TI:={size:=2,bytes:=24,agg:=true,zero:=[.str [],.int .i64 0],kind:=.struct [(0,9,1),(1,3,1)],id:=71}
@[simp] theorem Xn:Bm.size=2:=rfl
@[simp] theorem Z6:Bm.agg=true∧Bm.zero=[.str [],.int .i64 0]∧Bm.kind= .struct [(0,9,1),(1,3,1)]:=⟨rfl,rfl,rfl⟩
def A4:TI:={size:=6,bytes:=64,agg:=true,zero:=[.int .i64 0,.str [],.int .i64 0,.int .i64 0,.int .i64 0,.str []],kind:=.struct [(0,3,1),(1,9,1),(2,3,1),(3,3,1),(4,3,1),(5,9,1)],id:=77}
@[simp] theorem Ho:A4.size=6:=rfl
@[simp] theorem IS:A4.agg=true∧A4.zero=[.int .i64 0,.str [],.int .i64 0,.int .i64 0,.int .i64 0,.str []]∧A4.kind= .struct [(0,3,1),(1,9,1),(2,3,1),(3,3,1),(4,3,1),(5,9,1)]:=⟨rfl,rfl,rfl⟩
def OU:TI:={size:=6,bytes:=64,agg:=true,zero:=[.int .i64 0,.str [],.int .i64 0,.int .i64 0,.int .i64 0,.str []],kind:=.struct [(0,3,1),(1,9,1),(2,3,1),(3,3,1),(4,3,1),(5,9,1)],id:=78}
@[simp] theorem jx:OU.size=6:=rfl
@[simp] theorem mI:OU.agg=true∧OU.zero=[.int .i64 0,.str [],.int .i64 0,.int .i64 0,.int .i64 0,.str []]∧OU.kind= .struct [(0,3,1),(1,9,1),(2,3,1),(3,3,1),(4,3,1),(5,9,1)]:=⟨rfl,rfl,rfl⟩
def Dp:TI:={size:=1,bytes:=8,agg:=false,zero:=[.nilfn],kind:=.func,id:=80}
@[simp] theorem Uh:Dp.size=1:=rfl
@[simp] theorem Wr:Dp.agg=false∧Dp.zero=[.nilfn]∧Dp.kind= .func:=⟨rfl,rfl,rfl⟩
def A2:TI:={size:=8,bytes:=88,agg:=true,zero:=[.int .i64 0,.int .i64 0,.int .i64 0,.int .i64 0,.int .i64 0,.str [],.vs 1 [] .nil,.bool false],kind:=.struct [(0,54,1),(1,3,1),(2,3,1),(3,3,1),(4,3,1),(5,9,1),(6,42,1),(7,4,1)],id:=81}
@[simp] theorem Hm:A2.size=8:=rfl
@[simp] theorem IV:A2.agg=true∧A2.zero=[.int .i64 0,.int .i64 0,.int .i64 0,.int .i64 0,.int .i64 0,.str [],.vs 1 [] .nil,.bool false]∧A2.kind= .struct [(0,54,1),(1,3,1),(2,3,1),(3,3,1),(4,3,1),(5,9,1),(6,42,1),(7,4,1)]:=⟨rfl,rfl,rfl⟩
def Hz:TI:={size:=8,bytes:=88,agg:=true,zero:=[.int .i64 0,.int .i64 0,.int .i64 0,.int .i64 0,.int .i64 0,.str [],.vs 1 [] .nil,.bool false],kind:=.struct [(0,54,1),(1,3,1),(2,3,1),(3,3,1),(4,3,1),(5,9,1),(6,42,1),(7,4,1)],id:=82}
@[simp] theorem eZ:Hz.size=8:=rfl
@[simp] theorem iP:Hz.agg=true∧Hz.zero=[.int .i64 0,.int .i64 0,.int .i64 0,.int .i64 0,.int .i64 0,.str [],.vs 1 [] .nil,.bool false]∧Hz.kind= .struct [(0,54,1),(1,3,1),(2,3,1),(3,3,1),(4,3,1),(5,9,1),(6,42,1),(7,4,1)]:=⟨rfl,rfl,rfl⟩
def Ch:TI:={size:=1,bytes:=24,agg:=false,zero:=[.vs 2 [] .nil],kind:=.slice 210,id:=89}
@[simp] theorem cL:Ch.size=1:=rfl
@[simp] theorem fg:Ch.agg=false∧Ch.zero=[.vs 2 [] .nil]∧Ch.kind= .slice 210:=⟨rfl,rfl,rfl⟩
def A0:TI:={size:=7,bytes:=112,agg:=true,zero:=[.int .i64 0,.bool false,.vs 1 [] .nil,.vs 7 [] .nil,.int .i64 0,.vs 2 [] .nil,.str []],kind:=.struct [(0,3,1),(1,4,1),(2,42,1),(3,40,1),(4,3,1),(5,89,1),(6,9,1)],id:=90}
@[simp] theorem Hl:A0.size=7:=rfl
@[simp] theorem IW:A0.agg=true∧A0.zero=[.int .i64 0,.bool false,.vs 1 [] .nil,.vs 7 [] .nil,.int .i64 0,.vs 2 [] .nil,.str []]∧A0.kind= .struct [(0,3,1),(1,4,1),(2,42,1),(3,40,1),(4,3,1),(5,89,1),(6,9,1)]:=⟨rfl,rfl,rfl⟩
def AG:TI:={size:=7,bytes:=112,agg:=true,zero:=[.int .i64 0,.bool false,.vs 1 [] .nil,.vs 7 [] .nil,.int .i64 0,.vs 2 [] .nil,.str []],kind:=.struct [(0,3,1),(1,4,1),(2,42,1),(3,40,1),(4,3,1),(5,89,1),(6,9,1)],id:=91}
@[simp] theorem gr:AG.size=7:=rfl
@[simp] theorem kv:AG.agg=true∧AG.zero=[.int .i64 0,.bool false,.vs 1 [] .nil,.vs 7 [] .nil,.int .i64 0,.vs 2 [] .nil,.str []]∧AG.kind= .struct [(0,3,1),(1,4,1),(2,42,1),(3,40,1),(4,3,1),(5,89,1),(6,9,1)]:=⟨rfl,rfl,rfl⟩
@[simp] theorem jq:AG.id=Qu:=rfl
def Aw:TI:={size:=7,bytes:=80,agg:=true,zero:=[.int .i64 0,.bool false,.int .i64 0,.int .i64 0,.int .i64 0,.vs 2 [] .nil,.str []],kind:=.struct [(0,3,1),(1,4,1),(2,51,4),(6,9,1)],id:=94}
@[simp] theorem Hc:Aw.size=7:=rfl
@[simp] theorem Hr:Aw.agg=true∧Aw.zero=[.int .i64 0,.bool false,.int .i64 0,.int .i64 0,.int .i64 0,.vs 2 [] .nil,.str []]∧Aw.kind= .struct [(0,3,1),(1,4,1),(2,51,4),(6,9,1)]:=⟨rfl,rfl,rfl⟩
def AJ:TI:={size:=7,bytes:=80,agg:=true,zero:=[.int .i64 0,.bool false,.int .i64 0,.int .i64 0,.int .i64 0,.vs 2 [] .nil,.str []],kind:=.struct [(0,3,1),(1,4,1),(2,51,4),(6,9,1)],id:=95}
@[simp] theorem cH:AJ.size=7:=rfl
@[simp] theorem fw:AJ.agg=true∧AJ.zero=[.int .i64 0,.bool false,.int .i64 0,.int .i64 0,.int .i64 0,.vs 2 [] .nil,.str []]∧AJ.kind= .struct [(0,3,1),(1,4,1),(2,51,4),(6,9,1)]:=⟨rfl,rfl,rfl⟩
def Au:TI:={size:=1,bytes:=8,agg:=false,zero:=[.nilfn],kind:=.func,id:=96}
@[simp] theorem He:Au.size=1:=rfl
@[simp] theorem Hp:Au.agg=false∧Au.zero=[.nilfn]∧Au.kind= .func:=⟨rfl,rfl,rfl⟩
def De:TI:={size:=1,bytes:=8,agg:=false,zero:=[.nil],kind:=.ptr 131,id:=98}
@[simp] theorem cF:De.size=1:=rfl
@[simp] theorem gb:De.agg=false∧De.zero=[.nil]∧De.kind= .ptr 131:=⟨rfl,rfl,rfl⟩
def Cj:TI:={size:=1,bytes:=8,agg:=false,zero:=[.nil],kind:=.ptr 152,id:=100}
@[simp] theorem Zw:Cj.size=1:=rfl
@[simp] theorem dJ:Cj.agg=false∧Cj.zero=[.nil]∧Cj.kind= .ptr 152:=⟨rfl,rfl,rfl⟩
def CO:TI:={size:=1,bytes:=8,agg:=false,zero:=[.nil],kind:=.ptr 158,id:=102}
@[simp] theorem Z4:CO.size=1:=rfl
@[simp] theorem dZ:CO.agg=false∧CO.zero=[.nil]∧CO.kind= .ptr 158:=⟨rfl,rfl,rfl⟩
def Fc:TI:={size:=1,bytes:=8,agg:=false,zero:=[.map none],kind:=.map 3 315,id:=104}
@[simp] theorem Z2:Fc.size=1:=rfl
@[simp] theorem cb:Fc.agg=false∧Fc.zero=[.map none]∧Fc.kind= .map 3 315:=⟨rfl,rfl,rfl⟩
def LZ:TI:={size:=1,bytes:=24,agg:=false,zero:=[.vs 1 [] .nil],kind:=.slice 3,id:=105}
@[simp] theorem kV:LZ.size=1:=rfl
@[simp] theorem m9:LZ.agg=false∧LZ.zero=[.vs 1 [] .nil]∧LZ.kind= .slice 3:=⟨rfl,rfl,rfl⟩
def BB:TI:={size:=3,bytes:=40,agg:=true,zero:=[.map none,.int .i64 0,.vs 1 [] .nil],kind:=.struct [(0,104,1),(1,3,1),(2,105,1)],id:=106}
@[simp] theorem IX:BB.size=3:=rfl
@[simp] theorem Ir:BB.agg=true∧BB.zero=[.map none,.int .i64 0,.vs 1 [] .nil]∧BB.kind= .struct [(0,104,1),(1,3,1),(2,105,1)]:=⟨rfl,rfl,rfl⟩
def Jl:TI:={size:=3,bytes:=40,agg:=true,zero:=[.map none,.int .i64 0,.vs 1 [] .nil],kind:=.struct [(0,104,1),(1,3,1),(2,105,1)],id:=107}
@[simp] theorem gJ:Jl.size=3:=rfl
@[simp] theorem js:Jl.agg=true∧Jl.zero=[.map none,.int .i64 0,.vs 1 [] .nil]∧Jl.kind= .struct [(0,104,1),(1,3,1),(2,105,1)]:=⟨rfl,rfl,rfl⟩
def Ax:TI:={size:=7,bytes:=72,agg:=true,zero:=[.nil,.map none,.int .i64 0,.vs 1 [] .nil,.nil,.nil,.map none],kind:=.struct [(0,98,1),(1,107,3),(4,100,1),(5,102,1),(6,31,1)],id:=108}
@[simp] theorem Hg:Ax.size=7:=rfl
@[simp] theorem IU:Ax.agg=true∧Ax.zero=[.nil,.map none,.int .i64 0,.vs 1 [] .nil,.nil,.nil,.map none]∧Ax.kind= .struct [(0,98,1),(1,107,3),(4,100,1),(5,102,1),(6,31,1)]:=⟨rfl,rfl,rfl⟩
def Bf:TI:={size:=7,bytes:=72,agg:=true,zero:=[.nil,.map none,.int .i64 0,.vs 1 [] .nil,.nil,.nil,.map none],kind:=.struct [(0,98,1),(1,107,3),(4,100,1),(5,102,1),(6,31,1)],id:=109}
@[simp] theorem aa:Bf.size=7:=rfl
@[simp] theorem eI:Bf.agg=true∧Bf.zero=[.nil,.map none,.int .i64 0,.vs 1 [] .nil,.nil,.nil,.map none]∧Bf.kind= .struct [(0,98,1),(1,107,3),(4,100,1),(5,102,1),(6,31,1)]:=⟨rfl,rfl,rfl⟩
@[simp] theorem dE:Bf.id=Ce:=rfl
def Fv:TI:={size:=1,bytes:=8,agg:=false,zero:=[.nil],kind:=.ptr 168,id:=112}
@[simp] theorem bw:Fv.size=1:=rfl
@[simp] theorem eA:Fv.agg=false∧Fv.zero=[.nil]∧Fv.kind= .ptr 168:=⟨rfl,rfl,rfl⟩
def EQ:TI:={size:=1,bytes:=8,agg:=false,zero:=[.nil],kind:=.ptr 191,id:=121}
@[simp] theorem ZX:EQ.size=1:=rfl
@[simp] theorem cM:EQ.agg=false∧EQ.zero=[.nil]∧EQ.kind= .ptr 191:=⟨rfl,rfl,rfl⟩
def BT:TI:={size:=3,bytes:=56,agg:=true,zero:=[.vs 1 [] .nil,.vs 7 [] .nil,.int .i64 0],kind:=.struct [(0,42,1),(1,40,1),(2,3,1)],id:=124}
@[simp] theorem KI:BT.size=3:=rfl
@[simp] theorem Ko:BT.agg=true∧BT.zero=[.vs 1 [] .nil,.vs 7 [] .nil,.int .i64 0]∧BT.kind= .struct [(0,42,1),(1,40,1),(2,3,1)]:=⟨rfl,rfl,rfl⟩
def BI:TI:={size:=3,bytes:=56,agg:=true,zero:=[.vs 1 [] .nil,.vs 7 [] .nil,.int .i64 0],kind:=.struct [(0,42,1),(1,40,1),(2,3,1)],id:=125}
@[simp] theorem Zz:BI.size=3:=rfl
@[simp] theorem dS:BI.agg=true∧BI.zero=[.vs 1 [] .nil,.vs 7 [] .nil,.int .i64 0]∧BI.kind= .struct [(0,42,1),(1,40,1),(2,3,1)]:=⟨rfl,rfl,rfl⟩
def FU:TI:={size:=1,bytes:=8,agg:=false,zero:=[.nil],kind:=.ptr 198,id:=129}
@[simp] theorem Z3:FU.size=1:=rfl
@[simp] theorem cS:FU.agg=false∧FU.zero=[.nil]∧FU.kind= .ptr 198:=⟨rfl,rfl,rfl⟩
def BJ:TI:={size:=4,bytes:=48,agg:=true,zero:=[.vs 2 [] .nil,.int .i64 0,.int .i64 0,.nil],kind:=.struct [(0,26,2),(2,3,1),(3,129,1)],id:=130}
@[simp] theorem Jh:BJ.size=4:=rfl
@[simp] theorem J4:BJ.agg=true∧BJ.zero=[.vs 2 [] .nil,.int .i64 0,.int .i64 0,.nil]∧BJ.kind= .struct [(0,26,2),(2,3,1),(3,129,1)]:=⟨rfl,rfl,rfl⟩
def Ez:TI:={size:=4,bytes:=48,agg:=true,zero:=[.vs 2 [] .nil,.int .i64 0,.int .i64 0,.nil],kind:=.struct [(0,26,2),(2,3,1),(3,129,1)],id:=131}
@[simp] theorem eN:Ez.size=4:=rfl
@[simp] theorem ik:Ez.agg=true∧Ez.zero=[.vs 2 [] .nil,.int .i64 0,.int .i64 0,.nil]∧Ez.kind= .struct [(0,26,2),(2,3,1),(3,129,1)]:=⟨rfl,rfl,rfl⟩
@[simp] theorem iA:Ez.id=H0:=rfl
def EI:TI:={size:=1,bytes:=8,agg:=false,zero:=[.nilfn],kind:=.func,id:=134}
@[simp] theorem Wo:EI.size=1:=rfl
@[simp] theorem Zn:EI.agg=false∧EI.zero=[.nilfn]∧EI.kind= .func:=⟨rfl,rfl,rfl⟩
def Aa:TI:={size:=1,bytes:=8,agg:=false,zero:=[.nil],kind:=.ptr 201,id:=149}
@[simp] theorem Qe:Aa.size=1:=rfl
@[simp] theorem TB:Aa.agg=false∧Aa.zero=[.nil]∧Aa.kind= .ptr 201:=⟨rfl,rfl,rfl⟩
def BC:TI:={size:=3,bytes:=24,agg:=true,zero:=[.nil,.int .i64 0,.int .i64 0],kind:=.struct [(0,149,1),(1,3,1),(2,3,1)],id:=151}
@[simp] theorem IT:BC.size=3:=rfl
@[simp] theorem I9:BC.agg=true∧BC.zero=[.nil,.int .i64 0,.int .i64 0]∧BC.kind= .struct [(0,149,1),(1,3,1),(2,3,1)]:=⟨rfl,rfl,rfl⟩
def Dc:TI:={size:=3,bytes:=24,agg:=true,zero:=[.nil,.int .i64 0,.int .i64 0],kind:=.struct [(0,149,1),(1,3,1),(2,3,1)],id:=152}
@[simp] theorem cD:Dc.size=3:=rfl
@[simp] theorem gV:Dc.agg=true∧Dc.zero=[.nil,.int .i64 0,.int .i64 0]∧Dc.kind= .struct [(0,149,1),(1,3,1),(2,3,1)]:=⟨rfl,rfl,rfl⟩
@[simp] theorem ee:Dc.id=DF:=rfl
def Ao:TI:={size:=1,bytes:=8,agg:=false,zero:=[.nil],kind:=.ptr 206,id:=153}
@[simp] theorem RL:Ao.size=1:=rfl
@[simp] theorem To:Ao.agg=false∧Ao.zero=[.nil]∧Ao.kind= .ptr 206:=⟨rfl,rfl,rfl⟩
def CI:TI:={size:=2,bytes:=32,agg:=true,zero:=[.int .i64 0,.vs 2 [] .nil],kind:=.struct [(0,3,1),(1,67,1)],id:=155}
@[simp] theorem OA:CI.size=2:=rfl
@[simp] theorem Pe:CI.agg=true∧CI.zero=[.int .i64 0,.vs 2 [] .nil]∧CI.kind= .struct [(0,3,1),(1,67,1)]:=⟨rfl,rfl,rfl⟩
def BE:TI:={size:=2,bytes:=32,agg:=true,zero:=[.int .i64 0,.vs 2 [] .nil],kind:=.struct [(0,3,1),(1,67,1)],id:=156}
@[simp] theorem dO:BE.size=2:=rfl
@[simp] theorem gm:BE.agg=true∧BE.zero=[.int .i64 0,.vs 2 [] .nil]∧BE.kind= .struct [(0,3,1),(1,67,1)]:=⟨rfl,rfl,rfl⟩
def Ba:TI:={size:=2,bytes:=16,agg:=true,zero:=[.nil,.int .i64 0],kind:=.struct [(0,153,1),(1,3,1)],id:=157}
@[simp] theorem K7:Ba.size=2:=rfl
@[simp] theorem Ly:Ba.agg=true∧Ba.zero=[.nil,.int .i64 0]∧Ba.kind= .struct [(0,153,1),(1,3,1)]:=⟨rfl,rfl,rfl⟩
def Df:TI:={size:=2,bytes:=16,agg:=true,zero:=[.nil,.int .i64 0],kind:=.struct [(0,153,1),(1,3,1)],id:=158}
@[simp] theorem cG:Df.size=2:=rfl
@[simp] theorem ga:Df.agg=true∧Df.zero=[.nil,.int .i64 0]∧Df.kind= .struct [(0,153,1),(1,3,1)]:=⟨rfl,rfl,rfl⟩
@[simp] theorem eD:Df.id=DY:=rfl
def Sn:TI:={size:=1,bytes:=8,agg:=false,zero:=[.nil],kind:=.ptr 3,id:=160}
@[simp] theorem kz:Sn.size=1:=rfl
@[simp] theorem nX:Sn.agg=false∧Sn.zero=[.nil]∧Sn.kind= .ptr 3:=⟨rfl,rfl,rfl⟩
def CV:TI:={size:=2,bytes:=40,agg:=true,zero:=[.str [],.vs 2 [] .nil],kind:=.struct [(0,9,1),(1,49,1)],id:=163}
@[simp] theorem Ph:CV.size=2:=rfl
@[simp] theorem RR:CV.agg=true∧CV.zero=[.str [],.vs 2 [] .nil]∧CV.kind= .struct [(0,9,1),(1,49,1)]:=⟨rfl,rfl,rfl⟩
def Cz:TI:={size:=2,bytes:=40,agg:=true,zero:=[.str [],.vs 2 [] .nil],kind:=.struct [(0,9,1),(1,49,1)],id:=164}
@[simp] theorem g0:Cz.size=2:=rfl
@[simp] theorem kw:Cz.agg=true∧Cz.zero=[.str [],.vs 2 [] .nil]∧Cz.kind= .struct [(0,9,1),(1,49,1)]:=⟨rfl,rfl,rfl⟩
def Bl:TI:={size:=1,bytes:=24,agg:=false,zero:=[.vs 2 [] .nil],kind:=.slice 164,id:=165}
@[simp] theorem eu:Bl.size=1:=rfl
@[simp] theorem jO:Bl.agg=false∧Bl.zero=[.vs 2 [] .nil]∧Bl.kind= .slice 164:=⟨rfl,rfl,rfl⟩
def C5:TI:={size:=1,bytes:=8,agg:=false,zero:=[.nil],kind:=.ptr 53,id:=166}
@[simp] theorem aA:C5.size=1:=rfl
@[simp] theorem eh:C5.agg=false∧C5.zero=[.nil]∧C5.kind= .ptr 53:=⟨rfl,rfl,rfl⟩
def Ay:TI:={size:=5,bytes:=72,agg:=true,zero:=[.vs 1 [] .nil,.vs 2 [] .nil,.bool false,.int .i64 0,.nil],kind:=.struct [(0,42,1),(1,165,1),(2,4,1),(3,3,1),(4,166,1)],id:=167}
@[simp] theorem Hh:Ay.size=5:=rfl
@[simp] theorem IR:Ay.agg=true∧Ay.zero=[.vs 1 [] .nil,.vs 2 [] .nil,.bool false,.int .i64 0,.nil]∧Ay.kind= .struct [(0,42,1),(1,165,1),(2,4,1),(3,3,1),(4,166,1)]:=⟨rfl,rfl,rfl⟩
def El:TI:={size:=5,bytes:=72,agg:=true,zero:=[.vs 1 [] .nil,.vs 2 [] .nil,.bool false,.int .i64 0,.nil],kind:=.struct [(0,42,1),(1,165,1),(2,4,1),(3,3,1),(4,166,1)],id:=168}
@[simp] theorem df:El.size=5:=rfl
@[simp] theorem gp:El.agg=true∧El.zero=[.vs 1 [] .nil,.vs 2 [] .nil,.bool false,.int .i64 0,.nil]∧El.kind= .struct [(0,42,1),(1,165,1),(2,4,1),(3,3,1),(4,166,1)]:=⟨rfl,rfl,rfl⟩
@[simp] theorem gH:El.id=Cp:=rfl
def CX:TI:={size:=2,bytes:=16,agg:=true,zero:=[.int .i64 0,.nil],kind:=.struct [(0,3,1),(1,121,1)],id:=173}
@[simp] theorem Pg:CX.size=2:=rfl
@[simp] theorem RK:CX.agg=true∧CX.zero=[.int .i64 0,.nil]∧CX.kind= .struct [(0,3,1),(1,121,1)]:=⟨rfl,rfl,rfl⟩
def Em:TI:={size:=2,bytes:=16,agg:=true,zero:=[.int .i64 0,.nil],kind:=.struct [(0,3,1),(1,121,1)],id:=174}
@[simp] theorem cU:Em.size=2:=rfl
@[simp] theorem hZ:Em.agg=true∧Em.zero=[.int .i64 0,.nil]∧Em.kind= .struct [(0,3,1),(1,121,1)]:=⟨rfl,rfl,rfl⟩
def DA:TI:={size:=8,bytes:=136,agg:=true,zero:=[.int .i64 0,.bool false,.vs 1 [] .nil,.vs 7 [] .nil,.int .i64 0,.vs 2 [] .nil,.str [],.vs 1 [] .nil],kind:=.struct [(0,91,7),(7,105,1)],id:=175}
@[simp] theorem SY:DA.size=8:=rfl
@[simp] theorem UG:DA.agg=true∧DA.zero=[.int .i64 0,.bool false,.vs 1 [] .nil,.vs 7 [] .nil,.int .i64 0,.vs 2 [] .nil,.str [],.vs 1 [] .nil]∧DA.kind= .struct [(0,91,7),(7,105,1)]:=⟨rfl,rfl,rfl⟩
def BG:TI:={size:=8,bytes:=136,agg:=true,zero:=[.int .i64 0,.bool false,.vs 1 [] .nil,.vs 7 [] .nil,.int .i64 0,.vs 2 [] .nil,.str [],.vs 1 [] .nil],kind:=.struct [(0,91,7),(7,105,1)],id:=176}
@[simp] theorem cE:BG.size=8:=rfl
@[simp] theorem fI:BG.agg=true∧BG.zero=[.int .i64 0,.bool false,.vs 1 [] .nil,.vs 7 [] .nil,.int .i64 0,.vs 2 [] .nil,.str [],.vs 1 [] .nil]∧BG.kind= .struct [(0,91,7),(7,105,1)]:=⟨rfl,rfl,rfl⟩
def B5:TI:={size:=1,bytes:=24,agg:=false,zero:=[.vs 8 [] .nil],kind:=.slice 176,id:=189}
@[simp] theorem Z1:B5.size=1:=rfl
@[simp] theorem dB:B5.agg=false∧B5.zero=[.vs 8 [] .nil]∧B5.kind= .slice 176:=⟨rfl,rfl,rfl⟩
def Cr:TI:={size:=1,bytes:=24,agg:=true,zero:=[.vs 8 [] .nil],kind:=.struct [(0,189,1)],id:=190}
@[simp] theorem Qp:Cr.size=1:=rfl
@[simp] theorem TA:Cr.agg=true∧Cr.zero=[.vs 8 [] .nil]∧Cr.kind= .struct [(0,189,1)]:=⟨rfl,rfl,rfl⟩
def EV:TI:={size:=1,bytes:=24,agg:=true,zero:=[.vs 8 [] .nil],kind:=.struct [(0,189,1)],id:=191}
@[simp] theorem ax:EV.size=1:=rfl
@[simp] theorem eM:EV.agg=true∧EV.zero=[.vs 8 [] .nil]∧EV.kind= .struct [(0,189,1)]:=⟨rfl,rfl,rfl⟩
@[simp] theorem cX:EV.id=DL:=rfl
def Dn:TI:={size:=1,bytes:=8,agg:=false,zero:=[.map none],kind:=.map 3 317,id:=196}
@[simp] theorem Uw:Dn.size=1:=rfl
@[simp] theorem Wp:Dn.agg=false∧Dn.zero=[.map none]∧Dn.kind= .map 3 317:=⟨rfl,rfl,rfl⟩
def BF:TI:={size:=3,bytes:=24,agg:=true,zero:=[.int .i64 0,.int .i64 0,.map none],kind:=.struct [(0,3,1),(1,3,1),(2,196,1)],id:=197}
@[simp] theorem I8:BF.size=3:=rfl
@[simp] theorem Jp:BF.agg=true∧BF.zero=[.int .i64 0,.int .i64 0,.map none]∧BF.kind= .struct [(0,3,1),(1,3,1),(2,196,1)]:=⟨rfl,rfl,rfl⟩
def Er:TI:={size:=3,bytes:=24,agg:=true,zero:=[.int .i64 0,.int .i64 0,.map none],kind:=.struct [(0,3,1),(1,3,1),(2,196,1)],id:=198}
@[simp] theorem cK:Er.size=3:=rfl
@[simp] theorem gd:Er.agg=true∧Er.zero=[.int .i64 0,.int .i64 0,.map none]∧Er.kind= .struct [(0,3,1),(1,3,1),(2,196,1)]:=⟨rfl,rfl,rfl⟩
@[simp] theorem eE:Er.id=Kj:=rfl
def AM:TI:={size:=1,bytes:=24,agg:=false,zero:=[.vs 1 [] .nil],kind:=.slice 202,id:=199}
@[simp] theorem N3:AM.size=1:=rfl
@[simp] theorem PY:AM.agg=false∧AM.zero=[.vs 1 [] .nil]∧AM.kind= .slice 202:=⟨rfl,rfl,rfl⟩
def Bb:TI:={size:=1,bytes:=24,agg:=true,zero:=[.vs 1 [] .nil],kind:=.struct [(0,199,1)],id:=200}
@[simp] theorem K6:Bb.size=1:=rfl
@[simp] theorem L3:Bb.agg=true∧Bb.zero=[.vs 1 [] .nil]∧Bb.kind= .struct [(0,199,1)]:=⟨rfl,rfl,rfl⟩
def Bv:TI:={size:=1,bytes:=24,agg:=true,zero:=[.vs 1 [] .nil],kind:=.struct [(0,199,1)],id:=201}
@[simp] theorem Sk:Bv.size=1:=rfl
@[simp] theorem US:Bv.agg=true∧Bv.zero=[.vs 1 [] .nil]∧Bv.kind= .struct [(0,199,1)]:=⟨rfl,rfl,rfl⟩
@[simp] theorem Tl:Bv.id=Bc:=rfl
def Ad:TI:={size:=1,bytes:=8,agg:=false,zero:=[.nil],kind:=.ptr 241,id:=202}
@[simp] theorem Oi:Ad.size=1:=rfl
@[simp] theorem Pz:Ad.agg=false∧Ad.zero=[.nil]∧Ad.kind= .ptr 241:=⟨rfl,rfl,rfl⟩
def AN:TI:={size:=1,bytes:=24,agg:=false,zero:=[.vs 1 [] .nil],kind:=.slice 207,id:=204}
@[simp] theorem OB:AN.size=1:=rfl
@[simp] theorem PZ:AN.agg=false∧AN.zero=[.vs 1 [] .nil]∧AN.kind= .slice 207:=⟨rfl,rfl,rfl⟩
def Bi:TI:={size:=1,bytes:=24,agg:=true,zero:=[.vs 1 [] .nil],kind:=.struct [(0,204,1)],id:=205}
@[simp] theorem LC:Bi.size=1:=rfl
@[simp] theorem L8:Bi.agg=true∧Bi.zero=[.vs 1 [] .nil]∧Bi.kind= .struct [(0,204,1)]:=⟨rfl,rfl,rfl⟩
def B3:TI:={size:=1,bytes:=24,agg:=true,zero:=[.vs 1 [] .nil],kind:=.struct [(0,204,1)],id:=206}
@[simp] theorem S9:B3.size=1:=rfl
@[simp] theorem Ug:B3.agg=true∧B3.zero=[.vs 1 [] .nil]∧B3.kind= .struct [(0,204,1)]:=⟨rfl,rfl,rfl⟩
@[simp] theorem UR:B3.id=Bk:=rfl
def Af:TI:={size:=1,bytes:=8,agg:=false,zero:=[.nil],kind:=.ptr 244,id:=207}
@[simp] theorem PO:Af.size=1:=rfl
@[simp] theorem Qs:Af.agg=false∧Af.zero=[.nil]∧Af.kind= .ptr 244:=⟨rfl,rfl,rfl⟩
def C1:TI:={size:=2,bytes:=24,agg:=true,zero:=[.int .i64 0,.str []],kind:=.struct [(0,3,1),(1,9,1)],id:=209}
@[simp] theorem RH:C1.size=2:=rfl
@[simp] theorem TS:C1.agg=true∧C1.zero=[.int .i64 0,.str []]∧C1.kind= .struct [(0,3,1),(1,9,1)]:=⟨rfl,rfl,rfl⟩
def Bt:TI:={size:=2,bytes:=24,agg:=true,zero:=[.int .i64 0,.str []],kind:=.struct [(0,3,1),(1,9,1)],id:=210}
@[simp] theorem eV:Bt.size=2:=rfl
@[simp] theorem jV:Bt.agg=true∧Bt.zero=[.int .i64 0,.str []]∧Bt.kind= .struct [(0,3,1),(1,9,1)]:=⟨rfl,rfl,rfl⟩
@[simp] theorem gn:Bt.id=NZ:=rfl
def II:TI:={size:=1,bytes:=24,agg:=false,zero:=[.vs 1 [] .nil],kind:=.slice 42,id:=219}
@[simp] theorem eG:II.size=1:=rfl
@[simp] theorem jW:II.agg=false∧II.zero=[.vs 1 [] .nil]∧II.kind= .slice 42:=⟨rfl,rfl,rfl⟩
def HI:TI:={size:=1,bytes:=24,agg:=false,zero:=[.vs 2 [] .nil],kind:=.slice 225,id:=221}
@[simp] theorem dk:HI.size=1:=rfl
@[simp] theorem iB:HI.agg=false∧HI.zero=[.vs 2 [] .nil]∧HI.kind= .slice 225:=⟨rfl,rfl,rfl⟩
def C3:TI:={size:=2,bytes:=24,agg:=true,zero:=[.str [],.int .i64 0],kind:=.struct [(0,9,1),(1,3,1)],id:=224}
@[simp] theorem RM:C3.size=2:=rfl
@[simp] theorem TH:C3.agg=true∧C3.zero=[.str [],.int .i64 0]∧C3.kind= .struct [(0,9,1),(1,3,1)]:=⟨rfl,rfl,rfl⟩
def BU:TI:={size:=2,bytes:=24,agg:=true,zero:=[.str [],.int .i64 0],kind:=.struct [(0,9,1),(1,3,1)],id:=225}
@[simp] theorem fO:BU.size=2:=rfl
@[simp] theorem jf:BU.agg=true∧BU.zero=[.str [],.int .i64 0]∧BU.kind= .struct [(0,9,1),(1,3,1)]:=⟨rfl,rfl,rfl⟩
@[simp] theorem jP:BU.id=Tu:=rfl
def OD:TI:={size:=1,bytes:=4,agg:=false,zero:=[.int .u32 0],kind:=.int .u32,id:=226}
@[simp] theorem jg:OD.size=1:=rfl
@[simp] theorem m4:OD.agg=false∧OD.zero=[.int .u32 0]∧OD.kind= .int .u32:=⟨rfl,rfl,rfl⟩
def Eb:TI:={size:=1,bytes:=8,agg:=false,zero:=[.nil],kind:=.ptr 231,id:=228}
@[simp] theorem XB:Eb.size=1:=rfl
@[simp] theorem Zy:Eb.agg=false∧Eb.zero=[.nil]∧Eb.kind= .ptr 231:=⟨rfl,rfl,rfl⟩
def MI:TI:={size:=1,bytes:=24,agg:=false,zero:=[.vs 1 [] .nil],kind:=.slice 5,id:=229}
@[simp] theorem iU:MI.size=1:=rfl
@[simp] theorem lZ:MI.agg=false∧MI.zero=[.vs 1 [] .nil]∧MI.kind= .slice 5:=⟨rfl,rfl,rfl⟩
def Bh:TI:={size:=2,bytes:=32,agg:=true,zero:=[.nil,.vs 1 [] .nil],kind:=.struct [(0,228,1),(1,229,1)],id:=230}
@[simp] theorem LF:Bh.size=2:=rfl
@[simp] theorem MA:Bh.agg=true∧Bh.zero=[.nil,.vs 1 [] .nil]∧Bh.kind= .struct [(0,228,1),(1,229,1)]:=⟨rfl,rfl,rfl⟩
def EP:TI:={size:=2,bytes:=32,agg:=true,zero:=[.nil,.vs 1 [] .nil],kind:=.struct [(0,228,1),(1,229,1)],id:=231}
@[simp] theorem Zm:EP.size=2:=rfl
@[simp] theorem cC:EP.agg=true∧EP.zero=[.nil,.vs 1 [] .nil]∧EP.kind= .struct [(0,228,1),(1,229,1)]:=⟨rfl,rfl,rfl⟩
@[simp] theorem aG:EP.id=LM:=rfl
def Db:TI:={size:=1,bytes:=16,agg:=false,zero:=[.nilifc],kind:=.iface,id:=232}
@[simp] theorem T7:Db.size=1:=rfl
@[simp] theorem WC:Db.agg=false∧Db.zero=[.nilifc]∧Db.kind= .iface:=⟨rfl,rfl,rfl⟩
def Rq:TI:={size:=1,bytes:=16,agg:=false,zero:=[.nilifc],kind:=.iface,id:=233}
@[simp] theorem lB:Rq.size=1:=rfl
@[simp] theorem nj:Rq.agg=false∧Rq.zero=[.nilifc]∧Rq.kind= .iface:=⟨rfl,rfl,rfl⟩
def AU:TI:={size:=1,bytes:=24,agg:=false,zero:=[.vs 8 [] .nil],kind:=.slice 267,id:=239}
@[simp] theorem PT:AU.size=1:=rfl
@[simp] theorem RC:AU.agg=false∧AU.zero=[.vs 8 [] .nil]∧AU.kind= .slice 267:=⟨rfl,rfl,rfl⟩
def BK:TI:={size:=2,bytes:=32,agg:=true,zero:=[.int .i64 0,.vs 8 [] .nil],kind:=.struct [(0,3,1),(1,239,1)],id:=240}
@[simp] theorem Jq:BK.size=2:=rfl
@[simp] theorem KZ:BK.agg=true∧BK.zero=[.int .i64 0,.vs 8 [] .nil]∧BK.kind= .struct [(0,3,1),(1,239,1)]:=⟨rfl,rfl,rfl⟩
def Bp:TI:={size:=2,bytes:=32,agg:=true,zero:=[.int .i64 0,.vs 8 [] .nil],kind:=.struct [(0,3,1),(1,239,1)],id:=241}
@[simp] theorem Pj:Bp.size=2:=rfl
@[simp] theorem RN:Bp.agg=true∧Bp.zero=[.int .i64 0,.vs 8 [] .nil]∧Bp.kind= .struct [(0,3,1),(1,239,1)]:=⟨rfl,rfl,rfl⟩
@[simp] theorem Q1:Bp.id=BY:=rfl
def AW:TI:={size:=1,bytes:=24,agg:=false,zero:=[.vs 3 [] .nil],kind:=.slice 271,id:=242}
@[simp] theorem Pa:AW.size=1:=rfl
@[simp] theorem RJ:AW.agg=false∧AW.zero=[.vs 3 [] .nil]∧AW.kind= .slice 271:=⟨rfl,rfl,rfl⟩
def BP:TI:={size:=2,bytes:=32,agg:=true,zero:=[.int .i64 0,.vs 3 [] .nil],kind:=.struct [(0,3,1),(1,242,1)],id:=243}
@[simp] theorem Jt:BP.size=2:=rfl
@[simp] theorem Kd:BP.agg=true∧BP.zero=[.int .i64 0,.vs 3 [] .nil]∧BP.kind= .struct [(0,3,1),(1,242,1)]:=⟨rfl,rfl,rfl⟩
def Bx:TI:={size:=2,bytes:=32,agg:=true,zero:=[.int .i64 0,.vs 3 [] .nil],kind:=.struct [(0,3,1),(1,242,1)],id:=244}
@[simp] theorem QB:Bx.size=2:=rfl
@[simp] theorem Rw:Bx.agg=true∧Bx.zero=[.int .i64 0,.vs 3 [] .nil]∧Bx.kind= .struct [(0,3,1),(1,242,1)]:=⟨rfl,rfl,rfl⟩
@[simp] theorem RQ:Bx.id=BZ:=rfl
def VC:TI:={size:=1,bytes:=8,agg:=false,zero:=[.int .u64 0],kind:=.int .u64,id:=247}
@[simp] theorem lp:VC.size=1:=rfl
@[simp] theorem oA:VC.agg=false∧VC.zero=[.int .u64 0]∧VC.kind= .int .u64:=⟨rfl,rfl,rfl⟩
def D0:TI:={size:=1,bytes:=8,agg:=false,zero:=[.nil],kind:=.ptr 254,id:=249}
@[simp] theorem cB:D0.size=1:=rfl
@[simp] theorem gF:D0.agg=false∧D0.zero=[.nil]∧D0.kind= .ptr 254:=⟨rfl,rfl,rfl⟩
@[simp] theorem ev:D0.id=C0:=rfl
def CA:TI:={size:=1,bytes:=8,agg:=false,zero:=[.nilfn],kind:=.func,id:=250}
@[simp] theorem Pc:CA.size=1:=rfl
@[simp] theorem RI:CA.agg=false∧CA.zero=[.nilfn]∧CA.kind= .func:=⟨rfl,rfl,rfl⟩
def Bs:TI:={size:=1,bytes:=24,agg:=false,zero:=[.vs 3 [] .nil],kind:=.slice 256,id:=252}
@[simp] theorem dm:Bs.size=1:=rfl
@[simp] theorem gu:Bs.agg=false∧Bs.zero=[.vs 3 [] .nil]∧Bs.kind= .slice 256:=⟨rfl,rfl,rfl⟩
def A8:TI:={size:=2,bytes:=32,agg:=true,zero:=[.vs 3 [] .nil,.nilfn],kind:=.struct [(0,252,1),(1,250,1)],id:=253}
@[simp] theorem ID:A8.size=2:=rfl
@[simp] theorem Ip:A8.agg=true∧A8.zero=[.vs 3 [] .nil,.nilfn]∧A8.kind= .struct [(0,252,1),(1,250,1)]:=⟨rfl,rfl,rfl⟩
def Fs:TI:={size:=2,bytes:=32,agg:=true,zero:=[.vs 3 [] .nil,.nilfn],kind:=.struct [(0,252,1),(1,250,1)],id:=254}
@[simp] theorem eU:Fs.size=2:=rfl
@[simp] theorem iu:Fs.agg=true∧Fs.zero=[.vs 3 [] .nil,.nilfn]∧Fs.kind= .struct [(0,252,1),(1,250,1)]:=⟨rfl,rfl,rfl⟩
@[simp] theorem gt:Fs.id=Dz:=rfl
def CT:TI:={size:=3,bytes:=48,agg:=true,zero:=[.str [],.int .i64 0,.vs 1 [] .nil],kind:=.struct [(0,225,2),(2,42,1)],id:=255}
@[simp] theorem PM:CT.size=3:=rfl
@[simp] theorem Qv:CT.agg=true∧CT.zero=[.str [],.int .i64 0,.vs 1 [] .nil]∧CT.kind= .struct [(0,225,2),(2,42,1)]:=⟨rfl,rfl,rfl⟩
def BH:TI:={size:=3,bytes:=48,agg:=true,zero:=[.str [],.int .i64 0,.vs 1 [] .nil],kind:=.struct [(0,225,2),(2,42,1)],id:=256}
@[simp] theorem TL:BH.size=3:=rfl
@[simp] theorem jc:BH.agg=true∧BH.zero=[.str [],.int .i64 0,.vs 1 [] .nil]∧BH.kind= .struct [(0,225,2),(2,42,1)]:=⟨rfl,rfl,rfl⟩
@[simp] theorem iw:BH.id=UW:=rfl
def HD:TI:={size:=1,bytes:=8,agg:=false,zero:=[.nil],kind:=.ptr 256,id:=258}
@[simp] theorem dp:HD.size=1:=rfl
@[simp] theorem hG:HD.agg=false∧HD.zero=[.nil]∧HD.kind= .ptr 256:=⟨rfl,rfl,rfl⟩
def MD:TI:={size:=1,bytes:=8,agg:=false,zero:=[.nil],kind:=.ptr 5,id:=264}
@[simp] theorem jS:MD.size=1:=rfl
@[simp] theorem lU:MD.agg=false∧MD.zero=[.nil]∧MD.kind= .ptr 5:=⟨rfl,rfl,rfl⟩
def B4:TI:={size:=8,bytes:=96,agg:=true,zero:=[.str [],.int .i64 0,.bool false,.int .i64 0,.int .i64 0,.int .i64 0,.vs 2 [] .nil,.str []],kind:=.struct [(0,9,1),(1,95,7)],id:=266}
@[simp] theorem Mh:B4.size=8:=rfl
@[simp] theorem Ny:B4.agg=true∧B4.zero=[.str [],.int .i64 0,.bool false,.int .i64 0,.int .i64 0,.int .i64 0,.vs 2 [] .nil,.str []]∧B4.kind= .struct [(0,9,1),(1,95,7)]:=⟨rfl,rfl,rfl⟩
def AD:TI:={size:=8,bytes:=96,agg:=true,zero:=[.str [],.int .i64 0,.bool false,.int .i64 0,.int .i64 0,.int .i64 0,.vs 2 [] .nil,.str []],kind:=.struct [(0,9,1),(1,95,7)],id:=267}
@[simp] theorem QM:AD.size=8:=rfl
@[simp] theorem SS:AD.agg=true∧AD.zero=[.str [],.int .i64 0,.bool false,.int .i64 0,.int .i64 0,.int .i64 0,.vs 2 [] .nil,.str []]∧AD.kind= .struct [(0,9,1),(1,95,7)]:=⟨rfl,rfl,rfl⟩
def B7:TI:={size:=3,bytes:=48,agg:=true,zero:=[.str [],.int .i64 0,.vs 2 [] .nil],kind:=.struct [(0,9,1),(1,156,2)],id:=270}
@[simp] theorem Nb:B7.size=3:=rfl
@[simp] theorem N9:B7.agg=true∧B7.zero=[.str [],.int .i64 0,.vs 2 [] .nil]∧B7.kind= .struct [(0,9,1),(1,156,2)]:=⟨rfl,rfl,rfl⟩
def AE:TI:={size:=3,bytes:=48,agg:=true,zero:=[.str [],.int .i64 0,.vs 2 [] .nil],kind:=.struct [(0,9,1),(1,156,2)],id:=271}
@[simp] theorem Qt:AE.size=3:=rfl
@[simp] theorem TC:AE.agg=true∧AE.zero=[.str [],.int .i64 0,.vs 2 [] .nil]∧AE.kind= .struct [(0,9,1),(1,156,2)]:=⟨rfl,rfl,rfl⟩
def A1:TI:={size:=1,bytes:=16,agg:=false,zero:=[.nilifc],kind:=.iface,id:=273}
@[simp] theorem Hk:A1.size=1:=rfl
@[simp] theorem IZ:A1.agg=false∧A1.zero=[.nilifc]∧A1.kind= .iface:=⟨rfl,rfl,rfl⟩
def Ff:TI:={size:=1,bytes:=16,agg:=false,zero:=[.nilifc],kind:=.iface,id:=274}
@[simp] theorem Zx:Ff.size=1:=rfl
@[simp] theorem dj:Ff.agg=false∧Ff.zero=[.nilifc]∧Ff.kind= .iface:=⟨rfl,rfl,rfl⟩
def DB:TI:={size:=0,bytes:=0,agg:=true,zero:=[],kind:=.array 0 16,id:=305}
@[simp] theorem SG:DB.size=0:=rfl
@[simp] theorem Ua:DB.agg=true∧DB.zero=[]∧DB.kind= .array 0 16:=⟨rfl,rfl,rfl⟩
def CJ:TI:={size:=0,bytes:=0,agg:=true,zero:=[],kind:=.struct [(0,305,0)],id:=306}
@[simp] theorem OC:CJ.size=0:=rfl
@[simp] theorem Pl:CJ.agg=true∧CJ.zero=[]∧CJ.kind= .struct [(0,305,0)]:=⟨rfl,rfl,rfl⟩
def Dq:TI:={size:=0,bytes:=0,agg:=true,zero:=[],kind:=.struct [(0,305,0)],id:=307}
@[simp] theorem Ui:Dq.size=0:=rfl
@[simp] theorem Wq:Dq.agg=true∧Dq.zero=[]∧Dq.kind= .struct [(0,305,0)]:=⟨rfl,rfl,rfl⟩
def JX:TI:={size:=1,bytes:=1,agg:=false,zero:=[.int .u8 0],kind:=.int .u8,id:=308}
@[simp] theorem fY:JX.size=1:=rfl
@[simp] theorem ju:JX.agg=false∧JX.zero=[.int .u8 0]∧JX.kind= .int .u8:=⟨rfl,rfl,rfl⟩
def Kl:TI:={size:=1,bytes:=1,agg:=false,zero:=[.int .u8 0],kind:=.int .u8,id:=309}
@[simp] theorem gh:Kl.size=1:=rfl
@[simp] theorem kP:Kl.agg=false∧Kl.zero=[.int .u8 0]∧Kl.kind= .int .u8:=⟨rfl,rfl,rfl⟩
def Bo:TI:={size:=1,bytes:=8,agg:=false,zero:=[.nilfn],kind:=.func,id:=310}
@[simp] theorem L1:Bo.size=1:=rfl
@[simp] theorem Mi:Bo.agg=false∧Bo.zero=[.nilfn]∧Bo.kind= .func:=⟨rfl,rfl,rfl⟩
def G8:TI:={size:=1,bytes:=4,agg:=false,zero:=[.int .i32 0],kind:=.int .i32,id:=311}
@[simp] theorem da:G8.size=1:=rfl
@[simp] theorem g9:G8.agg=false∧G8.zero=[.int .i32 0]∧G8.kind= .int .i32:=⟨rfl,rfl,rfl⟩
def HE:TI:={size:=1,bytes:=4,agg:=false,zero:=[.int .i32 0],kind:=.int .i32,id:=312}
@[simp] theorem cm:HE.size=1:=rfl
@[simp] theorem hX:HE.agg=false∧HE.zero=[.int .i32 0]∧HE.kind= .int .i32:=⟨rfl,rfl,rfl⟩
def A3:TI:={size:=11,bytes:=48,agg:=true,zero:=[.int .u64 0,.int .u64 0,.int .u32 0,.int .u8 0,.int .u8 0,.int .u8 0,.int .u8 0,.nilfn,.nil,.int .i32 0,.int .i32 0],kind:=.struct [(0,12,1),(1,12,1),(2,226,1),(3,308,1),(4,5,1),(5,5,1),(6,309,1),(7,310,1),(8,264,1),(9,311,1),(10,312,1)],id:=313}
@[simp] theorem Hf:A3.size=11:=rfl
@[simp] theorem IQ:A3.agg=true∧A3.zero=[.int .u64 0,.int .u64 0,.int .u32 0,.int .u8 0,.int .u8 0,.int .u8 0,.int .u8 0,.nilfn,.nil,.int .i32 0,.int .i32 0]∧A3.kind= .struct [(0,12,1),(1,12,1),(2,226,1),(3,308,1),(4,5,1),(5,5,1),(6,309,1),(7,310,1),(8,264,1),(9,311,1),(10,312,1)]:=⟨rfl,rfl,rfl⟩
def Kt:TI:={size:=11,bytes:=48,agg:=true,zero:=[.int .u64 0,.int .u64 0,.int .u32 0,.int .u8 0,.int .u8 0,.int .u8 0,.int .u8 0,.nilfn,.nil,.int .i32 0,.int .i32 0],kind:=.struct [(0,12,1),(1,12,1),(2,226,1),(3,308,1),(4,5,1),(5,5,1),(6,309,1),(7,310,1),(8,264,1),(9,311,1),(10,312,1)],id:=314}
@[simp] theorem hU:Kt.size=11:=rfl
@[simp] theorem kf:Kt.agg=true∧Kt.zero=[.int .u64 0,.int .u64 0,.int .u32 0,.int .u8 0,.int .u8 0,.int .u8 0,.int .u8 0,.nilfn,.nil,.int .i32 0,.int .i32 0]∧Kt.kind= .struct [(0,12,1),(1,12,1),(2,226,1),(3,308,1),(4,5,1),(5,5,1),(6,309,1),(7,310,1),(8,264,1),(9,311,1),(10,312,1)]:=⟨rfl,rfl,rfl⟩
def Om:TI:={size:=0,bytes:=0,agg:=true,zero:=[],kind:=.struct [],id:=315}
@[simp] theorem jh:Om.size=0:=rfl
@[simp] theorem mU:Om.agg=true∧Om.zero=[]∧Om.kind= .struct []:=⟨rfl,rfl,rfl⟩
def B9:TI:={size:=3,bytes:=32,agg:=true,zero:=[.int .i64 0,.str [],.int .i64 0],kind:=.struct [(0,3,1),(1,9,1),(2,3,1)],id:=316}
@[simp] theorem Nd:B9.size=3:=rfl
@[simp] theorem Ou:B9.agg=true∧B9.zero=[.int .i64 0,.str [],.int .i64 0]∧B9.kind= .struct [(0,3,1),(1,9,1),(2,3,1)]:=⟨rfl,rfl,rfl⟩
def Fy:TI:={size:=3,bytes:=32,agg:=true,zero:=[.int .i64 0,.str [],.int .i64 0],kind:=.struct [(0,3,1),(1,9,1),(2,3,1)],id:=317}
@[simp] theorem aj:Fy.size=3:=rfl
@[simp] theorem eQ:Fy.agg=true∧Fy.zero=[.int .i64 0,.str [],.int .i64 0]∧Fy.kind= .struct [(0,3,1),(1,9,1),(2,3,1)]:=⟨rfl,rfl,rfl⟩
def mF:Nat→TI
 |1=>WD
 |2=>SF
 |3=>Ak
 |4=>Gk
 |5=>HM
 |6=>D6
 |7=>A5
 |8=>D7
 |9=>AH
 |10=>D8
 |12=>MH
 |16=>DU
 |17=>IF
 |20=>JV
 |21=>Sd
 |22=>D1
 |23=>Jj
 |24=>DM
 |25=>CL
 |26=>AL
 |27=>CQ
 |29=>Bu
 |30=>ER
 |31=>Bg
 |32=>BL
 |33=>C8
 |34=>Cv
 |35=>Ah
 |40=>BR
 |41=>GH
 |42=>Ai
 |46=>C2
 |47=>BV
 |48=>HJ
 |49=>CS
 |50=>Bj
 |51=>BW
 |52=>CY
 |53=>Ar
 |54=>Jb
 |56=>Az
 |61=>BQ
 |62=>Dk
 |63=>D9
 |67=>ET
 |69=>Cs
 |70=>Bz
 |71=>Bm
 |77=>A4
 |78=>OU
 |80=>Dp
 |81=>A2
 |82=>Hz
 |89=>Ch
 |90=>A0
 |91=>AG
 |94=>Aw
 |95=>AJ
 |96=>Au
 |98=>De
 |100=>Cj
 |102=>CO
 |104=>Fc
 |105=>LZ
 |106=>BB
 |107=>Jl
 |108=>Ax
 |109=>Bf
 |112=>Fv
 |121=>EQ
 |124=>BT
 |125=>BI
 |129=>FU
 |130=>BJ
 |131=>Ez
 |134=>EI
 |149=>Aa
 |151=>BC
 |152=>Dc
 |153=>Ao
 |155=>CI
 |156=>BE
 |157=>Ba
 |158=>Df
 |160=>Sn
 |163=>CV
 |164=>Cz
 |165=>Bl
 |166=>C5
 |167=>Ay
 |168=>El
 |173=>CX
 |174=>Em
 |175=>DA
 |176=>BG
 |189=>B5
 |190=>Cr
 |191=>EV
 |196=>Dn
 |197=>BF
 |198=>Er
 |199=>AM
 |200=>Bb
 |201=>Bv
 |202=>Ad
 |204=>AN
 |205=>Bi
 |206=>B3
 |207=>Af
 |209=>C1
 |210=>Bt
 |219=>II
 |221=>HI
 |224=>C3
 |225=>BU
 |226=>OD
 |228=>Eb
 |229=>MI
 |230=>Bh
 |231=>EP
 |232=>Db
 |233=>Rq
 |239=>AU
 |240=>BK
 |241=>Bp
 |242=>AW
 |243=>BP
 |244=>Bx
 |247=>VC
 |249=>D0
 |250=>CA
 |252=>Bs
 |253=>A8
 |254=>Fs
 |255=>CT
 |256=>BH
 |258=>HD
 |264=>MD
 |266=>B4
 |267=>AD
 |270=>B7
 |271=>AE
 |273=>A1
 |274=>Ff
 |305=>DB
 |306=>CJ
 |307=>Dq
 |308=>JX
 |309=>Kl
 |310=>Bo
 |311=>G8
 |312=>HE
 |313=>A3
 |314=>Kt
 |315=>Om
 |316=>B9
 |317=>Fy
 |n=>{size:=0,bytes:=0,agg:=false,zero:=[],kind:=match n with|0|36|44|55|58|64|72|87|113|115|119|132|140|142|145|161|178|183|194|216|234|261|280|283|285|291=>.tuple|_=>.other}
def oP:Nat→Nat→Bool
 |3,3=>true
 |3,7=>true
 |3,8=>true
 |4,3=>true
 |4,4=>true
 |4,7=>true
 |4,13=>true
 |4,15=>true
 |4,17=>true
 |5,2=>true
 |5,5=>true
 |5,7=>true
 |5,15=>true
 |7,1=>true
 |7,4=>true
 |7,5=>true
 |7,9=>true
 |9,4=>true
 |10,4=>true
 |12,4=>true
 |13,2=>true
 |13,5=>true
 |13,6=>true
 |14,6=>true
 |14,10=>true
 |14,18=>true
 |15,3=>true
 |15,6=>true
 |15,14=>true
 |17,7=>true
 |21,6=>true
 |22,4=>true
 |23,1=>true
 |23,3=>true
 |23,4=>true
 |23,5=>true
 |26,1=>true
 |27,2=>true
 |27,3=>true
 |27,4=>true
 |27,6=>true
 |28,2=>true
 |28,3=>true
 |29,3=>true
 |29,4=>true
 |29,5=>true
 |29,6=>true
 |30,2=>true
 |30,4=>true
 |30,6=>true
 |31,4=>true
 |32,2=>true
 |33,1=>true
 |34,7=>true
 |34,12=>true
 |34,13=>true
 |34,15=>true
 |34,17=>true
 |35,1=>true
 |36,2=>true
 |39,1=>true
 |40,1=>true
 |43,2=>true
 |43,3=>true
 |43,4=>true
 |44,5=>true
 |45,3=>true
 |45,6=>true
 |45,8=>true
 |45,10=>true
 |46,2=>true
 |50,6=>true
 |54,2=>true
 |54,7=>true
 |59,2=>true
 |60,2=>true
 |61,2=>true
 |63,9=>true
 |64,1=>true
 |65,2=>true
 |65,4=>true
 |68,8=>true
 |68,10=>true
 |69,7=>true
 |69,10=>true
 |74,3=>true
 |74,8=>true
 |74,10=>true
 |75,1=>true
 |76,1=>true
 |77,1=>true
 |79,2=>true
 |82,8=>true
 |84,4=>true
 |88,10=>true
 |91,8=>true
 |92,9=>true
 |93,2=>true
 |93,7=>true
 |93,11=>true
 |97,11=>true
 |98,1=>true
 |99,3=>true
 |99,6=>true
 |99,8=>true
 |100,4=>true
 |101,1=>true
 |101,2=>true
 |102,5=>true
 |105,1=>true
 |116,4=>true
 |117,5=>true
 |119,5=>true
 |126,3=>true
 |126,11=>true
 |128,4=>true
 |128,7=>true
 |128,8=>true
 |129,5=>true
 |131,1=>true
 |136,2=>true
 |137,4=>true
 |137,7=>true
 |137,8=>true
 |138,5=>true
 |139,2=>true
 |139,3=>true
 |148,1=>true
 |149,7=>true
 |150,1=>true
 |151,6=>true
 |152,4=>true
 |158,6=>true
 |159,4=>true
 |214,4=>true
 |8,2=>true
 |8,3=>true
 |_,_=>false
def lz:Nat→Nat→List Nat×List Nat
 |3,8=>([22],[])
 |4,8=>([44],[3,4])
 |4,23=>([129],[15,17])
 |5,14=>([70],[7])
 |5,19=>([83],[])
 |12,4=>([10],[])
 |13,4=>([14],[2])
 |14,5=>([36],[6,10])
 |15,4=>([],[3,6])
 |18,3=>([3,7],[])
 |28,4=>([5],[2,3])
 |30,3=>([11],[2,4])
 |35,3=>([3,7],[1])
 |42,1=>([],[])
 |45,3=>([17],[3,8])
 |51,3=>([3,4],[])
 |51,6=>([3,5],[])
 |51,11=>([6,7],[])
 |72,3=>([11],[])
 |73,3=>([11],[])
 |74,3=>([27],[])
 |74,11=>([59],[])
 |75,2=>([3],[1])
 |76,3=>([3,4],[1])
 |77,3=>([3,4],[1])
 |78,4=>([2,17],[])
 |85,3=>([3,11],[])
 |86,3=>([3,11],[])
 |87,6=>([0,4,5,6],[])
 |89,4=>([5,6,7],[])
 |90,7=>([6],[])
 |93,3=>([22],[2])
 |93,11=>([9,45],[2])
 |96,3=>([0,3,4],[])
 |96,5=>([5],[])
 |97,6=>([32],[])
 |99,5=>([29],[6])
 |108,3=>([7,8],[])
 |111,4=>([3],[])
 |112,3=>([5,6],[])
 |113,2=>([5],[])
 |114,3=>([5,6],[])
 |115,3=>([3,4],[])
 |119,3=>([3,8],[])
 |120,4=>([4,13],[])
 |120,12=>([7],[])
 |121,3=>([3,7],[])
 |126,16=>([66],[])
 |130,4=>([5],[])
 |131,4=>([3],[1])
 |136,2=>([5],[2])
 |140,2=>([3],[])
 |149,3=>([5,10],[])
 |150,2=>([8],[1])
 |151,2=>([12],[])
 |158,2=>([12],[])
 |160,2=>([7],[])
 |161,0=>([1],[])
 |_,_=>([],[])
def kS:List Nat:=[1,2,3,4,5,6,7,8,9,10,12,16,17,20,21,22,23,24,25,26,27,29,30,31,32,33,34,35,40,41,42,46,47,48,49,50,51,52,53,54,56,61,62,63,67,69,70,71,77,78,80,81,82,89,90,91,94,95,96,98,100,102,104,105,106,107,108,109,112,121,124,125,129,130,131,134,149,151,152,153,155,156,157,158,160,163,164,165,166,167,168,173,174,175,176,189,190,191,196,197,198,199,200,201,202,204,205,206,207,209,210,219,221,224,225,226,228,229,230,231,232,233,239,240,241,242,243,244,247,249,250,252,253,254,255,256,258,264,266,267,270,271,273,274,305,306,307,308,309,310,311,312,313,314,315,316,317]
def pT:Nat:=533931573829036425805510797572852318908689773841888875591938140559269193285004014669377337235454
def eH(t:Nat):Bool:=Nat.testBit pT t
def mH:List Nat:=[7,8,29,30,32,33,34,35,46,47,69,70,71,77,78,209,210,224,225,315,316,317]
def iH:Nat→Bool
 |7=>true
 |8=>true
 |29=>true
 |30=>true
 |32=>true
 |33=>true
 |34=>true
 |35=>true
 |46=>true
 |47=>true
 |69=>true
 |70=>true
 |71=>true
 |77=>true
 |78=>true
 |209=>true
 |210=>true
 |224=>true
 |225=>true
 |315=>true
 |316=>true
 |317=>true
 |_=>false
def kD:Nat→Bool
 |176=>true
 |202=>true
 |207=>true
 |256=>true
 |267=>true
 |271=>true
 |_=>false
def Ju(t:Nat)(m:String):Option Nat:=
 match t with
 |249=>if m= "Len" then some FX else if m= "Less" then some F8 else if m= "Pop" then some Gb else if m= "Swap" then some GB else none
 |_=>none
@[simp] theorem Z7:Ju C0 "Len" =some FX:=by simp[Ju]
@[simp] theorem Zg:Ju C0 "Less" =some F8:=by simp[Ju]
@[simp] theorem Z5:Ju C0 "Pop" =some Gb:=by simp[Ju]
@[simp] theorem ZH:Ju C0 "Swap" =some GB:=by simp[Ju]
def pS:Nat→Nat→Bool
 |78,2=>true
 |78,3=>true
 |78,4=>true
 |78,38=>true
 |78,40=>true
 |78,43=>true
 |_,_=>false
def C:Ctx:={ty:=mF,has:=eH,eqk:=iH,loc:=oP,byref:=kD,meth:=Ju,live:=lz,tk:=pS}
@[simp] theorem jF:C.meth=Ju:=rfl
noncomputable def En(w0:World):Env:=⟨Tryz.prog,C,w0⟩
theorem bI{m n t:Nat}(h:Nat.ble (m.log2+1) n=true)(c:¬t < n):m.testBit t=false:=by
 by_cases h0:m=0
 ·rw[h0];exact Nat.zero_testBit t
 ·exact Nat.testBit_lt_two_pow (Nat.lt_of_lt_of_le ((Nat.log2_lt h0).1 (Nat.le_of_ble_eq_true h)) (Nat.pow_le_pow_right (by decide) (Nat.le_of_not_lt c)))
theorem fW:∀t,eH t=true→kS.elem t=true:=by
 intro t h
 by_cases c:t < 318
 ·have h2:=List.all_eq_true.1 (show (List.range 318).all (fun t=>!(eH t)||kS.elem t)=true by kernel_rfl) t (List.mem_range.2 c)
  rw[h] at h2;simpa using h2
 ·unfold eH at h;rw[bI (n:=318) (by kernel_rfl) c] at h
  cases h
theorem gB:∀t,iH t=true→mH.elem t=true:=by
 intro t h;unfold iH at h;split at h<;>first|rfl|cases h
theorem oB:kS.all (fun t=>U2 Tryz.prog t (mF t))=true:=by kernel_rfl
theorem oT:mH.all (fun t=>Ot Tryz.prog t (mF t).zero)=true:=by kernel_rfl
theorem o5(v:Value)(w:World):(method (Tryz.prog.types.size+Made.depth) 249 v "Len").run Tryz.prog w= .ok (141,v) w:=by kernel_rfl
theorem oO(v:Value)(w:World):(method (Tryz.prog.types.size+Made.depth) 249 v "Less").run Tryz.prog w= .ok (213,v) w:=by kernel_rfl
theorem ol(v:Value)(w:World):(method (Tryz.prog.types.size+Made.depth) 249 v "Pop").run Tryz.prog w= .ok (214,v) w:=by kernel_rfl
theorem oY(v:Value)(w:World):(method (Tryz.prog.types.size+Made.depth) 249 v "Swap").run Tryz.prog w= .ok (215,v) w:=by kernel_rfl
theorem md:∀t m g,Ju t m=some g→∀v w,(method (Tryz.prog.types.size+Made.depth) t v m).run Tryz.prog w= .ok (g,v) w:=by
 intro t m g h v w;unfold Ju at h;split at h
 ·split at h
  ·rename_i e;subst e;cases h;exact o5 v w
  split at h
  ·rename_i e;subst e;cases h;exact oO v w
  split at h
  ·rename_i e;subst e;cases h;exact ol v w
  split at h
  ·rename_i e;subst e;cases h;exact oY v w
  cases h
 ·cases h
theorem agree(w0:World):Agree (En w0):=ic (En w0) kS mH fW gB oB oT md
theorem mixed:Tryz.prog.follows .mixedOrders=true:=by kernel_rfl
theorem Rz(w0:World):Ka (En w0) (AT (En w0)):=fun _ _ _ _ h=>h
theorem Mx(w0:World):DI (AT (En w0)):=fun g xs S Q Q' h hq=>⟨h.1,fun G w hr hro args' hl ha=>(h.2 G w hr hro args' hl ha).mono fun e w' ⟨v,r,S',G',h1,h2,h3⟩=>⟨v,r,S',G',h1,hq _ _ h2,h3⟩⟩
theorem oI(w0:World){n:Nat}{fn:Func}(hf:Tryz.prog.funcs[n]? =some fn)(hname:(fn.name== "runtime.NumGoroutine")=false) {args:List AV} {S:St} {Q:AV→St→Prop}
  (h:WF C (AT (En w0)) n (Drw C (AT (En w0)) n) fn args S Q):AT (En w0) n args S Q:=
 bu (E:=En w0) (agree w0) (Rz w0) (Mx w0) (gI (agree w0) (Rz w0) (Mx w0) mixed) (jN (Mx w0)) hf hname h
abbrev AC(w0:World):=AT (En w0)
abbrev CaT:=Nat→List AV→St→(AV→St→Prop)→Prop
abbrev QT:=AV→St→Prop
theorem An(w0:World){n:Nat}{fn:Func}(hf:Tryz.prog.funcs[n]? =some fn){args:List AV}{S:St}{Q:QT}{P:Prop}(h:P)(hname:(fn.name== "runtime.NumGoroutine")=false:=by kernel_rfl) (e:WF C (AT (En w0)) n (Drw C (AT (En w0)) n) fn args S Q=P:=by kernel_rfl):AT (En w0) n args S Q:=oI w0 hf hname (by rw[e];exact h)
theorem Y9{w0:World}{g:Nat}{xs:List AV}{S:St}{Q Q':AV→St→Prop}(h:AC w0 g xs S Q)(hq:∀r S',Q r S'→Q' r S'):AC w0 g xs S Q':=Mx w0 g xs S Q Q' h hq
abbrev VL:=@Tryz.underlying3
abbrev U6:=@Tryz.underlying4
abbrev PQ:=@Tryz.underlying9
abbrev un_server_Config:=@Tryz.underlying30
abbrev E9:=@Tryz.underlying40
abbrev un_2_s_api_Node:=@Tryz.underlying41
abbrev bz:=@Tryz.underlying42
abbrev Uu:=@Tryz.underlying89
abbrev GQ:=@Tryz.underlying91
abbrev W9:=@Tryz.underlying210
theorem gN:Tryz.prog.cellsOf Ct=1:=by kernel_rfl
theorem ce_s_api_Node:Tryz.prog.cellsOf RX=1:=by kernel_rfl
theorem ce_2_s_api_Node:Tryz.prog.cellsOf t_2_s_api_Node=2:=by kernel_rfl
theorem O3:Tryz.prog.cellsOf Qu=7:=by kernel_rfl
theorem Wx:Tryz.prog.cellsOf NZ=2:=by kernel_rfl
abbrev Ia:=@Tryz.func66
abbrev TZ:=@Tryz.func106
abbrev NH:=@Tryz.func133
set_option maxHeartbeats 2000000
open Go.Proofs
def G_law21_ServerSees(Ca:CaT)(a00_:List (List AV))(a00_r:Rt)(a01_:List (List AV))(a01_r:Rt)(a1a a1b a1c:Int)(a2:List (List AV))(a2r:Rt)(S0:St)(Q:QT):Prop:=AA (CC GH (.agg [(.vs 7 a00_ a00_r),(.vs 7 a01_ a01_r)])) fun c3=>AA (CC ER (.agg [(.int .i64 a1a),(.int .i64 a1b),(.int .i64 a1c)])) fun c4=>Ca Hs [] S0 fun t22 S=>AA (unA .not t22) fun t23=>ifK t23 (Q (.bool false) S) (AA (AB BR (some c3) 0) fun t25=>AX Ca PK [(AV.strip t25)] S fun t26 S_2=>AA (AP .eql t26 (.int .i64 0)) fun t27=>AY (fun (x32:AV) (S_4:St)=>AA (Aq (AV.strip t27) (.bool true) x32) fun t33=>AY (fun (x37:AV)=>AA (Aq (AV.strip (AV.strip t33)) (.bool true) x37) fun t38=>ifK (AV.strip t38) (Q (.bool true) S_4) (AA (AB ER (some c4) 0) fun t40=>AX Ca E7 [(.agg [(.vs 2 [] .nil),(.int .i64 0)]),(AV.strip t40)] S_4 fun t41 S_5=>AY (fun (S_14:St)=>Q (.bool true) S_14) fun j_11=>Cb ([(.int .i64 0)],[(some c3),(some c4)]) (fun v bx=>([v 44],[bx 3,bx 4])) (fun nx v bx S_6=>AA (AP .lss (v 44) (.int .i64 (List.length a2:Int))) fun t45=>ifK t45 (AY (fun (S_13:St)=>AA (AP .add (v 44) (.int .i64 1)) fun t160=>nx ([(AV.strip t160)],[(bx 3),(bx 4)]) S_13) fun j_10=>AA (Ae AH (.vs 1 a2 (Rt.strip a2r)) (v 44)) fun t47=>AA (AI AH S_6 t47) fun t48=>AA (FJ (AV.strip (AV.strip t48))) fun t50=>AA (AP .gtr t50 (.int .i64 200)) fun t51=>ifK t51 (Q (.bool true) S_6) (AA (bx 3) fun _=>AA (AB BR (bx 3) 0) fun t53=>AY (fun (x11:AV) (x12:AV)=>AX Ca Lp [(AV.strip x11)] S_6 fun t61 S_7=>AA (AK t61 0) fun t62=>AA (AK (AQ t61 0) 1) fun t63=>AA (AZ AL (some [(.vs 2 [] .nil),(.int .i64 0)]) 0 t62) fun b13=>AA (unA .not (AV.strip t63)) fun t65=>ifK t65 (Q (.bool false) S_7) (AA (AB AL (some b13) 0) fun t68=>AA (AP .rem (AV.strip (AV.strip (v 44))) (.int .i64 2)) fun t72=>AA (AP .eql t72 (.int .i64 0)) fun t73=>AX Ca F_law21_along [(AV.strip t41),(AV.strip t68),(AV.strip x12),(AV.strip (AV.strip t48)),t73] S_7 fun t74 S_8=>AA (AK t74 0) fun t75=>AA (AK (AQ t74 0) 1) fun t76=>AA (AZ Ar (some Ar.zero) 0 t75) fun b15=>AA (AB AL (some b13) 0) fun t78=>AA (AP .rem (AV.strip (AV.strip (v 44))) (.int .i64 2)) fun t81=>AA (AP .eql t81 (.int .i64 0)) fun t82=>AX Ca LS [(AV.strip t78),(AV.strip (AV.strip t48)),t82] S_8 fun t83 S_9=>AA (AK t83 0) fun t84=>AA (AK (AQ t83 0) 1) fun t85=>AA (AZ Ar (some Ar.zero) 0 t84) fun b17=>AA (AP .neq (AV.strip t76) (AV.strip t85)) fun t88=>AY (fun (x94:AV)=>AA (Aq (AV.strip t88) (.bool true) x94) fun t95=>AY (fun (x103:AV)=>AA (Aq (AV.strip (AV.strip t95)) (.bool true) x103) fun t104=>AY (fun (x112:AV)=>AA (Aq (AV.strip (AV.strip t104)) (.bool true) x112) fun t113=>AY (fun (x123:AV)=>AA (Aq (AV.strip (AV.strip t113)) (.bool true) x123) fun t124=>ifK (AV.strip t124) (Q (.bool false) S_9) (AY (fun (S_11:St)=>AX Ca GS [(AV.strip t41)] S_11 fun t148 S_12=>AA (AK t148 0) fun t149=>AA (AK (AQ t148 0) 1) fun t150=>AA (bx 4) fun _=>AA (AB Ak (bx 4) 1) fun t153=>AA (SU [(AV.strip t153),(.int .i64 1)]) fun t154=>AA (AP .gtr (AV.strip t149) t154) fun t155=>AY (fun (x158:AV)=>AA (Aq (AV.strip t155) (.bool true) x158) fun t159=>ifK (AV.strip t159) (Q (.bool false) S_12) (j_10 S_12)) fun j_7=>ifK (AV.strip t155) (j_7 (.tup [])) (AA (AP .neq (AV.strip t150) (.int .i64 0)) fun t158=>j_7 t158)) fun j_8=>AA (AB CS (some b15) 4) fun t127=>AA (A6 (AV.strip t127)) fun t128=>Cb ([(.int .i64 0)],[(some b15),(some b17)]) (fun v_2 bx_2=>([v_2 129],[bx_2 15,bx_2 17])) (fun nx_2 v_2 bx_2 S_10=>AA (AP .lss (v_2 129) t128) fun t130=>ifK t130 (AA (bx_2 15) fun _=>AA (bx_2 15) fun _=>AA (AB CS (bx_2 15) 4) fun t134=>AA (Ae BV (AV.strip t134) (AV.strip (AV.strip (v_2 129)))) fun t136=>AA (AI BV S_10 t136) fun t137=>AA (bx_2 17) fun _=>AA (bx_2 17) fun _=>AA (AB CS (bx_2 17) 4) fun t140=>AA (Ae BV (AV.strip t140) (AV.strip (AV.strip (v_2 129)))) fun t142=>AA (AI BV S_10 t142) fun t143=>AA (Ic (.agg BV.zero) .neq (AV.strip t137) (AV.strip t143)) fun t144=>ifK t144 (Q (.bool false) S_10) (AA (AP .add (v_2 129) (.int .i64 1)) fun t145=>nx_2 ([(AV.strip t145)],[(bx_2 15),(bx_2 17)]) S_10)) (j_8 S_10)) S_9)) fun j_3=>ifK (AV.strip (AV.strip t113)) (j_3 (.tup [])) (AA (AB CS (some b15) 4) fun t117=>AA (A6 (AV.strip t117)) fun t118=>AA (AB CS (some b17) 4) fun t121=>AA (A6 (AV.strip t121)) fun t122=>AA (AP .neq t118 t122) fun t123=>j_3 t123)) fun j_4=>ifK (AV.strip (AV.strip t104)) (j_4 (.tup [])) (AA (AB BV (some b15) 2) fun t108=>AA (AB BV (some b17) 2) fun t111=>AA (Ic (.agg BV.zero) .neq (AV.strip t108) (AV.strip t111)) fun t112=>j_4 t112)) fun j_5=>ifK (AV.strip (AV.strip t95)) (j_5 (.tup [])) (AA (AB Ak (some b15) 1) fun t99=>AA (AB Ak (some b17) 1) fun t102=>AA (AP .neq (AV.strip t99) (AV.strip t102)) fun t103=>j_5 t103)) fun j_6=>ifK (AV.strip t88) (j_6 (.tup [])) (AA (AB AH (some b15) 0) fun t91=>AA (AB AH (some b17) 0) fun t93=>AA (AP .neq (AV.strip t91) (AV.strip t93)) fun t94=>j_6 t94))) fun j_9=>AA (AP .rem (AV.strip (AV.strip (v 44))) (.int .i64 3)) fun t55=>AA (AP .eql t55 (.int .i64 2)) fun t56=>ifK t56 (AA (bx 3) fun _=>AA (AB BR (bx 3) 1) fun t58=>j_9 (AV.strip t58) (.int .i64 1)) (j_9 (AV.strip t53) (.int .i64 0)))) (j_11 S_6)) S_5)) fun j=>ifK (AV.strip (AV.strip t33)) (j (.tup [])) (j (.bool (decide ((List.length a2:Int) > 30))))) fun j_2=>ifK (AV.strip t27) (j_2 (.tup []) S_2) (AA (AB BR (some c3) 1) fun t30=>AX Ca PK [(AV.strip t30)] S_2 fun t31 S_3=>AA (AP .eql t31 (.int .i64 0)) fun t32=>j_2 t32 S_3))
theorem law21_ServerSees_ok{w0 a00_ a00_r a01_ a01_r a1a a1b a1c a2 a2r S0 Q}(h:G_law21_ServerSees (AT (En w0)) a00_ a00_r a01_ a01_r a1a a1b a1c a2 a2r S0 Q):AC w0 F_law21_ServerSees [(.agg [(.vs 7 a00_ a00_r),(.vs 7 a01_ a01_r)]),(.agg [(.int .i64 a1a),(.int .i64 a1b),(.int .i64 a1c)]),(.vs 1 a2 a2r)] S0 Q:=An w0 Tryz.func4 h
def OV(Ca:CaT)(S0:St)(Q:QT):Prop:=Ca O5 [(.str [47,98])] S0 fun t12 S=>AA (CE 7 [t12]) fun e13=>Ca RD [(.vs 1 [[(.str [97])]] .full),(.vs 7 e13 .full)] S fun t14 S_2=>AA (CE 7 [t14]) fun e15=>Ca NN [(.vs 7 e15 .full)] S_2 fun t16 S_3=>AA (AK t16 0) fun t17=>AA (AK (AQ t16 0) 1) fun t18=>AA (AZ AL (some [(.vs 2 [] .nil),(.int .i64 0)]) 0 t17) fun b1=>AA (AP .neq (AV.strip t18) (.int .i64 0)) fun t20=>AY (fun (x24:AV) (S_5:St)=>AA (Aq (AV.strip t20) (.bool true) x24) fun t25=>ifK (AV.strip t25) (Q (.bool false) S_5) (AA (AB AL (some b1) 0) fun t26=>AX Ca E7 [(AV.strip t26),(.agg [(.int .i64 2),(.int .i64 2),(.int .i64 2)])] S_5 fun t28 S_6=>AA (Ic .ptr .eql (AV.strip t28) .nil) fun t30=>ifK t30 (Q (.bool false) S_6) (AA (AB AL (some b1) 0) fun t32=>AA (AB AL (some b1) 0) fun t33=>AA (AB AL (some b1) 0) fun t37=>AA (AB AL (some b1) 0) fun t38=>AX Ca JY [(AV.strip t33)] S_6 fun t34 S_7=>AX Ca FN [(AV.strip t28),(AV.strip t32),(.int .i64 0),(.str [47]),t34,(.str [97])] S_7 fun t35 S_8=>AX Ca JY [(AV.strip t38)] S_8 fun t39 S_9=>AX Ca FN [(AV.strip t28),(AV.strip t37),(.int .i64 0),(.str [47]),t39,(.str [97])] S_9 fun t40 S_10=>AA (AZ AJ (some AJ.zero) 0 t35) fun b4=>AA (AZ AJ (some AJ.zero) 0 t40) fun b5=>AX Ca E2 [(AV.strip t28)] S_10 fun t43 S_11=>AA (AK t43 0) fun t44=>AA (AK (AQ t43 0) 1) fun t45=>AA (AK (AQ (AQ t43 0) 1) 2) fun t46=>AX Ca Dd [(AV.strip t28),(.str [47]),(.str [97])] S_11 fun t48 S_12=>AA (AZ Ah (some [(.bool false),(.int .i64 0)]) 0 t48) fun b9=>AA (AB Gk (some b4) 1) fun t50=>AY (fun (x54:AV)=>AA (Aq (AV.strip (AV.strip t50)) x54 (.bool false)) fun t55=>AY (fun (x58:AV)=>AA (Aq (AV.strip (AV.strip t55)) x58 (.bool false)) fun t59=>AY (fun (x62:AV)=>AA (Aq (AV.strip (AV.strip t59)) x62 (.bool false)) fun t63=>AY (fun (x67:AV) (S_14:St)=>AA (Aq (AV.strip (AV.strip t63)) x67 (.bool false)) fun t68=>AY (fun (x73:AV) (S_16:St)=>AA (Aq (AV.strip (AV.strip t68)) x73 (.bool false)) fun t74=>AY (fun (x78:AV) (S_18:St)=>AA (Aq (AV.strip (AV.strip t74)) x78 (.bool false)) fun t79=>AY (fun (x84:AV) (S_20:St)=>AA (Aq (AV.strip (AV.strip t79)) x84 (.bool false)) fun t85=>Q (AV.strip t85) S_20) fun j_2=>ifK (AV.strip (AV.strip t79)) (AX Ca ED [(AV.strip t28),(.str [47])] S_18 fun t82 S_19=>AA (A6 t82) fun t83=>AA (AP .eql t83 (.int .i64 1)) fun t84=>j_2 t84 S_19) (j_2 (.tup []) S_18)) fun j_3=>ifK (AV.strip (AV.strip t74)) (AX Ca EH [(AV.strip t28)] S_16 fun t77 S_17=>AA (AP .eql t77 (.int .i64 1)) fun t78=>j_3 t78 S_17) (j_3 (.tup []) S_16)) fun j_4=>ifK (AV.strip (AV.strip t68)) (AA (AB Ah (some b9) 0) fun t71=>AX Ca EE [(AV.strip t28),(AV.strip t71),(.int .i64 2)] S_14 fun t72 S_15=>AA (unA .not t72) fun t73=>j_4 t73 S_15) (j_4 (.tup []) S_14)) fun j_5=>ifK (AV.strip (AV.strip t63)) (AA (AB Ah (some b9) 0) fun t66=>AX Ca EE [(AV.strip t28),(AV.strip t66),(.int .i64 1)] S_12 fun t67 S_13=>j_5 t67 S_13) (j_5 (.tup []) S_12)) fun j_6=>ifK (AV.strip (AV.strip t59)) (AA (AP .eql (AV.strip t45) (.int .i64 1)) fun t62=>j_6 t62) (j_6 (.tup []))) fun j_7=>ifK (AV.strip (AV.strip t55)) (AA (AP .eql (AV.strip t44) (.int .i64 1)) fun t58=>j_7 t58) (j_7 (.tup []))) fun j_8=>ifK (AV.strip (AV.strip t50)) (AA (AB AH (some b5) 6) fun t53=>AA (AP .eql (AV.strip t53) (.str [47,98])) fun t54=>j_8 t54) (j_8 (.tup []))))) fun j=>ifK (AV.strip t20) (j (.tup []) S_3) (AA (AB AL (some b1) 0) fun t22=>AX Ca E5 [(AV.strip t22)] S_3 fun t23 S_4=>AA (AP .neq t23 (.int .i64 1)) fun t24=>j t24 S_4)
theorem Ux{w0  S0 Q}(h:OV (AT (En w0))  S0 Q):AC w0 Hs [] S0 Q:=An w0 Tryz.func7 h
def JS(Ca:CaT)(a0 a0o:Nat)(a1a:Bool)(a1b a2:Int)(S0:St)(Q:QT):Prop:=AA (CC Ah (.agg [(.bool a1a),(.int .i64 a1b)])) fun c4=>AA (AI Bg S0 (.ptr a0 (a0o+6))) fun t13=>AA (AB Ah (some c4) 0) fun t14=>AA (IJ (.agg Ah.zero) Ak S0 (AV.strip t13) (AV.strip t14)) fun p15=>AA (AK (AQ (.tup [p15.1,.bool p15.2]) 0) 1) fun t17=>ifK (AV.strip t17) (Q (.bool false) S0) (AA (AI Bg S0 (.ptr a0 (a0o+6))) fun t22=>AA (AB Ah (some c4) 0) fun t23=>AA (HW (.agg Ah.zero) S0 (AV.strip t22) (AV.strip t23) (.int .i64 a2)) fun S=>Q (.bool true) S)
theorem N1{w0 a0 a0o a1a a1b a2 S0 Q}(h:JS (AT (En w0)) a0 a0o a1a a1b a2 S0 Q):AC w0 EE [(.ptr a0 a0o),(.agg [(.bool a1a),(.int .i64 a1b)]),(.int .i64 a2)] S0 Q:=An w0 Tryz.func10 h
def JT(Ca:CaT)(a0 a0o:Nat)(S0:St)(Q:QT):Prop:=AA (AI Bg S0 (.ptr a0 (a0o+6))) fun t6=>AA (LW S0 (AV.strip t6)) fun t7=>Q t7 S0
theorem Nz{w0 a0 a0o S0 Q}(h:JT (AT (En w0)) a0 a0o S0 Q):AC w0 EH [(.ptr a0 a0o)] S0 Q:=An w0 Tryz.func11 h
def UU(Ca:CaT)(a0:List (List AV))(a0r:Rt)(S0:St)(Q:QT):Prop:=ifK (.bool (decide ((List.length a0:Int) > 8))) (Q (.int .i64 0) S0) (AY (fun (S_5:St)=>Q (.int .i64 1) S_5) fun j_2=>Cb ([(.int .i64 0)],[]) (fun v bx=>([v 10],[])) (fun nx v bx S=>AA (AP .lss (v 10) (.int .i64 (List.length a0:Int))) fun t11=>ifK t11 (AA (Ae AG (.vs 7 a0 (Rt.strip a0r)) (v 10)) fun t12=>AA (AI AG S t12) fun t13=>AA (AZ AG (some AG.zero) 0 (AV.strip t13)) fun b4=>AA (AB AG (some b4) 0) fun t14=>AX Ca JH [(AV.strip t14)] S fun t15 S_2=>AA (AP .eql t15 (.int .i64 0)) fun t16=>AY (fun (x20:AV) (S_4:St)=>AA (Aq (AV.strip t16) (.bool true) x20) fun t21=>ifK (AV.strip t21) (Q (.int .i64 0) S_4) (AA (AP .add (v 10) (.int .i64 1)) fun t22=>nx ([(AV.strip t22)],[]) S_4)) fun j=>ifK (AV.strip t16) (j (.tup []) S_2) (AA (AB AG (some b4) 0) fun t18=>AX Ca JK [(AV.strip t18)] S_2 fun t19 S_3=>AA (unA .not t19) fun t20=>j t20 S_3)) (j_2 S)) S0)
theorem Yq{w0 a0 a0r S0 Q}(h:UU (AT (En w0)) a0 a0r S0 Q):AC w0 PK [(.vs 7 a0 a0r)] S0 Q:=An w0 Tryz.func12 h
def Pu(Ca:CaT)(a0:List (List AV))(a0r:Rt)(S0:St)(Q:QT):Prop:=ifK (.bool (decide ((List.length a0:Int) > 8))) (Q (.tup [(.agg [(.vs 2 [] .nil),(.int .i64 0)]),(.bool false)]) S0) (AY (fun (y2:Option (List AV)) (S_5:St)=>Ca NN [(.vs 7 a0 (Rt.strip (Rt.strip a0r)))] S_5 fun t30 S_6=>AA (AK t30 0) fun t31=>AA (AK (AQ t30 0) 1) fun t32=>AA (AZ AL (some [(.vs 2 [] .nil),(.int .i64 0)]) 0 t31) fun b6=>AA (AB AL (some b6) 0) fun t33=>AA (AP .eql (AV.strip t32) (.int .i64 0)) fun t35=>AY (fun (x41:AV) (S_8:St)=>AA (Aq (AV.strip t35) x41 (.bool false)) fun t42=>AA (AZ AL y2 0 (AV.strip t33)) fun b2_2=>AA ((AB AL (some b2_2) 0).map AV.strip) fun r2_2=>Q (.tup [(AV.flat r2_2),(AV.flat (AV.strip t42))]) S_8) fun j_2=>ifK (AV.strip t35) (AA (AB AL (some b6) 0) fun t37=>AX Ca E5 [(AV.strip t37)] S_6 fun t38 S_7=>AA (AP .eql t38 (.int .i64 (List.length a0:Int))) fun t41=>j_2 t41 S_7) (j_2 (.tup []) S_6)) fun j_3=>Cb ([(.int .i64 0)],[(some [(.vs 2 [] .nil),(.int .i64 0)])]) (fun v bx=>([v 14],[bx 2])) (fun nx v bx S=>AA (AP .lss (v 14) (.int .i64 (List.length a0:Int))) fun t15=>ifK t15 (AA (Ae AG (.vs 7 a0 (Rt.strip a0r)) (v 14)) fun t16=>AA (AI AG S t16) fun t17=>AA (AZ AG (some AG.zero) 0 (AV.strip t17)) fun b5=>AA (AB AG (some b5) 0) fun t18=>AX Ca JH [(AV.strip t18)] S fun t19 S_2=>AA (AP .eql t19 (.int .i64 0)) fun t20=>AY (fun (x24:AV) (S_4:St)=>AA (Aq (AV.strip t20) (.bool true) x24) fun t25=>ifK (AV.strip t25) (AA (AZ AL (bx 2) 0 (.agg [(.vs 2 [] .nil),(.int .i64 0)])) fun b2=>AA ((AB AL (some b2) 0).map AV.strip) fun r2=>Q (.tup [(AV.flat r2),(.bool false)]) S_4) (AA (AP .add (v 14) (.int .i64 1)) fun t27=>nx ([(AV.strip t27)],[(bx 2)]) S_4)) fun j=>ifK (AV.strip t20) (j (.tup []) S_2) (AA (AB AG (some b5) 0) fun t22=>AX Ca JK [(AV.strip t22)] S_2 fun t23 S_3=>AA (unA .not t23) fun t24=>j t24 S_3)) (j_3 (bx 2) S)) S0)
theorem VJ{w0 a0 a0r S0 Q}(h:Pu (AT (En w0)) a0 a0r S0 Q):AC w0 Lp [(.vs 7 a0 a0r)] S0 Q:=An w0 Tryz.func13 h
def G_law21_along(Ca:CaT)(a0:AV)(a1a:List (List AV))(a1ar:Rt)(a1b a2:Int)(a3:List UInt8)(a4:Bool)(S0:St)(Q:QT):Prop:=AA (CC AL (.agg [(.vs 2 a1a a1ar),(.int .i64 a1b)])) fun c6=>AA (AB AL (some c6) 0) fun t21=>AX Ca JY [(AV.strip t21)] S0 fun t22 S=>AX Ca Qo [t22,(.str a3),(.bool a4)] S fun t25 S_2=>AA (AK t25 0) fun t26=>AA (AK (AQ t25 0) 1) fun t27=>AA (AP .neq (AV.strip t27) (.int .i64 0)) fun t29=>AY (fun (x32:AV)=>AA (Aq (AV.strip t29) (.bool true) x32) fun t33=>ifK (AV.strip t33) (Q (.tup [(.agg Ar.zero),(AV.flat (AV.strip t27))]) S_2) (AY (fun (y10:Option (List AV)) (S_8:St)=>AA (AZ Ar y10 0 (.agg Ar.zero)) fun b10_3=>AA ((AB Ar (some b10_3) 0).map AV.strip) fun r10_3=>Q (.tup [(AV.flat r10_3),(.int .i64 (-1))]) S_8) fun j_2=>Cb ([(.int .i64 0)],[(some c6),(some Ar.zero)]) (fun v bx=>([v 36],[bx 6,bx 10])) (fun nx v bx S_3=>AA (AP .lss (v 36) (.int .i64 5760)) fun t37=>ifK t37 (AX Ca F9 [(AV.strip t26)] S_3 fun t40 S_4=>AA (AK t40 0) fun t41=>AA (AK (AQ t40 0) 1) fun t42=>AA (AK (AQ (AQ t40 0) 1) 2) fun t43=>AA (AK (AQ (AQ (AQ t40 0) 1) 2) 3) fun t44=>AA (unA .not (AV.strip t44)) fun t46=>ifK t46 (AX Ca GG [(AV.strip t26)] S_4 fun t48 S_5=>AA (AZ Ar (bx 10) 0 t48) fun b10=>AA ((AB Ar (some b10) 0).map AV.strip) fun r10=>Q (.tup [(AV.flat r10),(.int .i64 0)]) S_5) (AA (AB AL (bx 6) 0) fun t50=>AX Ca FN [(AV.strip a0),(AV.strip t50),(.int .i64 a2),(AV.strip t41),(AV.strip t42),(AV.strip t43)] S_4 fun t55 S_6=>AA (AZ AJ (some AJ.zero) 0 t55) fun b18=>AA (AB BW (some b18) 2) fun t58=>AA (AB Gk (some b18) 1) fun t60=>AA (AB AH (some b18) 6) fun t62=>AX Ca Fo [(AV.strip t26),(AV.strip t58),(AV.strip t60),(AV.strip t62)] S_6 fun t63 S_7=>AA (AP .neq (AV.strip t63) (.int .i64 0)) fun t65=>ifK t65 (AA (AZ Ar (bx 10) 0 (.agg Ar.zero)) fun b10_2=>AA ((AB Ar (some b10_2) 0).map AV.strip) fun r10_2=>Q (.tup [(AV.flat r10_2),(AV.flat (AV.strip t63))]) S_7) (AA (AP .add (v 36) (.int .i64 1)) fun t68=>nx ([(AV.strip t68)],[(bx 6),(bx 10)]) S_7))) (j_2 (bx 10) S_3)) S_2)) fun j=>ifK (AV.strip t29) (j (.tup [])) (AA (Ic .ptr .eql (AV.strip t26) .nil) fun t32=>j t32)
theorem law21_along_ok{w0 a0 a1a a1ar a1b a2 a3 a4 S0 Q}(h:G_law21_along (AT (En w0)) a0 a1a a1ar a1b a2 a3 a4 S0 Q):AC w0 F_law21_along [a0,(.agg [(.vs 2 a1a a1ar),(.int .i64 a1b)]),(.int .i64 a2),(.str a3),(.bool a4)] S0 Q:=An w0 Tryz.func14 h
def UE(Ca:CaT)(a0a:List (List AV))(a0ar:Rt)(a0b:Int)(a1:List UInt8)(a2:Bool)(S0:St)(Q:QT):Prop:=AA (CC AL (.agg [(.vs 2 a0a a0ar),(.int .i64 a0b)])) fun c3=>AA (AB AL (some c3) 0) fun t19=>AX Ca JY [(AV.strip t19)] S0 fun t20 S=>AX Ca Qo [t20,(.str a1),(.bool a2)] S fun t23 S_2=>AA (AK t23 0) fun t24=>AA (AK (AQ t23 0) 1) fun t25=>AA (AP .neq (AV.strip t25) (.int .i64 0)) fun t27=>ifK t27 (Q (.tup [(.agg Ar.zero),(AV.flat (AV.strip t25))]) S_2) (Cb ([],[(some c3),(some Ar.zero)]) (fun v bx=>([],[bx 3,bx 6])) (fun nx v bx S_3=>AX Ca F9 [(AV.strip t24)] S_3 fun t32 S_4=>AA (AK t32 0) fun t33=>AA (AK (AQ t32 0) 1) fun t34=>AA (AK (AQ (AQ t32 0) 1) 2) fun t35=>AA (AK (AQ (AQ (AQ t32 0) 1) 2) 3) fun t36=>AA (unA .not (AV.strip t36)) fun t38=>ifK t38 (AX Ca GG [(AV.strip t24)] S_4 fun t40 S_5=>AA (AZ Ar (bx 6) 0 t40) fun b6=>AA ((AB Ar (some b6) 0).map AV.strip) fun r6=>Q (.tup [(AV.flat r6),(.int .i64 0)]) S_5) (AA (AB AL (bx 3) 0) fun t42=>AX Ca Lf [(AV.strip t42),(AV.strip t34),(AV.strip t35)] S_4 fun t45 S_6=>AA (AK t45 0) fun t46=>AA (AK (AQ t45 0) 1) fun t47=>AA (AZ BW (some BW.zero) 0 t46) fun b14=>AY (fun (x16:AV) (S_9:St)=>AA (AB BW (some b14) 0) fun t64=>AX Ca Fo [(AV.strip t24),(AV.strip t64),(AV.strip t47),(AV.strip x16)] S_9 fun t67 S_10=>AA (AP .neq (AV.strip t67) (.int .i64 0)) fun t69=>ifK t69 (AA (AZ Ar (bx 6) 0 (.agg Ar.zero)) fun b6_2=>AA ((AB Ar (some b6_2) 0).map AV.strip) fun r6_2=>Q (.tup [(AV.flat r6_2),(AV.flat (AV.strip t67))]) S_10) (nx ([],[(bx 3),(bx 6)]) S_10)) fun j_2=>AY (fun (x52:AV)=>AA (Aq (AV.strip (AV.strip t47)) x52 (.bool false)) fun t53=>ifK (AV.strip t53) (AA (AB AL (bx 3) 0) fun t54=>AA (AB Ak (some b14) 1) fun t57=>AA (AB Ak (some b14) 2) fun t61=>AX Ca Ds [(AV.strip t54),(AV.strip t57)] S_6 fun t58 S_7=>AX Ca Ec [t58,(AV.strip t61)] S_7 fun t62 S_8=>j_2 t62 S_8) (j_2 (.str []) S_6)) fun j=>ifK (AV.strip (AV.strip t47)) (AA (AB Ak (some b14) 0) fun t51=>AA (AP .eql (AV.strip t51) (.int .i64 3)) fun t52=>j t52) (j (.tup [])))) S_2)
theorem ZN{w0 a0a a0ar a0b a1 a2 S0 Q}(h:UE (AT (En w0)) a0a a0ar a0b a1 a2 S0 Q):AC w0 LS [(.agg [(.vs 2 a0a a0ar),(.int .i64 a0b)]),(.str a1),(.bool a2)] S0 Q:=An w0 Tryz.func15 h
def JW(Ca:CaT)(a0 a0o:Nat)(S0:St)(Q:QT):Prop:=AA (AI Cj S0 (.ptr a0 (a0o+4))) fun t7=>AA (AI CO S0 (.ptr a0 (a0o+5))) fun t12=>AX Ca Gl [(AV.strip t7)] S0 fun t8 S=>(AA (AI CO S (.ptr a0 (a0o+5))) fun t12_2=>((AV.strip t12_2):AV)=(AV.strip t12))∧(AX Ca Gj [(AV.strip t12)] S fun t13 S_2=>Q (.tup [(AV.flat t8),(AV.flat t13)]) S_2)
theorem Nr{w0 a0 a0o S0 Q}(h:JW (AT (En w0)) a0 a0o S0 Q):AC w0 GS [(.ptr a0 a0o)] S0 Q:=An w0 Tryz.func16 h
def Ja(Ca:CaT)(a0 a0o:Nat)(a1:List UInt8)(S0:St)(Q:QT):Prop:=AA (AI CQ ((S0++[Obj.cells [(.ptr a0 a0o)] Bw])++[Obj.cells [(.str a1)] Ct]) (.ptr S0.length 0)) fun t5=>AA (Ig (AV.strip t5)) fun t6=>AA (Bd t6 5) fun t7=>AA (AI CO ((S0++[Obj.cells [(.ptr a0 a0o)] Bw])++[Obj.cells [(.str a1)] Ct]) t7) fun t8=>AA (AI CQ ((S0++[Obj.cells [(.ptr a0 a0o)] Bw])++[Obj.cells [(.str a1)] Ct]) (.ptr S0.length 0)) fun t9=>AA (Ig (AV.strip t9)) fun t10=>AA (Bd t10 0) fun t11=>AA (AI De ((S0++[Obj.cells [(.ptr a0 a0o)] Bw])++[Obj.cells [(.str a1)] Ct]) t11) fun t12=>AA (Ig (AV.strip t12)) fun t13=>AA (Bd t13 2) fun t14=>AA (AI Ak ((S0++[Obj.cells [(.ptr a0 a0o)] Bw])++[Obj.cells [(.str a1)] Ct]) t14) fun t15=>AA (AI AH ((S0++[Obj.cells [(.ptr a0 a0o)] Bw])++[Obj.cells [(.str a1)] Ct]) (.ptr (S0++[Obj.cells [(.ptr a0 a0o)] Bw]).length 0)) fun t16=>AA (au CB [] [(.ptr S0.length 0),(.ptr (S0++[Obj.cells [(.ptr a0 a0o)] Bw]).length 0)]) fun t17=>AX Ca Gu [(AV.strip t8),(AV.strip t15),(AV.strip t16),t17] ((S0++[Obj.cells [(.ptr a0 a0o)] Bw])++[Obj.cells [(.str a1)] Ct]) fun t18 S=>Q t18 S
theorem Nu{w0 a0 a0o a1 S0 Q}(h:Ja (AT (En w0)) a0 a0o a1 S0 Q):AC w0 ED [(.ptr a0 a0o),(.str a1)] S0 Q:=An w0 Tryz.func19 h
def Jn(Ca:CaT)(a0 a0o:Nat)(S0:St)(Q:QT):Prop:=AA (AI Cj S0 (.ptr a0 (a0o+4))) fun t9=>AX Ca F5 [(AV.strip t9)] S0 fun t10 S=>AA (AK t10 0) fun t11=>AA (AK (AQ t10 0) 1) fun t12=>AA (AI CO S (.ptr a0 (a0o+5))) fun t18=>AX Ca Gw [(AV.strip t18)] S fun t19 S_2=>Q (.tup [(AV.flat (AV.strip t11)),(AV.flat (AV.strip t12)),(AV.flat t19)]) S_2
theorem Nt{w0 a0 a0o S0 Q}(h:Jn (AT (En w0)) a0 a0o S0 Q):AC w0 E2 [(.ptr a0 a0o)] S0 Q:=An w0 Tryz.func20 h
def HB(Ca:CaT)(a0 a0o:Nat)(a1 a2:List UInt8)(S0:St)(Q:QT):Prop:=AA (AI Cj S0 (.ptr a0 (a0o+4))) fun t10=>AX Ca GJ [(AV.strip t10),(.str a1),(.str a2)] S0 fun t13 S=>AA (By Ah 1 [(0,(.bool false)),(1,t13)]) fun t14=>AA (AZ Ah (some [(.bool false),(.int .i64 0)]) 0 t14) fun b6=>AA ((AB Ah (some b6) 0).map AV.strip) fun r6=>Q r6 S
theorem LA{w0 a0 a0o a1 a2 S0 Q}(h:HB (AT (En w0)) a0 a0o a1 a2 S0 Q):AC w0 Dd [(.ptr a0 a0o),(.str a1),(.str a2)] S0 Q:=An w0 Tryz.func21 h
def Wi(Ca:CaT)(a0:List (List AV))(a0r:Rt)(S0:St)(Q:QT):Prop:=AY (fun (y2:Option (List AV)) (y4:Option (List AV)) (S_4:St)=>AA (AB AL y4 0) fun t36=>AA (AZ AL y2 0 (AV.strip t36)) fun b2_3=>AA ((AB AL (some b2_3) 0).map AV.strip) fun r2_3=>Q (.tup [(AV.flat r2_3),(.int .i64 0)]) S_4) fun j=>Cb ([(.int .i64 0)],[(some [(.vs 2 [] .nil),(.int .i64 0)]),(some [(.vs 2 [] .nil),(.int .i64 0)])]) (fun v bx=>([v 11],[bx 2,bx 4])) (fun nx v bx S=>AA (AP .lss (v 11) (.int .i64 (List.length a0:Int))) fun t12=>ifK t12 (AA (Ae AG (.vs 7 a0 (Rt.strip a0r)) (v 11)) fun t13=>AA (AI AG S t13) fun t14=>AA (AZ AG (some AG.zero) 0 (AV.strip t14)) fun b6=>AA (AB AG (some b6) 0) fun t16=>AX Ca NM [(AV.strip t16)] S fun t17 S_2=>AA (AK t17 0) fun t18=>AA (AK (AQ t17 0) 1) fun t19=>AA (AP .neq (AV.strip t19) (.int .i64 0)) fun t21=>ifK t21 (AA (AZ AL (bx 2) 0 (.agg [(.vs 2 [] .nil),(.int .i64 0)])) fun b2=>AA ((AB AL (some b2) 0).map AV.strip) fun r2=>Q (.tup [(AV.flat r2),(AV.flat (AV.strip t19))]) S_2) (AA (AB AL (bx 4) 0) fun t25=>AX Ca H7 [(AV.strip t25),(AV.strip t18)] S_2 fun t27 S_3=>AA (AK t27 0) fun t28=>AA (AK (AQ t27 0) 1) fun t29=>AA (AK (AQ (AQ t27 0) 1) 2) fun t30=>AA (AZ AL (bx 4) 0 t28) fun b4=>AA (AP .neq (AV.strip t30) (.int .i64 0)) fun t32=>ifK t32 (AA (AZ AL (bx 2) 0 (.agg [(.vs 2 [] .nil),(.int .i64 0)])) fun b2_2=>AA ((AB AL (some b2_2) 0).map AV.strip) fun r2_2=>Q (.tup [(AV.flat r2_2),(AV.flat (AV.strip t30))]) S_3) (AA (AP .add (v 11) (.int .i64 1)) fun t35=>nx ([(AV.strip t35)],[(bx 2),(some b4)]) S_3))) (j (bx 2) (bx 4) S)) S0
theorem al{w0 a0 a0r S0 Q}(h:Wi (AT (En w0)) a0 a0r S0 Q):AC w0 NN [(.vs 7 a0 a0r)] S0 Q:=An w0 Tryz.func30 h
def VO(Ca:CaT)(a0:List (List AV))(a0r:Rt)(a1:List (List AV))(a1r:Rt)(S0:St)(Q:QT):Prop:=Ca CH [(.vs 1 a0 (Rt.strip (Rt.strip a0r)))] S0 fun t6 S=>Ca Di [(.vs 7 a1 (Rt.strip (Rt.strip a1r)))] S fun t8 S_2=>AA (By AG 1 [(0,(.int .i64 2)),(2,t6),(3,t8)]) fun t9=>AA (AZ AG (some AG.zero) 0 t9) fun b4=>AA ((AB AG (some b4) 0).map AV.strip) fun r4=>Q r4 S_2
theorem bM{w0 a0 a0r a1 a1r S0 Q}(h:VO (AT (En w0)) a0 a0r a1 a1r S0 Q):AC w0 RD [(.vs 1 a0 a0r),(.vs 7 a1 a1r)] S0 Q:=An w0 Tryz.func31 h
def Tt(Ca:CaT)(a0:List UInt8)(S0:St)(Q:QT):Prop:=Q (.agg [(.int .i64 3),(.bool false),(.vs 1 [] .nil),(.vs 7 [] .nil),(.int .i64 0),(.vs 2 [] .nil),(.str a0)]) S0
theorem Yl{w0 a0 S0 Q}(h:Tt (AT (En w0)) a0 S0 Q):AC w0 O5 [(.str a0)] S0 Q:=An w0 Tryz.func32 h
def LL(Ca:CaT)(a0a:List (List AV))(a0ar:Rt)(a0b:Int)(S0:St)(Q:QT):Prop:=AA (CC AL (.agg [(.vs 2 a0a a0ar),(.int .i64 a0b)])) fun c1=>AA (AB DM (some c1) 0) fun t4=>AA (A6 (AV.strip t4)) fun t5=>Q t5 S0
theorem Qa{w0 a0a a0ar a0b S0 Q}(h:LL (AT (En w0)) a0a a0ar a0b S0 Q):AC w0 E5 [(.agg [(.vs 2 a0a a0ar),(.int .i64 a0b)])] S0 Q:=An w0 Tryz.func33 h
def KC(Ca:CaT)(a0 a0o:Nat)(a1a:List (List AV))(a1ar:Rt)(a1b a2:Int)(a3:List UInt8)(a4:List (List AV))(a4r:Rt)(a5:List UInt8)(S0:St)(Q:QT):Prop:=AA (CC AL (.agg [(.vs 2 a1a a1ar),(.int .i64 a1b)])) fun c7=>AA (AI Cj S0 (.ptr a0 (a0o+4))) fun t22=>AX Ca Gv [(AV.strip t22),(.int .i64 a2),(.str a3),(.str a5)] S0 fun t26 S=>AA (AK t26 0) fun t27=>AA (AK (AQ t26 0) 1) fun t28=>AA (AZ AJ (some AJ.zero) 0 t27) fun b13=>ifK (AV.strip t28) (AA (AB AJ (some b13) 0) fun t30=>AA (AZ AJ (some AJ.zero) 0 (AV.strip t30)) fun b12=>AA ((AB AJ (some b12) 0).map AV.strip) fun r12=>Q r12 S) (AA (AB AL (some c7) 0) fun t32=>AX Ca Lf [(AV.strip t32),(.vs 2 a4 (Rt.strip a4r)),(.str a5)] S fun t35 S_2=>AA (AK t35 0) fun t36=>AA (AK (AQ t35 0) 1) fun t37=>AA (AZ BW (some BW.zero) 0 t36) fun b15=>AA (AB BW (some b15) 0) fun t40=>AA (By AJ 1 [(0,(.int .i64 a2)),(1,(AV.strip t37)),(2,(AV.strip t40))]) fun t41=>AA (AZ AJ (some AJ.zero) 0 t41) fun b17=>AY (fun (y17:Option (List AV)) (S_5:St)=>AA (AI Cj S_5 (.ptr a0 (a0o+4))) fun t61=>AA (AB AJ y17 0) fun t64=>AX Ca Gn [(AV.strip t61),(.str a3),(.str a5),(AV.strip t64)] S_5 fun t65 S_6=>AA (AB AJ y17 0) fun t66=>AA (AZ AJ (some AJ.zero) 0 (AV.strip t66)) fun b12_2=>AA ((AB AJ (some b12_2) 0).map AV.strip) fun r12_2=>Q r12_2 S_6) fun j_2=>AY (fun (x46:AV)=>AA (Aq (AV.strip (AV.strip t37)) x46 (.bool false)) fun t47=>ifK (AV.strip t47) (AA (AB AL (some c7) 0) fun t48=>AA (AB Ak (some b15) 1) fun t51=>AA (AB Ak (some b15) 2) fun t55=>AX Ca Ds [(AV.strip t48),(AV.strip t51)] S_2 fun t52 S_3=>AX Ca Ec [t52,(AV.strip t55)] S_3 fun t56 S_4=>AA (AZ AH (some b17) 6 t56) fun b17_2=>j_2 (some b17_2) S_4) (j_2 (some b17) S_2)) fun j=>ifK (AV.strip (AV.strip t37)) (AA (AB Ak (some b15) 0) fun t45=>AA (AP .eql (AV.strip t45) (.int .i64 3)) fun t46=>j t46) (j (.tup [])))
theorem OH{w0 a0 a0o a1a a1ar a1b a2 a3 a4 a4r a5 S0 Q}(h:KC (AT (En w0)) a0 a0o a1a a1ar a1b a2 a3 a4 a4r a5 S0 Q):AC w0 FN [(.ptr a0 a0o),(.agg [(.vs 2 a1a a1ar),(.int .i64 a1b)]),(.int .i64 a2),(.str a3),(.vs 2 a4 a4r),(.str a5)] S0 Q:=An w0 Tryz.func34 h
def UD(Ca:CaT)(a0a:List (List AV))(a0ar:Rt)(a0b:Int)(S0:St)(Q:QT):Prop:=AA (CC AL (.agg [(.vs 2 a0a a0ar),(.int .i64 a0b)])) fun c1=>AY (fun (x3:AV) (S_5:St)=>Q (AV.strip x3) S_5) fun j=>AA (AB AL (some c1) 0) fun t5=>AX Ca E5 [(AV.strip t5)] S0 fun t6 S=>Cb ([(.vs 2 [] .nil),(.int .i64 0)],[(some c1)]) (fun v bx=>([v 3,v 7],[bx 1])) (fun nx v bx S_2=>AA (AP .lss (v 7) t6) fun t8=>ifK t8 (AA (By BV 1 [(0,(AV.strip (AV.strip (v 7)))),(1,(.int .i64 0))]) fun t12=>AA (CE 2 [t12]) fun e13=>AA (Aj BV S_2 (v 3) (.vs 2 e13 .full)) fun t14=>AA (AB AL (bx 1) 0) fun t15=>AX Ca Ds [(AV.strip t15),(AV.strip (AV.strip (v 7)))] S_2 fun t17 S_3=>AX Ca Ee [t17,(.int .i64 0)] S_3 fun t18 S_4=>ifK t18 (j t14 S_4) (AA (AP .add (v 7) (.int .i64 1)) fun t19=>nx ([t14,(AV.strip t19)],[(bx 1)]) S_4)) (j (v 3) S_2)) S
theorem ZI{w0 a0a a0ar a0b S0 Q}(h:UD (AT (En w0)) a0a a0ar a0b S0 Q):AC w0 JY [(.agg [(.vs 2 a0a a0ar),(.int .i64 a0b)])] S0 Q:=An w0 Tryz.func35 h
def Vq(Ca:CaT)(a0a:List (List AV))(a0ar:Rt)(a0b a1:Int)(S0:St)(Q:QT):Prop:=AA (CC AL (.agg [(.vs 2 a0a a0ar),(.int .i64 a0b)])) fun c2=>AA (AB AL (some c2) 0) fun t5=>Ca ND [(.int .i64 a1)] S0 fun t7 S=>AA (By Ez 1 [(0,(AV.strip t5)),(1,(.int .i64 0)),(2,t7)]) fun t8=>AA (CC Ez t8) fun c9=>Q (.ptr S.length 0) (S++[Obj.cells c9 H0])
theorem aL{w0 a0a a0ar a0b a1 S0 Q}(h:Vq (AT (En w0)) a0a a0ar a0b a1 S0 Q):AC w0 M6 [(.agg [(.vs 2 a0a a0ar),(.int .i64 a0b)]),(.int .i64 a1)] S0 Q:=An w0 Tryz.func36 h
def SP(Ca:CaT)(a0 a1:Int)(S0:St)(Q:QT):Prop:=Ca FA [(.int .i64 a0),(.int .i64 a1)] S0 fun t7 S=>AA (By Dc 1 [(0,t7)]) fun t8=>AA (CC Dc t8) fun c9=>Q (.ptr S.length 0) (S++[Obj.cells c9 DF])
theorem X4{w0 a0 a1 S0 Q}(h:SP (AT (En w0)) a0 a1 S0 Q):AC w0 IK [(.int .i64 a0),(.int .i64 a1)] S0 Q:=An w0 Tryz.func37 h
def Rk(Ca:CaT)(a0 a1:Int)(S0:St)(Q:QT):Prop:=Ca FQ [(.int .i64 a0),(.int .i64 a1)] S0 fun t7 S=>AA (By Df 1 [(0,t7)]) fun t8=>AA (CC Df t8) fun c9=>Q (.ptr S.length 0) (S++[Obj.cells c9 DY])
theorem Xh{w0 a0 a1 S0 Q}(h:Rk (AT (En w0)) a0 a1 S0 Q):AC w0 GW [(.int .i64 a0),(.int .i64 a1)] S0 Q:=An w0 Tryz.func38 h
def QE(Ca:CaT)(a0a:Int)(a0b:Bool)(a0c:List (List AV))(a0cr:Rt)(a0d:List (List AV))(a0dr:Rt)(a0e:Int)(a0f:List (List AV))(a0fr:Rt)(a0g:List UInt8)(S0:St)(Q:QT):Prop:=AA (CC AG (.agg [(.int .i64 a0a),(.bool a0b),(.vs 1 a0c a0cr),(.vs 7 a0d a0dr),(.int .i64 a0e),(.vs 2 a0f a0fr),(.str a0g)])) fun c1=>AA (Bn Ak (S0++[Obj.cells Ak.zero FE]) (.ptr S0.length 0) (.int .i64 400)) fun S=>AA (AB AG (some c1) 0) fun t4=>AX Ca JN [(AV.strip t4),(.int .i64 30),(.ptr S0.length 0)] S fun t5 S_2=>AA (unA .not t5) fun t6=>ifK t6 (Q (.int .i64 0) S_2) (Q (.int .i64 1) S_2)
theorem VQ{w0 a0a a0b a0c a0cr a0d a0dr a0e a0f a0fr a0g S0 Q}(h:QE (AT (En w0)) a0a a0b a0c a0cr a0d a0dr a0e a0f a0fr a0g S0 Q):AC w0 JH [(.agg [(.int .i64 a0a),(.bool a0b),(.vs 1 a0c a0cr),(.vs 7 a0d a0dr),(.int .i64 a0e),(.vs 2 a0f a0fr),(.str a0g)])] S0 Q:=An w0 Tryz.func39 h
def Pp(Ca:CaT)(a0a:Int)(a0b:Bool)(a0c:List (List AV))(a0cr:Rt)(a0d:List (List AV))(a0dr:Rt)(a0e:Int)(a0f:List (List AV))(a0fr:Rt)(a0g:List UInt8)(S0:St)(Q:QT):Prop:=AA (CC AG (.agg [(.int .i64 a0a),(.bool a0b),(.vs 1 a0c a0cr),(.vs 7 a0d a0dr),(.int .i64 a0e),(.vs 2 a0f a0fr),(.str a0g)])) fun c1=>AA (AB Ak (some c1) 0) fun t4=>AA (AP .eql (AV.strip t4) (.int .i64 2)) fun t5=>AY (fun (x8:AV) (S_2:St)=>AA (Aq (AV.strip t5) x8 (.bool false)) fun t9=>AY (fun (x13:AV) (S_4:St)=>AA (Aq (AV.strip (AV.strip t9)) x13 (.bool false)) fun t14=>AY (fun (x18:AV) (S_6:St)=>AA (Aq (AV.strip (AV.strip t14)) x18 (.bool false)) fun t19=>Q (AV.strip t19) S_6) fun j=>ifK (AV.strip (AV.strip t14)) (AA (AB AG (some c1) 0) fun t16=>AX Ca JM [(AV.strip t16)] S_4 fun t17 S_5=>AA (AP .leq t17 (.int .i64 15)) fun t18=>j t18 S_5) (j (.tup []) S_4)) fun j_2=>ifK (AV.strip (AV.strip t9)) (AA (AB AG (some c1) 0) fun t11=>AX Ca JO [(AV.strip t11)] S_2 fun t12 S_3=>AA (AP .leq t12 (.int .i64 4096)) fun t13=>j_2 t13 S_3) (j_2 (.tup []) S_2)) fun j_3=>ifK (AV.strip t5) (AA (AB AG (some c1) 0) fun t7=>AX Ca LP [(AV.strip t7)] S0 fun t8 S=>j_3 t8 S) (j_3 (.tup []) S0)
theorem VK{w0 a0a a0b a0c a0cr a0d a0dr a0e a0f a0fr a0g S0 Q}(h:Pp (AT (En w0)) a0a a0b a0c a0cr a0d a0dr a0e a0f a0fr a0g S0 Q):AC w0 JK [(.agg [(.int .i64 a0a),(.bool a0b),(.vs 1 a0c a0cr),(.vs 7 a0d a0dr),(.int .i64 a0e),(.vs 2 a0f a0fr),(.str a0g)])] S0 Q:=An w0 Tryz.func40 h
def VX(Ca:CaT)(a0:List (List AV))(a0r:Rt)(a1:List UInt8)(a2:Bool)(S0:St)(Q:QT):Prop:=Ca IH [(.str a1)] S0 fun t13 S=>AA (AK t13 0) fun t14=>AA (AK (AQ t13 0) 1) fun t15=>AA (AK (AQ (AQ t13 0) 1) 2) fun t16=>AA (AP .neq (AV.strip t16) (.int .i64 0)) fun t18=>ifK t18 (Q (.tup [.nil,(AV.flat (AV.strip t16))]) S) (AA (By El 1 [(0,(AV.strip t14)),(1,(.vs 2 [[(.str [47]),(.vs 2 a0 (Rt.strip (Rt.strip (Rt.strip a0r))))]] .full)),(2,(.bool a2))]) fun t25=>AA (CC El t25) fun c26=>Q (.tup [(.ptr S.length 0),(.int .i64 0)]) (S++[Obj.cells c26 Cp]))
theorem bR{w0 a0 a0r a1 a2 S0 Q}(h:VX (AT (En w0)) a0 a0r a1 a2 S0 Q):AC w0 Qo [(.vs 2 a0 a0r),(.str a1),(.bool a2)] S0 Q:=An w0 Tryz.func41 h
def Lc(Ca:CaT)(a0 a0o:Nat)(S0:St)(Q:QT):Prop:=AY (fun (S_6:St)=>Q (.tup [(.str []),(.vs 2 [] .nil),(.str []),(.bool false)]) S_6) fun j_2=>Cb ([],[]) (fun v bx=>([],[])) (fun nx v bx S=>AA (AI C5 S (.ptr a0 (a0o+4))) fun t9=>AA (Ic .ptr .eql (AV.strip t9) .nil) fun t10=>AY (fun (x17:AV)=>AA (Aq (AV.strip t10) x17 (.bool false)) fun t18=>ifK (AV.strip t18) (AA (AI Ai S (.ptr a0 (a0o+0))) fun t22=>AA (Ae AH (AV.strip t22) (.int .i64 0)) fun t23=>AA (AI AH S t23) fun t24=>AA (AP .neq (AV.strip t24) (.str [46,46])) fun t25=>ifK t25 (AA (AI Ai S (.ptr a0 (a0o+0))) fun t35=>AA (Ae AH (AV.strip t35) (.int .i64 0)) fun t36=>AA (AI AH S t36) fun t37=>Ca FZ [(.ptr a0 a0o)] S fun t27 S_2=>(AA (AI AH S_2 t36) fun t37_2=>((AV.strip t37_2):AV)=(AV.strip t37))∧((AA (AI Ai S_2 (.ptr a0 (a0o+0))) fun t35_2=>((AV.strip t35_2):AV)=(AV.strip t35))∧(AA (Il AH t27 0) fun t28=>Ca FZ [(.ptr a0 a0o)] S_2 fun t30 S_3=>(AA (AI AH S_3 t36) fun t37_3=>((AV.strip t37_3):AV)=(AV.strip t37))∧((AA (AI Ai S_3 (.ptr a0 (a0o+0))) fun t35_3=>((AV.strip t35_3):AV)=(AV.strip t35))∧(AA (Il CS t30 1) fun t31=>Q (.tup [(AV.flat (AV.strip t28)),(AV.flat (AV.strip t31)),(AV.flat (AV.strip t37)),(.bool true)]) S_3))))) (AA (AI Ai S (.ptr a0 (a0o+0))) fun t42=>AA (Dt AH (AV.strip0 t42) (some (.int .i64 1)) none none) fun t43=>AA (Bn Ai (stripMem S (.ptr a0 (a0o+0))) (.ptr a0 (a0o+0)) t43) fun S_4=>AA (AI Bl S_4 (.ptr a0 (a0o+1))) fun t49=>AA (A6 (AV.strip t49)) fun t50=>AA (AP .gtr t50 (.int .i64 1)) fun t51=>ifK t51 (AA (AI Bl S_4 (.ptr a0 (a0o+1))) fun t56=>AA (AI Bl S_4 (.ptr a0 (a0o+1))) fun t60=>AA (A6 (AV.strip t60)) fun t61=>AA (AP .sub t61 (.int .i64 1)) fun t62=>AA (Dt Cz (AV.strip t56) none (some t62) none) fun t63=>AA (Bn Bl S_4 (.ptr a0 (a0o+1)) t63) fun S_5=>nx ([],[]) S_5) (nx ([],[]) S_4))) (j_2 S)) fun j=>ifK (AV.strip t10) (AA (AI Ai S (.ptr a0 (a0o+0))) fun t15=>AA (A6 (AV.strip t15)) fun t16=>AA (AP .gtr t16 (.int .i64 0)) fun t17=>j t17) (j (.tup []))) S0
theorem Q0{w0 a0 a0o S0 Q}(h:Lc (AT (En w0)) a0 a0o S0 Q):AC w0 F9 [(.ptr a0 a0o)] S0 Q:=An w0 Tryz.func42 h
def JQ(Ca:CaT)(a0 a0o:Nat)(S0:St)(Q:QT):Prop:=AA (AI C5 S0 (.ptr a0 (a0o+4))) fun t8=>AA (Ic .ptr .neq (AV.strip t8) .nil) fun t9=>ifK t9 (AA (AI C5 S0 (.ptr a0 (a0o+4))) fun t13=>AA (Ig (AV.strip t13)) fun t14=>AA (AI Ar S0 t14) fun t15=>AA (AZ Ar (some Ar.zero) 0 (AV.strip t15)) fun b2=>AA ((AB Ar (some b2) 0).map AV.strip) fun r2=>Q r2 S0) (Ca FZ [(.ptr a0 a0o)] S0 fun t17 S=>AA (AZ Cz (some [(.str []),(.vs 2 [] .nil)]) 0 t17) fun b3=>AA (AB AH (some b3) 0) fun t19=>AA (AB CS (some b3) 1) fun t21=>AA (By BW 1 [(0,(.int .i64 2)),(2,(AV.strip t21))]) fun t22=>AA (By Ar 1 [(0,(AV.strip t19)),(1,t22)]) fun t23=>AA (AZ Ar (some Ar.zero) 0 t23) fun b4=>AY (fun (y4:Option (List AV))=>AA (AB Ar y4 0) fun t34=>AA (AZ Ar (some Ar.zero) 0 (AV.strip t34)) fun b2_2=>AA ((AB Ar (some b2_2) 0).map AV.strip) fun r2_2=>Q r2_2 S) fun j=>AA (AB CS (some b3) 1) fun t25=>AA (A6 (AV.strip t25)) fun t26=>AA (AP .gtr t26 (.int .i64 0)) fun t27=>ifK t27 (AA (AB CS (some b3) 1) fun t29=>AA (Ae BV (AV.strip t29) (.int .i64 0)) fun t30=>AA (AI BV S t30) fun t31=>AA (AZ BV (some b4) 2 (AV.strip t31)) fun b4_2=>j (some b4_2)) (j (some b4)))
theorem N6{w0 a0 a0o S0 Q}(h:JQ (AT (En w0)) a0 a0o S0 Q):AC w0 GG [(.ptr a0 a0o)] S0 Q:=An w0 Tryz.func43 h
def K0(Ca:CaT)(a0 a0o:Nat)(a1a a1ba a1bb:Int)(a1c:List (List AV))(a1cr:Rt)(a2:Bool)(a3:List UInt8)(S0:St)(Q:QT):Prop:=AA (CC BW (.agg [(.int .i64 a1a),(.int .i64 a1ba),(.int .i64 a1bb),(.vs 2 a1c a1cr)])) fun c5=>Ca F9 [(.ptr a0 a0o)] S0 fun t16 S=>AA (AK t16 0) fun t17=>AA (AK (AQ t16 0) 1) fun t18=>AA (AK (AQ (AQ t16 0) 1) 2) fun t19=>AA (AK (AQ (AQ (AQ t16 0) 1) 2) 3) fun t20=>AA (unA .not (AV.strip t20)) fun t22=>ifK t22 (Q (.int .i64 1) S) (ifK (.bool (!a2)) (Q (.int .i64 2) S) (AA (AI Ai S (.ptr a0 (a0o+0))) fun t29=>AA (Dt AH (AV.strip0 t29) (some (.int .i64 1)) none none) fun t30=>AA (Bn Ai (stripMem S (.ptr a0 (a0o+0))) (.ptr a0 (a0o+0)) t30) fun S_2=>AA (AI Ai S_2 (.ptr a0 (a0o+0))) fun t36=>AA (A6 (AV.strip t36)) fun t37=>AA (AP .eql t37 (.int .i64 0)) fun t38=>AY (fun (S_8:St)=>Q (.int .i64 0) S_8) fun j_3=>AA (AB Ak (some c5) 0) fun t50=>AA (AP .eql (AV.strip t50) (.int .i64 3)) fun t51=>AY (fun (x60:AV)=>AA (Aq (AV.strip t51) x60 (.bool false)) fun t61=>ifK (AV.strip t61) (Ca HT [(.ptr a0 a0o),(.str a3)] S_2 fun t64 S_3=>Q t64 S_3) (AA (AB Ak (some c5) 0) fun t67=>AA (AP .eql (AV.strip t67) (.int .i64 2)) fun t68=>ifK t68 (AA (AI Bl S_2 (.ptr a0 (a0o+1))) fun t73=>AA (AI Bl S_2 (.ptr a0 (a0o+1))) fun t77=>AA (A6 (AV.strip t77)) fun t78=>AA (AI Bl S_2 (.ptr a0 (a0o+1))) fun t82=>AA (A6 (AV.strip t82)) fun t83=>AA (Dt Cz (AV.strip t73) none (some t78) (some t83)) fun t84=>AA (AB CS (some c5) 3) fun t89=>AX Ca Fn [(AV.strip t17),(AV.strip t19)] S_2 fun t87 S_4=>(AA (AI Bl S_4 (.ptr a0 (a0o+1))) fun t82_2=>((AV.strip t82_2):AV)=(AV.strip t82))∧((AA (AI Bl S_4 (.ptr a0 (a0o+1))) fun t77_2=>((AV.strip t77_2):AV)=(AV.strip t77))∧((AA (AI Bl S_4 (.ptr a0 (a0o+1))) fun t73_2=>((AV.strip t73_2):AV)=(AV.strip t73))∧(AA (By Cz 1 [(0,t87),(1,(AV.strip t89))]) fun t90=>AA (CE 2 [t90]) fun e91=>AA (Aj Cz S_4 t84 (.vs 2 e91 .full)) fun t92=>AA (Bn Bl S_4 (.ptr a0 (a0o+1)) t92) fun S_5=>j_3 S_5)))) (AA (unA .not (AV.strip t38)) fun t97=>ifK t97 (Q (.int .i64 3) S_2) (AA (AB BW (some c5) 0) fun t43=>AX Ca Fn [(AV.strip t17),(AV.strip t19)] S_2 fun t42 S_6=>AA (By Ar 1 [(0,t42),(1,(AV.strip t43))]) fun t44=>AA (CC Ar t44) fun c45=>AA (Bn C5 (S_6++[Obj.cells c45 JJ]) (.ptr a0 (a0o+4)) (.ptr S_6.length 0)) fun S_7=>j_3 S_7)))) fun j_2=>ifK (AV.strip t51) (AA (unA .not (AV.strip t38)) fun t54=>AY (fun (x59:AV)=>AA (Aq (AV.strip t54) (.bool true) x59) fun t60=>j_2 (AV.strip t60)) fun j=>gK (AV.strip t54) (j (.tup [])) (AA (AI Gk S_2 (.ptr a0 (a0o+2))) fun t59=>j (AV.strip t59)) (j (.tup []))) (j_2 (.tup []))))
theorem Pb{w0 a0 a0o a1a a1ba a1bb a1c a1cr a2 a3 S0 Q}(h:K0 (AT (En w0)) a0 a0o a1a a1ba a1bb a1c a1cr a2 a3 S0 Q):AC w0 Fo [(.ptr a0 a0o),(.agg [(.int .i64 a1a),(.int .i64 a1ba),(.int .i64 a1bb),(.vs 2 a1c a1cr)]),(.bool a2),(.str a3)] S0 Q:=An w0 Tryz.func44 h
def Ts(Ca:CaT)(a0a:List (List AV))(a0ar:Rt)(a0b:Int)(a1:List (List AV))(a1r:Rt)(a2:List UInt8)(S0:St)(Q:QT):Prop:=AA (CC AL (.agg [(.vs 2 a0a a0ar),(.int .i64 a0b)])) fun c3=>AY (fun (y8_3:Option (List AV)) (S_7:St)=>AA (AB BW y8_3 0) fun t77=>AA y8_3 fun _=>AA (AB Ak y8_3 0) fun t79=>AA (AP .neq (AV.strip t79) (.int .i64 0)) fun t80=>AA (AZ BW (some BW.zero) 0 (AV.strip t77)) fun b6=>AA ((AB BW (some b6) 0).map AV.strip) fun r6=>Q (.tup [(AV.flat r6),(AV.flat t80)]) S_7) fun j_4=>Cb ([(.int .i64 0)],[(some c3),(some BW.zero)]) (fun v bx=>([v 17],[bx 3,bx 8])) (fun nx v bx S=>AA (AP .lss (v 17) (.int .i64 (List.length a1:Int))) fun t18=>ifK t18 (AY (fun (y8_2:Option (List AV)) (S_6:St)=>AA (AP .add (v 17) (.int .i64 1)) fun t76=>nx ([(AV.strip t76)],[(bx 3),y8_2]) S_6) fun j_3=>AA (Ae BV (.vs 2 a1 (Rt.strip a1r)) (v 17)) fun t19=>AA (AI BV S t19) fun t20=>AA (AZ BV (some [(.int .i64 0),(.int .i64 0)]) 0 (AV.strip t20)) fun b10=>AA (AB AL (bx 3) 0) fun t21=>AA (AB Ak (some b10) 0) fun t23=>AX Ca Ds [(AV.strip t21),(AV.strip t23)] S fun t24 S_2=>AA (Ic .ptr .eql (AV.strip t24) .nil) fun t26=>ifK t26 (j_3 (bx 8) S_2) (AA (AB Ak (some b10) 1) fun t30=>AX Ca E3 [(AV.strip t24),(AV.strip t30),(.str a2)] S_2 fun t32 S_3=>AA (AK t32 0) fun t33=>AA (AK (AQ t32 0) 1) fun t34=>AA (unA .not (AV.strip t34)) fun t36=>ifK t36 (j_3 (bx 8) S_3) (AX Ca Ew [(AV.strip t24),(AV.strip t33)] S_3 fun t39 S_4=>AA (AP .neq (AV.strip t39) (.int .i64 2)) fun t41=>ifK t41 (AA (bx 8) fun _=>AA (AB Ak (bx 8) 0) fun t43=>AA (AP .eql (AV.strip t43) (.int .i64 0)) fun t44=>AY (fun (x47:AV)=>AA (Aq (AV.strip t44) x47 (.bool false)) fun t48=>ifK (AV.strip t48) (AA (AB Ak (some b10) 0) fun t51=>AA (By BV 1 [(0,(AV.strip t51)),(1,(AV.strip t33))]) fun t53=>AA (By BW 1 [(0,(AV.strip t39)),(1,t53)]) fun t54=>AA (AZ BW (bx 8) 0 t54) fun b8=>j_4 (some b8) S_4) (j_4 (bx 8) S_4)) fun j=>ifK (AV.strip t44) (AA (AP .neq (AV.strip t39) (.int .i64 4)) fun t47=>j t47) (j (.tup []))) (AY (fun (y8:Option (List AV))=>AA y8 fun _=>AA (AB CS y8 3) fun t65=>AA (AB Ak (some b10) 0) fun t67=>AA (By BV 1 [(0,(AV.strip t67)),(1,(AV.strip t33))]) fun t69=>AA (CE 2 [t69]) fun e70=>AA (Aj BV S_4 (AV.strip0 t65) (.vs 2 e70 .full)) fun t71=>AA (Fx y8 3) fun _=>AA (AZ CS (Fx y8 3) 3 t71) fun b8_3=>AX Ca Ee [(AV.strip t24),(AV.strip t33)] S_4 fun t75 S_5=>ifK t75 (j_4 (some b8_3) S_5) (j_3 (some b8_3) S_5)) fun j_2=>AA (bx 8) fun _=>AA (AB Ak (bx 8) 0) fun t56=>AA (AP .eql (AV.strip t56) (.int .i64 0)) fun t57=>ifK t57 (AA (AB Ak (some b10) 0) fun t60=>AA (By BV 1 [(0,(AV.strip t60)),(1,(AV.strip t33))]) fun t62=>AA (By BW 1 [(0,(AV.strip t39)),(1,t62)]) fun t63=>AA (AZ BW (bx 8) 0 t63) fun b8_2=>j_2 (some b8_2)) (j_2 (bx 8)))))) (j_4 (bx 8) S)) S0
theorem ZL{w0 a0a a0ar a0b a1 a1r a2 S0 Q}(h:Ts (AT (En w0)) a0a a0ar a0b a1 a1r a2 S0 Q):AC w0 Lf [(.agg [(.vs 2 a0a a0ar),(.int .i64 a0b)]),(.vs 2 a1 a1r),(.str a2)] S0 Q:=An w0 Tryz.func45 h
def Mc(Ca:CaT)(a0a:List (List AV))(a0ar:Rt)(a0b a1:Int)(S0:St)(Q:QT):Prop:=AA (CC AL (.agg [(.vs 2 a0a a0ar),(.int .i64 a0b)])) fun c2=>AY (fun (x12:AV)=>AA (Aq (.bool (decide (a1 < 0))) (.bool true) x12) fun t13=>ifK (AV.strip t13) (Q .nil S0) (AA (AB DM (some c2) 0) fun t15=>AA (Ae Em (AV.strip t15) (.int .i64 a1)) fun t17=>AA (Bd t17 1) fun t18=>AA (AI EQ S0 t18) fun t19=>Q (AV.strip t19) S0)) fun j=>ifK (.bool (decide (a1 < 0))) (j (.tup [])) (AA (AB DM (some c2) 0) fun t10=>AA (A6 (AV.strip t10)) fun t11=>AA (AP .geq (.int .i64 a1) t11) fun t12=>j t12)
theorem Rn{w0 a0a a0ar a0b a1 S0 Q}(h:Mc (AT (En w0)) a0a a0ar a0b a1 S0 Q):AC w0 Ds [(.agg [(.vs 2 a0a a0ar),(.int .i64 a0b)]),(.int .i64 a1)] S0 Q:=An w0 Tryz.func46 h
def Hw(Ca:CaT)(a0 a0o:Nat)(a1:Int)(S0:St)(Q:QT):Prop:=Ca Dl [(.ptr a0 a0o),(.int .i64 a1)] S0 fun t7 S=>AA (Il AG t7 0) fun t8=>AA (Il AH (AV.strip t8) 6) fun t9=>Q (AV.strip t9) S
theorem MZ{w0 a0 a0o a1 S0 Q}(h:Hw (AT (En w0)) a0 a0o a1 S0 Q):AC w0 Ec [(.ptr a0 a0o),(.int .i64 a1)] S0 Q:=An w0 Tryz.func47 h
def J1(Ca:CaT)(a0 a0o:Nat)(S0:St)(Q:QT):Prop:=AA (AI Aa S0 (.ptr a0 (a0o+0))) fun t6=>AX Ca Dy [(AV.strip t6)] S0 fun t7 S=>Q t7 S
theorem OK{w0 a0 a0o S0 Q}(h:J1 (AT (En w0)) a0 a0o S0 Q):AC w0 Gl [(.ptr a0 a0o)] S0 Q:=An w0 Tryz.func48 h
def J2(Ca:CaT)(a0 a0o:Nat)(S0:St)(Q:QT):Prop:=AA (AI Ao S0 (.ptr a0 (a0o+0))) fun t6=>AX Ca D3 [(AV.strip t6)] S0 fun t7 S=>Q t7 S
theorem Oc{w0 a0 a0o S0 Q}(h:J2 (AT (En w0)) a0 a0o S0 Q):AC w0 Gj [(.ptr a0 a0o)] S0 Q:=An w0 Tryz.func49 h
def KD(Ca:CaT)(a0 a0o:Nat)(a1:Int)(a2:List UInt8)(a3:AV)(S0:St)(Q:QT):Prop:=Ca Gq [(.ptr a0 a0o),(.int .i64 a1),(.str a2)] S0 fun t16 S=>AA (AK t16 0) fun t17=>AA (AK (AQ t16 0) 1) fun t18=>ifK (AV.strip t18) (Q (AV.strip t17) S) (AA (AI Ak S (.ptr a0 (a0o+1))) fun t24=>AA (AP .add (AV.strip t24) (.int .i64 1)) fun t25=>AA (Bn Ak S (.ptr a0 (a0o+1)) t25) fun S_2=>AA (Lj (AV.strip a3) []) fun a=>Ca a.1 a.2 S_2 fun t29 S_3=>AX Ca Gm [(.ptr a0 a0o),(.int .i64 a1),(.str a2),(AV.strip t29)] S_3 fun t34 S_4=>Q (AV.strip t29) S_4)
theorem OI{w0 a0 a0o a1 a2 a3 S0 Q}(h:KD (AT (En w0)) a0 a0o a1 a2 a3 S0 Q):AC w0 Gu [(.ptr a0 a0o),(.int .i64 a1),(.str a2),a3] S0 Q:=An w0 Tryz.func52 h
def Hv(Ca:CaT)(a0 a1:AV)(S0:St)(Q:QT):Prop:=AA (AI CQ S0 a0) fun t7=>AA (Ig (AV.strip t7)) fun t8=>AA (Bd t8 0) fun t9=>AA (AI De S0 t9) fun t10=>AA (Ig (AV.strip t10)) fun t11=>AA (Bd t11 0) fun t12=>AA (AI AL S0 t12) fun t13=>AA (AI AH S0 a1) fun t14=>AX Ca M5 [(AV.strip t13),(AV.strip t14)] S0 fun t15 S=>AA (AK t15 0) fun t16=>AA (AK (AQ t15 0) 1) fun t17=>AA (AK (AQ (AQ t15 0) 1) 2) fun t18=>Q (AV.strip t17) S
theorem Ma{w0 a0 a1 S0 Q}(h:Hv (AT (En w0)) a0 a1 S0 Q):AC w0 CB [a0,a1] S0 Q:=An w0 Tryz.func53 h
def Sv(Ca:CaT)(a0a:List (List AV))(a0ar:Rt)(a0b:Int)(a1:List UInt8)(S0:St)(Q:QT):Prop:=AA (CC AL (.agg [(.vs 2 a0a a0ar),(.int .i64 a0b)])) fun c2=>AA (AB AL (some c2) 0) fun t10=>AX Ca LS [(AV.strip t10),(.str a1),(.bool true)] S0 fun t12 S=>AA (AK t12 0) fun t13=>AA (AK (AQ t12 0) 1) fun t14=>AA (AZ Ar (some Ar.zero) 0 t13) fun b7=>AA (AP .neq (AV.strip t14) (.int .i64 0)) fun t17=>ifK t17 (Q (.tup [(.str []),(.vs 2 [] .nil),(AV.flat (AV.strip t14))]) S) (AA (AB Ak (some b7) 1) fun t22=>AA (AP .neq (AV.strip t22) (.int .i64 2)) fun t23=>ifK t23 (Q (.tup [(.str []),(.vs 2 [] .nil),(.int .i64 3)]) S) (AA (AB AH (some b7) 0) fun t25=>AA (AB AL (some c2) 0) fun t26=>AA (AB CS (some b7) 4) fun t29=>AX Ca M8 [(AV.strip t26),(AV.strip t29)] S fun t30 S_2=>Q (.tup [(AV.flat (AV.strip t25)),(AV.flat t30),(.int .i64 0)]) S_2))
theorem W2{w0 a0a a0ar a0b a1 S0 Q}(h:Sv (AT (En w0)) a0a a0ar a0b a1 S0 Q):AC w0 M5 [(.agg [(.vs 2 a0a a0ar),(.int .i64 a0b)]),(.str a1)] S0 Q:=An w0 Tryz.func54 h
def Im(Ca:CaT)(a0 a0o:Nat)(S0:St)(Q:QT):Prop:=AA (AI Ak S0 (.ptr a0 (a0o+1))) fun t7=>AA (AI Ak S0 (.ptr a0 (a0o+2))) fun t11=>Q (.tup [(AV.flat (AV.strip t7)),(AV.flat (AV.strip t11))]) S0
theorem NO{w0 a0 a0o S0 Q}(h:Im (AT (En w0)) a0 a0o S0 Q):AC w0 F5 [(.ptr a0 a0o)] S0 Q:=An w0 Tryz.func55 h
def J7(Ca:CaT)(a0 a0o:Nat)(S0:St)(Q:QT):Prop:=AA (AI Ak S0 (.ptr a0 (a0o+1))) fun t6=>Q (AV.strip t6) S0
theorem Oq{w0 a0 a0o S0 Q}(h:J7 (AT (En w0)) a0 a0o S0 Q):AC w0 Gw [(.ptr a0 a0o)] S0 Q:=An w0 Tryz.func56 h
def Jm(Ca:CaT)(a0 a0o:Nat)(a1 a2:List UInt8)(S0:St)(Q:QT):Prop:=AA (AI Aa S0 (.ptr a0 (a0o+0))) fun t10=>Ca Fn [(.str a1),(.str a2)] S0 fun t13 S=>(AA (AI Aa S (.ptr a0 (a0o+0))) fun t10_2=>((AV.strip t10_2):AV)=(AV.strip t10))∧(AX Ca Cl [(AV.strip t10),t13] S fun t14 S_2=>Q t14 S_2)
theorem Nv{w0 a0 a0o a1 a2 S0 Q}(h:Jm (AT (En w0)) a0 a0o a1 a2 S0 Q):AC w0 GJ [(.ptr a0 a0o),(.str a1),(.str a2)] S0 Q:=An w0 Tryz.func57 h
end Go.Av
