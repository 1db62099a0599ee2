/- Parts of the proofs of this seat: abstract values over the model, and what the functions of the program do. No condition. -/
import Derived.Test.YtgilicomkelmdaaGreatDoorM8
import Derived.Test.YtgilicomkelmdaaGreatDoorM7
import Derived.Test.YtgilicomkelmdaaGreatDoorProg
import Derived.KernelRfl
set_option linter.all false
set_option maxRecDepth 100000
namespace Go.Av
open Go.Proofs
abbrev Da:Nat:=3
abbrev Tp:Nat:=5
abbrev Cq:Nat:=9
abbrev LD:Nat:=22
abbrev Rg:Nat:=23
abbrev aN:Nat:=39
abbrev Lm:Nat:=41
abbrev Qf:Nat:=43
abbrev I5:Nat:=45
abbrev Om:Nat:=54
abbrev Gg:Nat:=76
abbrev GR:Nat:=105
abbrev Lf:Nat:=107
abbrev B4:Nat:=110
abbrev He:Nat:=112
abbrev DH:Nat:=126
abbrev Hb:Nat:=200
abbrev SR:Nat:=234
abbrev BH:Nat:=243
abbrev Bu:Nat:=255
abbrev B5:Nat:=260
abbrev Ce:Nat:=265
abbrev Sd:Nat:=267
abbrev CS:Nat:=274
abbrev CP:Nat:=285
abbrev I3:Nat:=3
abbrev I7:Nat:=4
abbrev NF:Nat:=5
abbrev Mq:Nat:=6
abbrev KP:Nat:=7
abbrev Gc:Nat:=8
abbrev Iz:Nat:=9
abbrev Mh:Nat:=10
abbrev LX:Nat:=11
abbrev Ov:Nat:=12
abbrev Fe:Nat:=13
abbrev Gf:Nat:=14
abbrev Hl:Nat:=15
abbrev MZ:Nat:=16
abbrev Hf:Nat:=17
abbrev Fv:Nat:=18
abbrev Mc:Nat:=19
abbrev Ow:Nat:=20
abbrev FI:Nat:=21
abbrev Cf:Nat:=22
abbrev BA:Nat:=23
abbrev FO:Nat:=24
abbrev Ih:Nat:=25
abbrev Hn:Nat:=26
abbrev GV:Nat:=27
abbrev CQ:Nat:=28
abbrev Lk:Nat:=29
abbrev IS:Nat:=30
abbrev I2:Nat:=31
abbrev IG:Nat:=32
abbrev Ou:Nat:=33
abbrev O4:Nat:=34
abbrev Hg:Nat:=35
abbrev Ju:Nat:=36
abbrev Ha:Nat:=37
abbrev Hk:Nat:=38
abbrev IW:Nat:=39
abbrev FF:Nat:=40
abbrev Bw:Nat:=41
abbrev C9:Nat:=42
abbrev IU:Nat:=43
abbrev LR:Nat:=44
abbrev K6:Nat:=45
abbrev Jc:Nat:=46
abbrev Ey:Nat:=47
abbrev KO:Nat:=48
abbrev Lg:Nat:=49
abbrev Lb:Nat:=50
abbrev NN:Nat:=51
abbrev Ib:Nat:=52
abbrev EI:Nat:=53
abbrev BC:Nat:=54
abbrev Ax:Nat:=55
abbrev Ew:Nat:=56
abbrev Ez:Nat:=57
abbrev JD:Nat:=58
abbrev GY:Nat:=59
abbrev Cd:Nat:=60
abbrev IT:Nat:=61
abbrev PA:Nat:=62
abbrev J5:Nat:=63
abbrev II:Nat:=64
abbrev IX:Nat:=65
abbrev Bo:Nat:=66
abbrev CC:Nat:=67
abbrev CU:Nat:=68
abbrev Hm:Nat:=69
abbrev IR:Nat:=70
abbrev IY:Nat:=71
abbrev H6:Nat:=72
abbrev Ia:Nat:=73
abbrev NA:Nat:=74
abbrev NH:Nat:=75
abbrev It:Nat:=76
abbrev Gm:Nat:=77
abbrev Lo:Nat:=78
abbrev BL:Nat:=79
abbrev MA:Nat:=80
abbrev Ik:Nat:=81
abbrev G6:Nat:=83
abbrev H9:Nat:=121
abbrev Hc:Nat:=123
abbrev Im:Nat:=124
abbrev Ef:Nat:=125
abbrev Dw:Nat:=126
abbrev D8:Nat:=127
abbrev Fb:Nat:=128
abbrev KM:Nat:=129
abbrev Fg:Nat:=130
abbrev EH:Nat:=131
abbrev PD:Nat:=132
abbrev Jy:Nat:=133
abbrev LS:Nat:=134
abbrev Fp:Nat:=135
abbrev Dv:Nat:=136
abbrev LH:Nat:=137
abbrev Fq:Nat:=138
abbrev KN:Nat:=139
abbrev JR:Nat:=140
abbrev Dc:Nat:=141
abbrev FS:Nat:=142
abbrev Oj:Nat:=143
abbrev ED:Nat:=144
abbrev IB:Nat:=145
abbrev JW:Nat:=146
abbrev PH:Nat:=147
abbrev NY:Nat:=148
abbrev FH:Nat:=149
abbrev Fc:Nat:=150
abbrev NB:Nat:=151
abbrev CX:Nat:=152
abbrev Dh:Nat:=153
abbrev El:Nat:=154
abbrev E3:Nat:=155
abbrev LP:Nat:=156
abbrev Ic:Nat:=157
abbrev EC:Nat:=158
abbrev D6:Nat:=159
abbrev R3:Nat:=160
abbrev EL:Nat:=161
abbrev JI:Nat:=162
abbrev Bq:Nat:=163
abbrev Dk:Nat:=164
abbrev Cm:Nat:=165
abbrev C6:Nat:=166
abbrev HW:Nat:=167
abbrev Fd:Nat:=168
abbrev FM:Nat:=169
abbrev Di:Nat:=170
abbrev ES:Nat:=171
abbrev B3:Nat:=172
abbrev F7:Nat:=173
abbrev IV:Nat:=174
abbrev Bn:Nat:=175
abbrev LI:Nat:=176
abbrev EP:Nat:=177
abbrev NJ:Nat:=178
abbrev Mr:Nat:=179
abbrev CH:Nat:=180
abbrev Bl:Nat:=181
abbrev DY:Nat:=182
abbrev KS:Nat:=183
abbrev Gn:Nat:=184
abbrev Ut:Nat:=185
abbrev GS:Nat:=186
abbrev E8:Nat:=187
abbrev Ed:Nat:=188
abbrev F5:Nat:=189
abbrev Cu:Nat:=190
abbrev Bx:Nat:=191
abbrev HL:Nat:=192
abbrev Fz:Nat:=193
abbrev F8:Nat:=194
abbrev FC:Nat:=195
abbrev E9:Nat:=208
abbrev Fh:Nat:=209
abbrev FE:Nat:=210
def mB:TI:={size:=1,bytes:=8,agg:=false,zero:=[.nilfn],kind:=.func,id:=1}
def kU:TI:={size:=1,bytes:=8,agg:=false,zero:=[.int .i64 0],kind:=.int .i64,id:=2}
def AN:TI:={size:=1,bytes:=8,agg:=false,zero:=[.int .i64 0],kind:=.int .i64,id:=3}
@[simp] theorem mV:AN.size=1:=rfl
@[simp] theorem pU:AN.agg=false∧AN.zero=[.int .i64 0]∧AN.kind= .int .i64:=⟨rfl,rfl,rfl⟩
@[simp] theorem oG:AN.id=Da:=rfl
def Cc:TI:={size:=1,bytes:=1,agg:=false,zero:=[.bool false],kind:=.bool,id:=4}
@[simp] theorem lQ:Cc.size=1:=rfl
@[simp] theorem oS:Cc.agg=false∧Cc.zero=[.bool false]∧Cc.kind= .bool:=⟨rfl,rfl,rfl⟩
def L1:TI:={size:=1,bytes:=1,agg:=false,zero:=[.int .u8 0],kind:=.int .u8,id:=5}
@[simp] theorem lC:L1.size=1:=rfl
@[simp] theorem mQ:L1.id=Tp:=rfl
def MK:TI:={size:=1,bytes:=1,agg:=false,zero:=[.int .u8 0],kind:=.int .u8,id:=6}
def Cy:TI:={size:=4,bytes:=24,agg:=true,zero:=[.int .i64 0,.int .i64 0,.bool false,.int .u8 0],kind:=.struct [(0,2,1),(1,3,1),(2,4,1),(3,6,1)],id:=7}
def MS:TI:={size:=4,bytes:=24,agg:=true,zero:=[.int .i64 0,.int .i64 0,.bool false,.int .u8 0],kind:=.struct [(0,2,1),(1,3,1),(2,4,1),(3,6,1)],id:=8}
def AJ:TI:={size:=1,bytes:=16,agg:=false,zero:=[.str []],kind:=.str,id:=9}
@[simp] theorem jp:AJ.size=1:=rfl
@[simp] theorem mL:AJ.agg=false∧AJ.zero=[.str []]∧AJ.kind= .str:=⟨rfl,rfl,rfl⟩
@[simp] theorem l4:AJ.id=Cq:=rfl
def MI:TI:={size:=1,bytes:=16,agg:=false,zero:=[.str []],kind:=.str,id:=10}
def fA:TI:={size:=1,bytes:=8,agg:=false,zero:=[.int .u64 0],kind:=.int .u64,id:=12}
def Jb:TI:={size:=1,bytes:=8,agg:=false,zero:=[.nil],kind:=.ptr 170,id:=16}
def Y7:TI:={size:=1,bytes:=8,agg:=false,zero:=[.nil],kind:=.ptr 178,id:=17}
def Kw:TI:={size:=1,bytes:=8,agg:=true,zero:=[.nil],kind:=.struct [(0,17,1)],id:=18}
def Zo:TI:={size:=1,bytes:=16,agg:=false,zero:=[.nilifc],kind:=.iface,id:=20}
def kN:TI:={size:=1,bytes:=4,agg:=false,zero:=[.int .i32 0],kind:=.int .i32,id:=21}
def Af:TI:={size:=1,bytes:=24,agg:=false,zero:=[.vs 7 [] .nil],kind:=.slice 54,id:=22}
@[simp] theorem eJ:Af.size=1:=rfl
@[simp] theorem iB:Af.agg=false∧Af.zero=[.vs 7 [] .nil]∧Af.kind= .slice 54:=⟨rfl,rfl,rfl⟩
@[simp] theorem gP:Af.id=LD:=rfl
def RQ:TI:={size:=1,bytes:=24,agg:=false,zero:=[.vs 19 [] .nil],kind:=.slice 45,id:=23}
def ap:TI:={size:=1,bytes:=8,agg:=false,zero:=[.nilfn],kind:=.func,id:=24}
def Bb:TI:={size:=1,bytes:=24,agg:=false,zero:=[.vs 2 [] .nil],kind:=.slice 112,id:=27}
@[simp] theorem Zf:Bb.size=1:=rfl
@[simp] theorem d8:Bb.agg=false∧Bb.zero=[.vs 2 [] .nil]∧Bb.kind= .slice 112:=⟨rfl,rfl,rfl⟩
def GM:TI:={size:=2,bytes:=32,agg:=true,zero:=[.vs 2 [] .nil,.int .i64 0],kind:=.struct [(0,27,1),(1,3,1)],id:=28}
def AM:TI:={size:=2,bytes:=32,agg:=true,zero:=[.vs 2 [] .nil,.int .i64 0],kind:=.struct [(0,27,1),(1,3,1)],id:=29}
@[simp] theorem cF:AM.size=2:=rfl
@[simp] theorem gS:AM.agg=true∧AM.zero=[.vs 2 [] .nil,.int .i64 0]∧AM.kind= .struct [(0,27,1),(1,3,1)]:=⟨rfl,rfl,rfl⟩
def Fn:TI:={size:=1,bytes:=8,agg:=false,zero:=[.nilfn],kind:=.func,id:=32}
def Eh:TI:={size:=1,bytes:=24,agg:=false,zero:=[.vs 1 [] .nil],kind:=.slice 3,id:=33}
@[simp] theorem kH:Eh.size=1:=rfl
@[simp] theorem nI:Eh.agg=false∧Eh.zero=[.vs 1 [] .nil]∧Eh.kind= .slice 3:=⟨rfl,rfl,rfl⟩
def Aq:TI:={size:=1,bytes:=24,agg:=false,zero:=[.vs 4 [] .nil],kind:=.slice 70,id:=34}
@[simp] theorem Vl:Aq.size=1:=rfl
@[simp] theorem Xw:Aq.agg=false∧Aq.zero=[.vs 4 [] .nil]∧Aq.kind= .slice 70:=⟨rfl,rfl,rfl⟩
def Cx:TI:={size:=7,bytes:=104,agg:=true,zero:=[.vs 7 [] .nil,.vs 1 [] .nil,.int .i64 0,.int .i64 0,.int .i64 0,.vs 4 [] .nil,.int .i64 0],kind:=.struct [(0,22,1),(1,33,1),(2,3,1),(3,3,1),(4,3,1),(5,34,1),(6,3,1)],id:=35}
def AE:TI:={size:=7,bytes:=104,agg:=true,zero:=[.vs 7 [] .nil,.vs 1 [] .nil,.int .i64 0,.int .i64 0,.int .i64 0,.vs 4 [] .nil,.int .i64 0],kind:=.struct [(0,22,1),(1,33,1),(2,3,1),(3,3,1),(4,3,1),(5,34,1),(6,3,1)],id:=36}
@[simp] theorem Wg:AE.size=7:=rfl
@[simp] theorem ZX:AE.agg=true∧AE.zero=[.vs 7 [] .nil,.vs 1 [] .nil,.int .i64 0,.int .i64 0,.int .i64 0,.vs 4 [] .nil,.int .i64 0]∧AE.kind= .struct [(0,22,1),(1,33,1),(2,3,1),(3,3,1),(4,3,1),(5,34,1),(6,3,1)]:=⟨rfl,rfl,rfl⟩
def C3:TI:={size:=6,bytes:=64,agg:=true,zero:=[.int .i64 0,.str [],.int .i64 0,.int .i64 0,.int .i64 0,.str []],kind:=.struct [(0,3,1),(1,9,1),(2,3,1),(3,3,1),(4,3,1),(5,9,1)],id:=38}
def Bc:TI:={size:=6,bytes:=64,agg:=true,zero:=[.int .i64 0,.str [],.int .i64 0,.int .i64 0,.int .i64 0,.str []],kind:=.struct [(0,3,1),(1,9,1),(2,3,1),(3,3,1),(4,3,1),(5,9,1)],id:=39}
@[simp] theorem jt:Bc.size=6:=rfl
@[simp] theorem mr:Bc.agg=true∧Bc.zero=[.int .i64 0,.str [],.int .i64 0,.int .i64 0,.int .i64 0,.str []]∧Bc.kind= .struct [(0,3,1),(1,9,1),(2,3,1),(3,3,1),(4,3,1),(5,9,1)]:=⟨rfl,rfl,rfl⟩
@[simp] theorem lq:Bc.id=aN:=rfl
def D9:TI:={size:=1,bytes:=8,agg:=false,zero:=[.int .i64 0],kind:=.int .i64,id:=40}
@[simp] theorem fM:D9.size=1:=rfl
@[simp] theorem jw:D9.agg=false∧D9.zero=[.int .i64 0]∧D9.kind= .int .i64:=⟨rfl,rfl,rfl⟩
def AX:TI:={size:=1,bytes:=24,agg:=false,zero:=[.vs 1 [] .nil],kind:=.slice 9,id:=41}
@[simp] theorem gQ:AX.size=1:=rfl
@[simp] theorem kK:AX.agg=false∧AX.zero=[.vs 1 [] .nil]∧AX.kind= .slice 9:=⟨rfl,rfl,rfl⟩
@[simp] theorem jx:AX.id=Lm:=rfl
def Cw:TI:={size:=8,bytes:=88,agg:=true,zero:=[.int .i64 0,.int .i64 0,.int .i64 0,.int .i64 0,.int .i64 0,.str [],.vs 1 [] .nil,.bool false],kind:=.struct [(0,40,1),(1,3,1),(2,3,1),(3,3,1),(4,3,1),(5,9,1),(6,41,1),(7,4,1)],id:=42}
def AD:TI:={size:=8,bytes:=88,agg:=true,zero:=[.int .i64 0,.int .i64 0,.int .i64 0,.int .i64 0,.int .i64 0,.str [],.vs 1 [] .nil,.bool false],kind:=.struct [(0,40,1),(1,3,1),(2,3,1),(3,3,1),(4,3,1),(5,9,1),(6,41,1),(7,4,1)],id:=43}
@[simp] theorem dw:AD.size=8:=rfl
@[simp] theorem ik:AD.agg=true∧AD.zero=[.int .i64 0,.int .i64 0,.int .i64 0,.int .i64 0,.int .i64 0,.str [],.vs 1 [] .nil,.bool false]∧AD.kind= .struct [(0,40,1),(1,3,1),(2,3,1),(3,3,1),(4,3,1),(5,9,1),(6,41,1),(7,4,1)]:=⟨rfl,rfl,rfl⟩
@[simp] theorem gZ:AD.id=Qf:=rfl
def Cv:TI:={size:=19,bytes:=192,agg:=true,zero:=[.int .i64 0,.int .i64 0,.int .i64 0,.str [],.int .i64 0,.int .i64 0,.int .i64 0,.str [],.int .i64 0,.int .i64 0,.int .i64 0,.int .i64 0,.int .i64 0,.str [],.vs 1 [] .nil,.bool false,.int .i64 0,.int .i64 0,.int .i64 0],kind:=.struct [(0,3,1),(1,3,1),(2,39,6),(8,43,8),(16,3,1),(17,3,1),(18,3,1)],id:=44}
def AF:TI:={size:=19,bytes:=192,agg:=true,zero:=[.int .i64 0,.int .i64 0,.int .i64 0,.str [],.int .i64 0,.int .i64 0,.int .i64 0,.str [],.int .i64 0,.int .i64 0,.int .i64 0,.int .i64 0,.int .i64 0,.str [],.vs 1 [] .nil,.bool false,.int .i64 0,.int .i64 0,.int .i64 0],kind:=.struct [(0,3,1),(1,3,1),(2,39,6),(8,43,8),(16,3,1),(17,3,1),(18,3,1)],id:=45}
@[simp] theorem bm:AF.size=19:=rfl
@[simp] theorem gB:AF.agg=true∧AF.zero=[.int .i64 0,.int .i64 0,.int .i64 0,.str [],.int .i64 0,.int .i64 0,.int .i64 0,.str [],.int .i64 0,.int .i64 0,.int .i64 0,.int .i64 0,.int .i64 0,.str [],.vs 1 [] .nil,.bool false,.int .i64 0,.int .i64 0,.int .i64 0]∧AF.kind= .struct [(0,3,1),(1,3,1),(2,39,6),(8,43,8),(16,3,1),(17,3,1),(18,3,1)]:=⟨rfl,rfl,rfl⟩
@[simp] theorem eG:AF.id=I5:=rfl
def Co:TI:={size:=1,bytes:=8,agg:=false,zero:=[.nilfn],kind:=.func,id:=48}
def BB:TI:={size:=1,bytes:=24,agg:=false,zero:=[.vs 2 [] .nil],kind:=.slice 107,id:=52}
@[simp] theorem bp:BB.size=1:=rfl
@[simp] theorem e8:BB.agg=false∧BB.zero=[.vs 2 [] .nil]∧BB.kind= .slice 107:=⟨rfl,rfl,rfl⟩
def C2:TI:={size:=7,bytes:=112,agg:=true,zero:=[.int .i64 0,.bool false,.vs 1 [] .nil,.vs 7 [] .nil,.int .i64 0,.vs 2 [] .nil,.str []],kind:=.struct [(0,3,1),(1,4,1),(2,41,1),(3,22,1),(4,3,1),(5,52,1),(6,9,1)],id:=53}
def AG:TI:={size:=7,bytes:=112,agg:=true,zero:=[.int .i64 0,.bool false,.vs 1 [] .nil,.vs 7 [] .nil,.int .i64 0,.vs 2 [] .nil,.str []],kind:=.struct [(0,3,1),(1,4,1),(2,41,1),(3,22,1),(4,3,1),(5,52,1),(6,9,1)],id:=54}
@[simp] theorem ge:AG.size=7:=rfl
@[simp] theorem lJ:AG.agg=true∧AG.zero=[.int .i64 0,.bool false,.vs 1 [] .nil,.vs 7 [] .nil,.int .i64 0,.vs 2 [] .nil,.str []]∧AG.kind= .struct [(0,3,1),(1,4,1),(2,41,1),(3,22,1),(4,3,1),(5,52,1),(6,9,1)]:=⟨rfl,rfl,rfl⟩
@[simp] theorem j9:AG.id=Om:=rfl
def Mv:TI:={size:=1,bytes:=8,agg:=false,zero:=[.nilfn],kind:=.func,id:=56}
def db:TI:={size:=1,bytes:=24,agg:=false,zero:=[.vs 6 [] .nil],kind:=.slice 39,id:=58}
def Fs:TI:={size:=1,bytes:=8,agg:=false,zero:=[.nilfn],kind:=.func,id:=63}
def Du:TI:={size:=1,bytes:=8,agg:=false,zero:=[.nilfn],kind:=.func,id:=64}
def MJ:TI:={size:=1,bytes:=24,agg:=false,zero:=[.vs 2 [] .nil],kind:=.slice 96,id:=65}
def EA:TI:={size:=4,bytes:=48,agg:=true,zero:=[.int .i64 0,.int .i64 0,.vs 1 [] .nil,.int .i64 0],kind:=.struct [(0,3,1),(1,3,1),(2,41,1),(3,3,1)],id:=69}
def Ab:TI:={size:=4,bytes:=48,agg:=true,zero:=[.int .i64 0,.int .i64 0,.vs 1 [] .nil,.int .i64 0],kind:=.struct [(0,3,1),(1,3,1),(2,41,1),(3,3,1)],id:=70}
@[simp] theorem Xv:Ab.size=4:=rfl
@[simp] theorem aE:Ab.agg=true∧Ab.zero=[.int .i64 0,.int .i64 0,.vs 1 [] .nil,.int .i64 0]∧Ab.kind= .struct [(0,3,1),(1,3,1),(2,41,1),(3,3,1)]:=⟨rfl,rfl,rfl⟩
def EN:TI:={size:=1,bytes:=8,agg:=false,zero:=[.nil],kind:=.ptr 105,id:=76}
@[simp] theorem bt:EN.size=1:=rfl
@[simp] theorem eZ:EN.id=Gg:=rfl
def GZ:TI:={size:=1,bytes:=16,agg:=false,zero:=[.nilifc],kind:=.iface,id:=78}
def an:TI:={size:=1,bytes:=16,agg:=false,zero:=[.nilifc],kind:=.iface,id:=79}
def J9:TI:={size:=1,bytes:=8,agg:=false,zero:=[.nilfn],kind:=.func,id:=80}
def lA:TI:={size:=1,bytes:=8,agg:=false,zero:=[.nil],kind:=.ptr 3,id:=82}
def DU:TI:={size:=1,bytes:=8,agg:=false,zero:=[.nil],kind:=.ptr 110,id:=83}
@[simp] theorem ZL:DU.size=1:=rfl
@[simp] theorem bu:DU.agg=false∧DU.zero=[.nil]∧DU.kind= .ptr 110:=⟨rfl,rfl,rfl⟩
def D4:TI:={size:=3,bytes:=56,agg:=true,zero:=[.vs 1 [] .nil,.vs 7 [] .nil,.int .i64 0],kind:=.struct [(0,41,1),(1,22,1),(2,3,1)],id:=90}
def Az:TI:={size:=3,bytes:=56,agg:=true,zero:=[.vs 1 [] .nil,.vs 7 [] .nil,.int .i64 0],kind:=.struct [(0,41,1),(1,22,1),(2,3,1)],id:=91}
@[simp] theorem ZV:Az.size=3:=rfl
@[simp] theorem cH:Az.agg=true∧Az.zero=[.vs 1 [] .nil,.vs 7 [] .nil,.int .i64 0]∧Az.kind= .struct [(0,41,1),(1,22,1),(2,3,1)]:=⟨rfl,rfl,rfl⟩
def Hz:TI:={size:=2,bytes:=24,agg:=true,zero:=[.str [],.int .i64 0],kind:=.struct [(0,9,1),(1,3,1)],id:=95}
def BW:TI:={size:=2,bytes:=24,agg:=true,zero:=[.str [],.int .i64 0],kind:=.struct [(0,9,1),(1,3,1)],id:=96}
@[simp] theorem Wu:BW.size=2:=rfl
@[simp] theorem ZS:BW.agg=true∧BW.zero=[.str [],.int .i64 0]∧BW.kind= .struct [(0,9,1),(1,3,1)]:=⟨rfl,rfl,rfl⟩
def HJ:TI:={size:=8,bytes:=120,agg:=true,zero:=[.int .i64 0,.bool false,.vs 1 [] .nil,.vs 7 [] .nil,.int .i64 0,.vs 2 [] .nil,.str [],.int .i64 0],kind:=.struct [(0,54,7),(7,3,1)],id:=97}
def Ah:TI:={size:=8,bytes:=120,agg:=true,zero:=[.int .i64 0,.bool false,.vs 1 [] .nil,.vs 7 [] .nil,.int .i64 0,.vs 2 [] .nil,.str [],.int .i64 0],kind:=.struct [(0,54,7),(7,3,1)],id:=98}
@[simp] theorem Yb:Ah.size=8:=rfl
@[simp] theorem bq:Ah.agg=true∧Ah.zero=[.int .i64 0,.bool false,.vs 1 [] .nil,.vs 7 [] .nil,.int .i64 0,.vs 2 [] .nil,.str [],.int .i64 0]∧Ah.kind= .struct [(0,54,7),(7,3,1)]:=⟨rfl,rfl,rfl⟩
def CF:TI:={size:=1,bytes:=8,agg:=false,zero:=[.nil],kind:=.ptr 126,id:=102}
@[simp] theorem ZY:CF.size=1:=rfl
@[simp] theorem di:CF.agg=false∧CF.zero=[.nil]∧CF.kind= .ptr 126:=⟨rfl,rfl,rfl⟩
def Dt:TI:={size:=4,bytes:=48,agg:=true,zero:=[.vs 2 [] .nil,.int .i64 0,.int .i64 0,.nil],kind:=.struct [(0,29,2),(2,3,1),(3,102,1)],id:=104}
def D5:TI:={size:=4,bytes:=48,agg:=true,zero:=[.vs 2 [] .nil,.int .i64 0,.int .i64 0,.nil],kind:=.struct [(0,29,2),(2,3,1),(3,102,1)],id:=105}
@[simp] theorem ea:D5.size=4:=rfl
@[simp] theorem jD:D5.agg=true∧D5.zero=[.vs 2 [] .nil,.int .i64 0,.int .i64 0,.nil]∧D5.kind= .struct [(0,29,2),(2,3,1),(3,102,1)]:=⟨rfl,rfl,rfl⟩
@[simp] theorem gU:D5.id=GR:=rfl
def IF:TI:={size:=2,bytes:=24,agg:=true,zero:=[.int .i64 0,.str []],kind:=.struct [(0,3,1),(1,9,1)],id:=106}
def Al:TI:={size:=2,bytes:=24,agg:=true,zero:=[.int .i64 0,.str []],kind:=.struct [(0,3,1),(1,9,1)],id:=107}
@[simp] theorem eQ:Al.size=2:=rfl
@[simp] theorem iU:Al.agg=true∧Al.zero=[.int .i64 0,.str []]∧Al.kind= .struct [(0,3,1),(1,9,1)]:=⟨rfl,rfl,rfl⟩
@[simp] theorem gb:Al.id=Lf:=rfl
def BQ:TI:={size:=1,bytes:=24,agg:=false,zero:=[.vs 8 [] .nil],kind:=.slice 129,id:=108}
@[simp] theorem ZW:BQ.size=1:=rfl
@[simp] theorem dR:BQ.agg=false∧BQ.zero=[.vs 8 [] .nil]∧BQ.kind= .slice 129:=⟨rfl,rfl,rfl⟩
def Ht:TI:={size:=1,bytes:=24,agg:=true,zero:=[.vs 8 [] .nil],kind:=.struct [(0,108,1)],id:=109}
def F1:TI:={size:=1,bytes:=24,agg:=true,zero:=[.vs 8 [] .nil],kind:=.struct [(0,108,1)],id:=110}
@[simp] theorem aa:F1.size=1:=rfl
@[simp] theorem cC:F1.id=B4:=rfl
def Gr:TI:={size:=2,bytes:=16,agg:=true,zero:=[.int .i64 0,.nil],kind:=.struct [(0,3,1),(1,83,1)],id:=111}
def B7:TI:={size:=2,bytes:=16,agg:=true,zero:=[.int .i64 0,.nil],kind:=.struct [(0,3,1),(1,83,1)],id:=112}
@[simp] theorem cM:B7.size=2:=rfl
@[simp] theorem gW:B7.agg=true∧B7.zero=[.int .i64 0,.nil]∧B7.kind= .struct [(0,3,1),(1,83,1)]:=⟨rfl,rfl,rfl⟩
@[simp] theorem fJ:B7.id=He:=rfl
def GJ:TI:={size:=1,bytes:=24,agg:=false,zero:=[.vs 1 [] .nil],kind:=.slice 5,id:=122}
@[simp] theorem iz:GJ.size=1:=rfl
@[simp] theorem lS:GJ.agg=false∧GJ.zero=[.vs 1 [] .nil]∧GJ.kind= .slice 5:=⟨rfl,rfl,rfl⟩
def BG:TI:={size:=1,bytes:=8,agg:=false,zero:=[.map none],kind:=.map 3 185,id:=124}
@[simp] theorem Tb:BG.size=1:=rfl
@[simp] theorem Vk:BG.agg=false∧BG.zero=[.map none]∧BG.kind= .map 3 185:=⟨rfl,rfl,rfl⟩
def Dd:TI:={size:=3,bytes:=24,agg:=true,zero:=[.int .i64 0,.int .i64 0,.map none],kind:=.struct [(0,3,1),(1,3,1),(2,124,1)],id:=125}
def GO:TI:={size:=3,bytes:=24,agg:=true,zero:=[.int .i64 0,.int .i64 0,.map none],kind:=.struct [(0,3,1),(1,3,1),(2,124,1)],id:=126}
@[simp] theorem bz:GO.size=3:=rfl
@[simp] theorem dl:GO.id=DH:=rfl
def IZ:TI:={size:=8,bytes:=136,agg:=true,zero:=[.int .i64 0,.bool false,.vs 1 [] .nil,.vs 7 [] .nil,.int .i64 0,.vs 2 [] .nil,.str [],.vs 1 [] .nil],kind:=.struct [(0,54,7),(7,33,1)],id:=128}
def Ar:TI:={size:=8,bytes:=136,agg:=true,zero:=[.int .i64 0,.bool false,.vs 1 [] .nil,.vs 7 [] .nil,.int .i64 0,.vs 2 [] .nil,.str [],.vs 1 [] .nil],kind:=.struct [(0,54,7),(7,33,1)],id:=129}
@[simp] theorem bv:Ar.size=8:=rfl
@[simp] theorem fW:Ar.agg=true∧Ar.zero=[.int .i64 0,.bool false,.vs 1 [] .nil,.vs 7 [] .nil,.int .i64 0,.vs 2 [] .nil,.str [],.vs 1 [] .nil]∧Ar.kind= .struct [(0,54,7),(7,33,1)]:=⟨rfl,rfl,rfl⟩
def mp:TI:={size:=1,bytes:=8,agg:=false,zero:=[.int .u64 0],kind:=.int .u64,id:=132}
def iJ:TI:={size:=1,bytes:=4,agg:=false,zero:=[.int .u32 0],kind:=.int .u32,id:=162}
def Id:TI:={size:=0,bytes:=0,agg:=true,zero:=[],kind:=.array 0 16,id:=168}
def GF:TI:={size:=0,bytes:=0,agg:=true,zero:=[],kind:=.struct [(0,168,0)],id:=169}
def Ky:TI:={size:=0,bytes:=0,agg:=true,zero:=[],kind:=.struct [(0,168,0)],id:=170}
def ah:TI:={size:=1,bytes:=1,agg:=false,zero:=[.int .u8 0],kind:=.int .u8,id:=171}
def cq:TI:={size:=1,bytes:=1,agg:=false,zero:=[.int .u8 0],kind:=.int .u8,id:=172}
def Er:TI:={size:=1,bytes:=8,agg:=false,zero:=[.nilfn],kind:=.func,id:=173}
def gI:TI:={size:=1,bytes:=8,agg:=false,zero:=[.nil],kind:=.ptr 5,id:=174}
def W0:TI:={size:=1,bytes:=4,agg:=false,zero:=[.int .i32 0],kind:=.int .i32,id:=175}
def Wt:TI:={size:=1,bytes:=4,agg:=false,zero:=[.int .i32 0],kind:=.int .i32,id:=176}
def Cz:TI:={size:=11,bytes:=48,agg:=true,zero:=[.int .u64 0,.int .u64 0,.int .u32 0,.int .u8 0,.int .u8 0,.int .u8 0,.int .u8 0,.nilfn,.nil,.int .i32 0,.int .i32 0],kind:=.struct [(0,12,1),(1,12,1),(2,162,1),(3,171,1),(4,5,1),(5,5,1),(6,172,1),(7,173,1),(8,174,1),(9,175,1),(10,176,1)],id:=177}
def de:TI:={size:=11,bytes:=48,agg:=true,zero:=[.int .u64 0,.int .u64 0,.int .u32 0,.int .u8 0,.int .u8 0,.int .u8 0,.int .u8 0,.nilfn,.nil,.int .i32 0,.int .i32 0],kind:=.struct [(0,12,1),(1,12,1),(2,162,1),(3,171,1),(4,5,1),(5,5,1),(6,172,1),(7,173,1),(8,174,1),(9,175,1),(10,176,1)],id:=178}
def TW:TI:={size:=1,bytes:=24,agg:=false,zero:=[.vs 2 [] .nil],kind:=.slice 237,id:=180}
def Fm:TI:={size:=3,bytes:=32,agg:=true,zero:=[.int .i64 0,.str [],.int .i64 0],kind:=.struct [(0,3,1),(1,9,1),(2,3,1)],id:=184}
def A4:TI:={size:=3,bytes:=32,agg:=true,zero:=[.int .i64 0,.str [],.int .i64 0],kind:=.struct [(0,3,1),(1,9,1),(2,3,1)],id:=185}
@[simp] theorem bT:A4.size=3:=rfl
@[simp] theorem ee:A4.agg=true∧A4.zero=[.int .i64 0,.str [],.int .i64 0]∧A4.kind= .struct [(0,3,1),(1,9,1),(2,3,1)]:=⟨rfl,rfl,rfl⟩
def IC:TI:={size:=2,bytes:=16,agg:=true,zero:=[.int .i64 0,.int .i64 0],kind:=.struct [(0,3,1),(1,3,1)],id:=193}
def BD:TI:={size:=2,bytes:=16,agg:=true,zero:=[.int .i64 0,.int .i64 0],kind:=.struct [(0,3,1),(1,3,1)],id:=194}
@[simp] theorem eh:BD.size=2:=rfl
@[simp] theorem jr:BD.agg=true∧BD.zero=[.int .i64 0,.int .i64 0]∧BD.kind= .struct [(0,3,1),(1,3,1)]:=⟨rfl,rfl,rfl⟩
def Vq:TI:={size:=1,bytes:=24,agg:=false,zero:=[.vs 2 [] .nil],kind:=.slice 194,id:=195}
def CJ:TI:={size:=1,bytes:=24,agg:=false,zero:=[.vs 2 [] .nil],kind:=.slice 194,id:=196}
@[simp] theorem eR:CJ.size=1:=rfl
@[simp] theorem iE:CJ.agg=false∧CJ.zero=[.vs 2 [] .nil]∧CJ.kind= .slice 194:=⟨rfl,rfl,rfl⟩
def EX:TI:={size:=4,bytes:=48,agg:=true,zero:=[.int .i64 0,.int .i64 0,.int .i64 0,.vs 2 [] .nil],kind:=.struct [(0,3,1),(1,194,2),(3,196,1)],id:=197}
def BR:TI:={size:=4,bytes:=48,agg:=true,zero:=[.int .i64 0,.int .i64 0,.int .i64 0,.vs 2 [] .nil],kind:=.struct [(0,3,1),(1,194,2),(3,196,1)],id:=198}
@[simp] theorem dt:BR.size=4:=rfl
@[simp] theorem ix:BR.agg=true∧BR.zero=[.int .i64 0,.int .i64 0,.int .i64 0,.vs 2 [] .nil]∧BR.kind= .struct [(0,3,1),(1,194,2),(3,196,1)]:=⟨rfl,rfl,rfl⟩
def Gp:TI:={size:=5,bytes:=64,agg:=true,zero:=[.str [],.int .i64 0,.int .i64 0,.int .i64 0,.vs 2 [] .nil],kind:=.struct [(0,9,1),(1,198,4)],id:=199}
def Aj:TI:={size:=5,bytes:=64,agg:=true,zero:=[.str [],.int .i64 0,.int .i64 0,.int .i64 0,.vs 2 [] .nil],kind:=.struct [(0,9,1),(1,198,4)],id:=200}
@[simp] theorem cN:Aj.size=5:=rfl
@[simp] theorem gc:Aj.agg=true∧Aj.zero=[.str [],.int .i64 0,.int .i64 0,.int .i64 0,.vs 2 [] .nil]∧Aj.kind= .struct [(0,9,1),(1,198,4)]:=⟨rfl,rfl,rfl⟩
@[simp] theorem fg:Aj.id=Hb:=rfl
def S9:TI:={size:=1,bytes:=8,agg:=false,zero:=[.nil],kind:=.ptr 255,id:=216}
def Xz:TI:={size:=1,bytes:=24,agg:=false,zero:=[.vs 1 [] .nil],kind:=.slice 41,id:=228}
def Vs:TI:={size:=1,bytes:=24,agg:=false,zero:=[.vs 2 [] .nil],kind:=.slice 234,id:=230}
def H8:TI:={size:=2,bytes:=24,agg:=true,zero:=[.str [],.int .i64 0],kind:=.struct [(0,9,1),(1,3,1)],id:=233}
def A3:TI:={size:=2,bytes:=24,agg:=true,zero:=[.str [],.int .i64 0],kind:=.struct [(0,9,1),(1,3,1)],id:=234}
@[simp] theorem fX:A3.size=2:=rfl
@[simp] theorem jn:A3.agg=true∧A3.zero=[.str [],.int .i64 0]∧A3.kind= .struct [(0,9,1),(1,3,1)]:=⟨rfl,rfl,rfl⟩
@[simp] theorem jI:A3.id=SR:=rfl
def BI:TI:={size:=2,bytes:=24,agg:=true,zero:=[.str [],.int .i64 0],kind:=.struct [(0,9,1),(1,3,1)],id:=237}
@[simp] theorem cT:BI.size=2:=rfl
@[simp] theorem ga:BI.agg=true∧BI.zero=[.str [],.int .i64 0]∧BI.kind= .struct [(0,9,1),(1,3,1)]:=⟨rfl,rfl,rfl⟩
def Rv:TI:={size:=1,bytes:=8,agg:=false,zero:=[.nil],kind:=.ptr 243,id:=239}
def Cl:TI:={size:=1,bytes:=8,agg:=false,zero:=[.nil],kind:=.ptr 274,id:=240}
@[simp] theorem aX:Cl.size=1:=rfl
@[simp] theorem dq:Cl.agg=false∧Cl.zero=[.nil]∧Cl.kind= .ptr 274:=⟨rfl,rfl,rfl⟩
def E4:TI:={size:=3,bytes:=24,agg:=true,zero:=[.nil,.bool false,.int .i64 0],kind:=.struct [(0,240,1),(1,4,1),(2,3,1)],id:=242}
def DO:TI:={size:=3,bytes:=24,agg:=true,zero:=[.nil,.bool false,.int .i64 0],kind:=.struct [(0,240,1),(1,4,1),(2,3,1)],id:=243}
@[simp] theorem bo:DO.size=3:=rfl
@[simp] theorem fS:DO.agg=true∧DO.zero=[.nil,.bool false,.int .i64 0]∧DO.kind= .struct [(0,240,1),(1,4,1),(2,3,1)]:=⟨rfl,rfl,rfl⟩
@[simp] theorem eK:DO.id=BH:=rfl
def Kv:TI:={size:=1,bytes:=8,agg:=false,zero:=[.nilfn],kind:=.func,id:=246}
def Gv:TI:={size:=2,bytes:=40,agg:=true,zero:=[.str [],.vs 2 [] .nil],kind:=.struct [(0,9,1),(1,196,1)],id:=250}
def Bz:TI:={size:=2,bytes:=40,agg:=true,zero:=[.str [],.vs 2 [] .nil],kind:=.struct [(0,9,1),(1,196,1)],id:=251}
@[simp] theorem gV:Bz.size=2:=rfl
@[simp] theorem lM:Bz.agg=true∧Bz.zero=[.str [],.vs 2 [] .nil]∧Bz.kind= .struct [(0,9,1),(1,196,1)]:=⟨rfl,rfl,rfl⟩
def BP:TI:={size:=1,bytes:=24,agg:=false,zero:=[.vs 2 [] .nil],kind:=.slice 251,id:=252}
@[simp] theorem eH:BP.size=1:=rfl
def Ck:TI:={size:=1,bytes:=8,agg:=false,zero:=[.nil],kind:=.ptr 200,id:=253}
@[simp] theorem Z4:Ck.size=1:=rfl
def Cr:TI:={size:=5,bytes:=72,agg:=true,zero:=[.vs 1 [] .nil,.vs 2 [] .nil,.bool false,.int .i64 0,.nil],kind:=.struct [(0,41,1),(1,252,1),(2,4,1),(3,3,1),(4,253,1)],id:=254}
def Dl:TI:={size:=5,bytes:=72,agg:=true,zero:=[.vs 1 [] .nil,.vs 2 [] .nil,.bool false,.int .i64 0,.nil],kind:=.struct [(0,41,1),(1,252,1),(2,4,1),(3,3,1),(4,253,1)],id:=255}
@[simp] theorem cu:Dl.size=5:=rfl
@[simp] theorem gd:Dl.agg=true∧Dl.zero=[.vs 1 [] .nil,.vs 2 [] .nil,.bool false,.int .i64 0,.nil]∧Dl.kind= .struct [(0,41,1),(1,252,1),(2,4,1),(3,3,1),(4,253,1)]:=⟨rfl,rfl,rfl⟩
@[simp] theorem fd:Dl.id=Bu:=rfl
def Ch:TI:={size:=1,bytes:=8,agg:=false,zero:=[.nil],kind:=.ptr 265,id:=260}
@[simp] theorem cA:Ch.size=1:=rfl
@[simp] theorem fq:Ch.agg=false∧Ch.zero=[.nil]∧Ch.kind= .ptr 265:=⟨rfl,rfl,rfl⟩
@[simp] theorem eM:Ch.id=B5:=rfl
def BX:TI:={size:=1,bytes:=8,agg:=false,zero:=[.nilfn],kind:=.func,id:=261}
@[simp] theorem N1:BX.size=1:=rfl
@[simp] theorem PX:BX.agg=false∧BX.zero=[.nilfn]∧BX.kind= .func:=⟨rfl,rfl,rfl⟩
def BF:TI:={size:=1,bytes:=24,agg:=false,zero:=[.vs 3 [] .nil],kind:=.slice 267,id:=263}
@[simp] theorem dL:BF.size=1:=rfl
@[simp] theorem gR:BF.agg=false∧BF.zero=[.vs 3 [] .nil]∧BF.kind= .slice 267:=⟨rfl,rfl,rfl⟩
def DG:TI:={size:=2,bytes:=32,agg:=true,zero:=[.vs 3 [] .nil,.nilfn],kind:=.struct [(0,263,1),(1,261,1)],id:=264}
def Il:TI:={size:=2,bytes:=32,agg:=true,zero:=[.vs 3 [] .nil,.nilfn],kind:=.struct [(0,263,1),(1,261,1)],id:=265}
@[simp] theorem eF:Il.size=2:=rfl
@[simp] theorem gT:Il.id=Ce:=rfl
def Ga:TI:={size:=3,bytes:=48,agg:=true,zero:=[.str [],.int .i64 0,.vs 1 [] .nil],kind:=.struct [(0,234,2),(2,41,1)],id:=266}
def A0:TI:={size:=3,bytes:=48,agg:=true,zero:=[.str [],.int .i64 0,.vs 1 [] .nil],kind:=.struct [(0,234,2),(2,41,1)],id:=267}
@[simp] theorem Rs:A0.size=3:=rfl
@[simp] theorem j8:A0.agg=true∧A0.zero=[.str [],.int .i64 0,.vs 1 [] .nil]∧A0.kind= .struct [(0,234,2),(2,41,1)]:=⟨rfl,rfl,rfl⟩
@[simp] theorem iK:A0.id=Sd:=rfl
def Wr:TI:={size:=1,bytes:=8,agg:=false,zero:=[.nil],kind:=.ptr 267,id:=269}
def Qi:TI:={size:=1,bytes:=16,agg:=true,zero:=[.str []],kind:=.struct [(0,9,1)],id:=273}
def Hh:TI:={size:=1,bytes:=16,agg:=true,zero:=[.str []],kind:=.struct [(0,9,1)],id:=274}
@[simp] theorem cR:Hh.size=1:=rfl
@[simp] theorem fI:Hh.id=CS:=rfl
def Cs:TI:={size:=1,bytes:=16,agg:=false,zero:=[.nilifc],kind:=.iface,id:=275}
def RM:TI:={size:=1,bytes:=16,agg:=false,zero:=[.nilifc],kind:=.iface,id:=276}
def Ns:TI:={size:=1,bytes:=8,agg:=false,zero:=[.nil],kind:=.ptr 285,id:=283}
def EY:TI:={size:=2,bytes:=32,agg:=true,zero:=[.nil,.vs 1 [] .nil],kind:=.struct [(0,283,1),(1,122,1)],id:=284}
def CN:TI:={size:=2,bytes:=32,agg:=true,zero:=[.nil,.vs 1 [] .nil],kind:=.struct [(0,283,1),(1,122,1)],id:=285}
@[simp] theorem Yv:CN.size=2:=rfl
@[simp] theorem bw:CN.agg=true∧CN.zero=[.nil,.vs 1 [] .nil]∧CN.kind= .struct [(0,283,1),(1,122,1)]:=⟨rfl,rfl,rfl⟩
@[simp] theorem Z9:CN.id=CP:=rfl
def KL:TI:={size:=1,bytes:=16,agg:=false,zero:=[.nilifc],kind:=.iface,id:=286}
def kY:TI:={size:=1,bytes:=16,agg:=false,zero:=[.nilifc],kind:=.iface,id:=287}
def kA:Nat→TI
 |1=>mB
 |2=>kU
 |3=>AN
 |4=>Cc
 |5=>L1
 |6=>MK
 |7=>Cy
 |8=>MS
 |9=>AJ
 |10=>MI
 |12=>fA
 |16=>Jb
 |17=>Y7
 |18=>Kw
 |20=>Zo
 |21=>kN
 |22=>Af
 |23=>RQ
 |24=>ap
 |27=>Bb
 |28=>GM
 |29=>AM
 |32=>Fn
 |33=>Eh
 |34=>Aq
 |35=>Cx
 |36=>AE
 |38=>C3
 |39=>Bc
 |40=>D9
 |41=>AX
 |42=>Cw
 |43=>AD
 |44=>Cv
 |45=>AF
 |48=>Co
 |52=>BB
 |53=>C2
 |54=>AG
 |56=>Mv
 |58=>db
 |63=>Fs
 |64=>Du
 |65=>MJ
 |69=>EA
 |70=>Ab
 |76=>EN
 |78=>GZ
 |79=>an
 |80=>J9
 |82=>lA
 |83=>DU
 |90=>D4
 |91=>Az
 |95=>Hz
 |96=>BW
 |97=>HJ
 |98=>Ah
 |102=>CF
 |104=>Dt
 |105=>D5
 |106=>IF
 |107=>Al
 |108=>BQ
 |109=>Ht
 |110=>F1
 |111=>Gr
 |112=>B7
 |122=>GJ
 |124=>BG
 |125=>Dd
 |126=>GO
 |128=>IZ
 |129=>Ar
 |132=>mp
 |162=>iJ
 |168=>Id
 |169=>GF
 |170=>Ky
 |171=>ah
 |172=>cq
 |173=>Er
 |174=>gI
 |175=>W0
 |176=>Wt
 |177=>Cz
 |178=>de
 |180=>TW
 |184=>Fm
 |185=>A4
 |193=>IC
 |194=>BD
 |195=>Vq
 |196=>CJ
 |197=>EX
 |198=>BR
 |199=>Gp
 |200=>Aj
 |216=>S9
 |228=>Xz
 |230=>Vs
 |233=>H8
 |234=>A3
 |237=>BI
 |239=>Rv
 |240=>Cl
 |242=>E4
 |243=>DO
 |246=>Kv
 |250=>Gv
 |251=>Bz
 |252=>BP
 |253=>Ck
 |254=>Cr
 |255=>Dl
 |260=>Ch
 |261=>BX
 |263=>BF
 |264=>DG
 |265=>Il
 |266=>Ga
 |267=>A0
 |269=>Wr
 |273=>Qi
 |274=>Hh
 |275=>Cs
 |276=>RM
 |283=>Ns
 |284=>EY
 |285=>CN
 |286=>KL
 |287=>kY
 |n=>{size:=0,bytes:=0,agg:=false,zero:=[],kind:=match n with|0|30|47|59|66|72|84|86|115|139|145|152|163|181|186|201|204|206|210|217|220|223|235|238|281|288|292|299=>.tuple|_=>.other}
def lZ:Nat→Nat→Bool
 |3,7=>true
 |3,11=>true
 |3,15=>true
 |3,16=>true
 |3,17=>true
 |4,1=>true
 |4,2=>true
 |4,3=>true
 |4,4=>true
 |5,4=>true
 |6,4=>true
 |7,2=>true
 |7,5=>true
 |7,6=>true
 |9,5=>true
 |10,4=>true
 |10,5=>true
 |11,2=>true
 |11,3=>true
 |12,2=>true
 |12,3=>true
 |12,4=>true
 |12,5=>true
 |12,10=>true
 |13,2=>true
 |13,3=>true
 |14,3=>true
 |14,10=>true
 |15,2=>true
 |15,3=>true
 |16,4=>true
 |16,6=>true
 |17,1=>true
 |18,1=>true
 |19,6=>true
 |20,2=>true
 |20,4=>true
 |20,6=>true
 |21,1=>true
 |24,2=>true
 |24,3=>true
 |25,2=>true
 |25,3=>true
 |25,4=>true
 |26,2=>true
 |26,3=>true
 |27,7=>true
 |28,2=>true
 |29,2=>true
 |29,3=>true
 |29,4=>true
 |29,5=>true
 |29,7=>true
 |29,11=>true
 |31,2=>true
 |31,4=>true
 |33,5=>true
 |33,6=>true
 |33,7=>true
 |33,10=>true
 |34,2=>true
 |35,3=>true
 |35,8=>true
 |35,10=>true
 |36,1=>true
 |37,1=>true
 |38,1=>true
 |39,1=>true
 |40,2=>true
 |40,4=>true
 |43,6=>true
 |46,4=>true
 |46,5=>true
 |46,6=>true
 |46,15=>true
 |47,2=>true
 |48,6=>true
 |51,1=>true
 |52,1=>true
 |53,3=>true
 |53,6=>true
 |53,8=>true
 |57,10=>true
 |61,2=>true
 |64,1=>true
 |65,3=>true
 |65,11=>true
 |75,1=>true
 |76,7=>true
 |78,1=>true
 |121,3=>true
 |121,4=>true
 |121,9=>true
 |123,1=>true
 |124,2=>true
 |124,7=>true
 |125,4=>true
 |126,4=>true
 |126,6=>true
 |127,4=>true
 |127,6=>true
 |127,7=>true
 |128,5=>true
 |129,4=>true
 |130,4=>true
 |130,5=>true
 |131,4=>true
 |131,5=>true
 |132,2=>true
 |132,3=>true
 |132,4=>true
 |132,6=>true
 |133,3=>true
 |133,6=>true
 |133,14=>true
 |134,2=>true
 |134,7=>true
 |134,11=>true
 |136,4=>true
 |136,6=>true
 |138,7=>true
 |139,5=>true
 |140,2=>true
 |140,5=>true
 |141,5=>true
 |141,8=>true
 |142,2=>true
 |142,4=>true
 |144,2=>true
 |146,3=>true
 |146,4=>true
 |146,5=>true
 |146,6=>true
 |148,1=>true
 |150,2=>true
 |150,3=>true
 |150,4=>true
 |151,3=>true
 |151,6=>true
 |151,8=>true
 |151,10=>true
 |152,2=>true
 |154,5=>true
 |156,5=>true
 |158,8=>true
 |161,4=>true
 |161,5=>true
 |164,2=>true
 |167,2=>true
 |169,9=>true
 |171,2=>true
 |172,4=>true
 |175,2=>true
 |175,3=>true
 |183,11=>true
 |209,4=>true
 |_,_=>false
def jV:Nat→Nat→List Nat×List Nat
 |3,14=>([12,13,49],[11])
 |5,4=>([10],[])
 |6,4=>([10],[])
 |7,4=>([14],[2])
 |9,3=>([3,9],[])
 |9,6=>([6],[5])
 |10,7=>([6],[5])
 |12,31=>([13],[2,3,4,5])
 |13,4=>([5],[2,3])
 |14,4=>([8,18],[])
 |16,2=>([0,9],[])
 |16,5=>([19],[4])
 |19,4=>([13],[])
 |20,3=>([11],[2,4])
 |29,9=>([],[3,7,11])
 |30,2=>([5],[])
 |35,3=>([27],[])
 |35,11=>([59],[])
 |36,2=>([3],[1])
 |37,3=>([3,4],[1])
 |38,3=>([3,4],[1])
 |41,2=>([7,8],[])
 |41,7=>([6],[])
 |41,9=>([7,8],[])
 |42,4=>([13],[])
 |44,3=>([3,4],[])
 |44,6=>([3,5],[])
 |44,11=>([6,7],[])
 |45,3=>([3,4],[])
 |46,13=>([0,7,9],[4,5,6])
 |46,28=>([0,7,13],[4,5,6])
 |48,2=>([5],[])
 |48,7=>([7,8],[6])
 |49,5=>([9,10],[])
 |53,5=>([29],[6])
 |54,1=>([8],[])
 |54,4=>([9],[])
 |55,3=>([10,11],[])
 |55,9=>([13],[])
 |55,15=>([14,15],[])
 |55,21=>([17],[])
 |55,33=>([20,21],[])
 |56,6=>([0,4,5,6],[])
 |58,4=>([5,6,7],[])
 |59,7=>([6],[])
 |61,2=>([5],[2])
 |62,2=>([5],[])
 |63,4=>([5],[])
 |64,4=>([3],[1])
 |65,16=>([66],[])
 |68,2=>([10,11],[])
 |69,4=>([3],[])
 |70,3=>([5,6],[])
 |71,2=>([5],[])
 |72,3=>([5,6],[])
 |73,3=>([3,4],[])
 |74,3=>([3,4],[])
 |76,3=>([5,10],[])
 |77,4=>([2,17],[])
 |78,2=>([8],[1])
 |79,1=>([10],[])
 |133,4=>([],[3,6])
 |134,3=>([22],[2])
 |134,11=>([9,45],[2])
 |139,3=>([3,11],[])
 |148,3=>([3,7],[1])
 |149,1=>([],[])
 |151,3=>([17],[3,8])
 |156,3=>([3,8],[])
 |157,4=>([4,13],[])
 |157,12=>([7],[])
 |161,11=>([6],[5])
 |161,19=>([9],[5])
 |163,2=>([8],[])
 |176,2=>([3],[])
 |180,3=>([7,8],[])
 |183,6=>([32],[])
 |184,2=>([7],[])
 |185,0=>([1],[])
 |188,5=>([6,24],[])
 |_,_=>([],[])
def iW:List Nat:=[1,2,3,4,5,6,7,8,9,10,12,16,17,18,20,21,22,23,24,27,28,29,32,33,34,35,36,38,39,40,41,42,43,44,45,48,52,53,54,56,58,63,64,65,69,70,76,78,79,80,82,83,90,91,95,96,97,98,102,104,105,106,107,108,109,110,111,112,122,124,125,126,128,129,132,162,168,169,170,171,172,173,174,175,176,177,178,180,184,185,193,194,195,196,197,198,199,200,216,228,230,233,234,237,239,240,242,243,246,250,251,252,253,254,255,260,261,263,264,265,266,267,269,273,274,275,276,283,284,285,286,287]
def pW:Nat:=482010955486733954283404339851185356444366391304588785048695117474494148707339556296702
def ao(t:Nat):Bool:=Nat.testBit pW t
def lD:List Nat:=[7,8,38,39,95,96,106,107,184,185,193,194,233,234,237,273,274]
def dy:Nat→Bool
 |7=>true
 |8=>true
 |38=>true
 |39=>true
 |95=>true
 |96=>true
 |106=>true
 |107=>true
 |184=>true
 |185=>true
 |193=>true
 |194=>true
 |233=>true
 |234=>true
 |237=>true
 |273=>true
 |274=>true
 |_=>false
def lK:Nat→Bool
 |129=>true
 |267=>true
 |_=>false
def Gd(t:Nat)(m:String):Option Nat:=
 match t with
 |76=>if m= "Add" then some Fg else if m= "Begin" then some Ef else if m= "Do" then some H9 else if m= "Page" then some D8 else if m= "Remove" then some EH else if m= "Stale" then some Dw else if m= "socage/spec.change" then some Dc else none
 |260=>if m= "Len" then some EP else if m= "Less" then some E9 else if m= "Pop" then some Fh else if m= "Swap" then some FE else none
 |_=>none
@[simp] theorem ZU:Gd B5 "Len" =some EP:=by simp[Gd]
@[simp] theorem ZH:Gd B5 "Less" =some E9:=by simp[Gd]
@[simp] theorem ZT:Gd B5 "Pop" =some Fh:=by simp[Gd]
@[simp] theorem Y3:Gd B5 "Swap" =some FE:=by simp[Gd]
def pD:Nat→Nat→Bool
 |77,2=>true
 |77,3=>true
 |77,4=>true
 |77,38=>true
 |77,40=>true
 |77,43=>true
 |_,_=>false
def C:Ctx:={ty:=kA,has:=ao,eqk:=dy,loc:=lZ,byref:=lK,meth:=Gd,live:=jV,tk:=pD}
@[simp] theorem jc:C.meth=Gd:=rfl
noncomputable def En(w0:World):Env:=⟨Tryz.prog,C,w0⟩
theorem bh{m n t:Nat}(h:Nat.ble (m.log2+1) n=true)(c:¬t < n):m.testBit t=false:=by
 by_cases h0:m=0
 ·rw[h0];exact Nat.zero_testBit t
 ·exact Nat.testBit_lt_two_pow (Nat.lt_of_lt_of_le ((Nat.log2_lt h0).1 (Nat.le_of_ble_eq_true h)) (Nat.pow_le_pow_right (by decide) (Nat.le_of_not_lt c)))
theorem Xt:∀t,ao t=true→iW.elem t=true:=by
 intro t h
 by_cases c:t < 288
 ·have h2:=List.all_eq_true.1 (show (List.range 288).all (fun t=>!(ao t)||iW.elem t)=true by kernel_rfl) t (List.mem_range.2 c)
  rw[h] at h2;simpa using h2
 ·unfold ao at h;rw[bh (n:=288) (by kernel_rfl) c] at h
  cases h
theorem XF:∀t,dy t=true→lD.elem t=true:=by
 intro t h;unfold dy at h;split at h<;>first|rfl|cases h
theorem lx:iW.all (fun t=>Tn Tryz.prog t (kA t))=true:=by kernel_rfl
theorem lR:lD.all (fun t=>NG Tryz.prog t (kA t).zero)=true:=by kernel_rfl
theorem o0(v:Value)(w:World):(method (Tryz.prog.types.size+Made.depth) 76 v "Add").run Tryz.prog w= .ok (130,v) w:=by kernel_rfl
theorem pE(v:Value)(w:World):(method (Tryz.prog.types.size+Made.depth) 76 v "Begin").run Tryz.prog w= .ok (125,v) w:=by kernel_rfl
theorem n9(v:Value)(w:World):(method (Tryz.prog.types.size+Made.depth) 76 v "Do").run Tryz.prog w= .ok (121,v) w:=by kernel_rfl
theorem oL(v:Value)(w:World):(method (Tryz.prog.types.size+Made.depth) 76 v "Page").run Tryz.prog w= .ok (127,v) w:=by kernel_rfl
theorem oz(v:Value)(w:World):(method (Tryz.prog.types.size+Made.depth) 76 v "Remove").run Tryz.prog w= .ok (131,v) w:=by kernel_rfl
theorem ou(v:Value)(w:World):(method (Tryz.prog.types.size+Made.depth) 76 v "Stale").run Tryz.prog w= .ok (126,v) w:=by kernel_rfl
theorem oq(v:Value)(w:World):(method (Tryz.prog.types.size+Made.depth) 76 v "socage/spec.change").run Tryz.prog w= .ok (141,v) w:=by kernel_rfl
theorem oa(v:Value)(w:World):(method (Tryz.prog.types.size+Made.depth) 260 v "Len").run Tryz.prog w= .ok (177,v) w:=by kernel_rfl
theorem ol(v:Value)(w:World):(method (Tryz.prog.types.size+Made.depth) 260 v "Less").run Tryz.prog w= .ok (208,v) w:=by kernel_rfl
theorem oE(v:Value)(w:World):(method (Tryz.prog.types.size+Made.depth) 260 v "Pop").run Tryz.prog w= .ok (209,v) w:=by kernel_rfl
theorem mn(v:Value)(w:World):(method (Tryz.prog.types.size+Made.depth) 260 v "Swap").run Tryz.prog w= .ok (210,v) w:=by kernel_rfl
theorem iG:∀t m g,Gd t m=some g→∀v w,(method (Tryz.prog.types.size+Made.depth) t v m).run Tryz.prog w= .ok (g,v) w:=by
 intro t m g h v w;unfold Gd at h;split at h
 ·split at h
  ·rename_i e;subst e;cases h;exact o0 v w
  split at h
  ·rename_i e;subst e;cases h;exact pE v w
  split at h
  ·rename_i e;subst e;cases h;exact n9 v w
  split at h
  ·rename_i e;subst e;cases h;exact oL v w
  split at h
  ·rename_i e;subst e;cases h;exact oz v w
  split at h
  ·rename_i e;subst e;cases h;exact ou v w
  split at h
  ·rename_i e;subst e;cases h;exact oq v w
  cases h
 ·split at h
  ·rename_i e;subst e;cases h;exact oa v w
  split at h
  ·rename_i e;subst e;cases h;exact ol v w
  split at h
  ·rename_i e;subst e;cases h;exact oE v w
  split at h
  ·rename_i e;subst e;cases h;exact mn v w
  cases h
 ·cases h
theorem agree(w0:World):Agree (En w0):=bf (En w0) iW lD Xt XF lx lR iG
theorem mixed:Tryz.prog.follows .mixedOrders=true:=by kernel_rfl
theorem aT(w0:World):Jx (En w0) (AO (En w0)):=fun _ _ _ _ h=>h
theorem Lw(w0:World):DW (AO (En w0)):=fun g xs S Q Q' h hq=>⟨h.1,fun G w hr hro args' hl ha=>(h.2 G w hr hro args' hl ha).mono fun e w' ⟨v,r,S',G',h1,h2,h3⟩=>⟨v,r,S',G',h1,hq _ _ h2,h3⟩⟩
theorem ov(w0:World){n:Nat}{fn:Func}(hf:Tryz.prog.funcs[n]? =some fn)(hname:(fn.name== "runtime.NumGoroutine")=false) {args:List AV} {S:St} {Q:AV→St→Prop}
  (h:WF C (AO (En w0)) n (Drw C (AO (En w0)) n) fn args S Q):AO (En w0) n args S Q:=
 Z0 (E:=En w0) (agree w0) (aT w0) (Lw w0) (Xd (agree w0) (aT w0) (Lw w0) mixed) (Zm (Lw w0)) hf hname h
abbrev AC(w0:World):=AO (En w0)
abbrev CaT:=Nat→List AV→St→(AV→St→Prop)→Prop
abbrev QT:=AV→St→Prop
theorem Ae(w0:World){n:Nat}{fn:Func}(hf:Tryz.prog.funcs[n]? =some fn){args:List AV}{S:St}{Q:QT}{P:Prop}(h:P)(hname:(fn.name== "runtime.NumGoroutine")=false:=by kernel_rfl) (e:WF C (AO (En w0)) n (Drw C (AO (En w0)) n) fn args S Q=P:=by kernel_rfl):AO (En w0) n args S Q:=ov w0 hf hname (by rw[e];exact h)
theorem ZC{w0:World}{g:Nat}{xs:List AV}{S:St}{Q Q':AV→St→Prop}(h:AC w0 g xs S Q)(hq:∀r S',Q r S'→Q' r S'):AC w0 g xs S Q':=Lw w0 g xs S Q Q' h hq
def iv:Nat→Bool
 |45=>true
 |129=>true
 |267=>true
 |_=>false
def C0:Ctx:={ty:=kA,has:=ao,eqk:=dy,loc:=lZ,byref:=iv,meth:=Gd,live:=jV,tk:=pD}
noncomputable def En0(w0:World):Env:=⟨Tryz.prog,C0,w0⟩
theorem jS(w0:World):Agree (En0 w0):=bf (En0 w0) iW lD Xt XF lx lR iG
theorem mb(w0:World){n:Nat}{fn:Func}(hf:Tryz.prog.funcs[n]? =some fn)(hname:(fn.name== "runtime.NumGoroutine")=false) {args:List AV} {S:St} {Q:AV→St→Prop}
  (h:WF C0 (AO (En w0)) n (Drw C0 (AO (En w0)) n) fn args S Q):AO (En w0) n args S Q:=
 AO.ctx (E:=En0 w0) (E':=En w0) rfl rfl (Z0 (E:=En0 w0) (Ca:=AO (En w0)) (jS w0) (fun _ _ _ _ h=>AO.ctx (E:=En w0) (E':=En0 w0) rfl rfl h) (Lw w0) (Xd (Ca:=AO (En w0)) (jS w0) (fun _ _ _ _ h=>AO.ctx (E:=En w0) (E':=En0 w0) rfl rfl h) (Lw w0) mixed) (Zm (Lw w0)) hf hname h)
theorem Mt(w0:World){n:Nat}{fn:Func}(hf:Tryz.prog.funcs[n]? =some fn){args:List AV}{S:St}{Q:QT}{P:Prop}(h:P)(hname:(fn.name== "runtime.NumGoroutine")=false:=by kernel_rfl) (e:WF C0 (AO (En w0)) n (Drw C0 (AO (En w0)) n) fn args S Q=P:=by kernel_rfl):AO (En w0) n args S Q:=mb w0 hf hname (by rw[e];exact h)
abbrev E6:=@Tryz.underlying3
abbrev dk:=@Tryz.underlying4
abbrev iI:=@Tryz.underlying5
abbrev jF:=@Tryz.isAgg5
abbrev iQ:=@Tryz.sizeOf5
abbrev jC:=@Tryz.zeroValue5
abbrev Ir:=@Tryz.underlying9
abbrev Dq:=@Tryz.underlying22
abbrev Q4:=@Tryz.underlying23
abbrev gL:=@Tryz.underlying39
abbrev YJ:=@Tryz.underlying40
abbrev Za:=@Tryz.underlying41
abbrev W4:=@Tryz.underlying43
abbrev Td:=@Tryz.underlying45
abbrev Sr:=@Tryz.underlying52
abbrev FP:=@Tryz.underlying54
abbrev Wd:=@Tryz.underlying107
theorem fP:Tryz.prog.cellsOf Cq=1:=by kernel_rfl
theorem TY:Tryz.prog.cellsOf I5=19:=by kernel_rfl
theorem Mp:Tryz.prog.cellsOf Om=7:=by kernel_rfl
theorem Wb:Tryz.prog.cellsOf Lf=2:=by kernel_rfl
abbrev Gu:=@Tryz.func66
abbrev R1:=@Tryz.func80
abbrev LY:=@Tryz.func83
abbrev Ek:=@Tryz.func165
abbrev Eq:=@Tryz.func166
abbrev Px:=@Tryz.func192
set_option maxHeartbeats 2000000
open Go.Proofs
def JO(Ca:CaT)(a0:List (List AV))(a0r:Rt)(a1:Int)(a2:List (List AV))(a2r:Rt)(S0:St)(Q:QT):Prop:=Ca I7 [] S0 fun t18 S=>AA (unA .not t18) fun t19=>ifK t19 (Q (.bool false) S) (Ca NF [(.vs 7 a0 (Rt.strip (Rt.strip a0r)))] S fun t21 S_2=>AA (AI .eql t21 (.int .i64 0)) fun t22=>AL (fun (x26:AV) (S_4:St)=>AA (AZ (AV.strip t22) (.bool true) x26) fun t27=>ifK (AV.strip t27) (Q (.bool true) S_4) (Ca KP [(.vs 7 a0 (Rt.strip (Rt.strip a0r)))] S_4 fun t30 S_5=>AA (AS t30 0) fun t31=>AA (AS (AW t30 0) 1) fun t32=>AA (AK AM (some [(.vs 2 [] .nil),(.int .i64 0)]) 0 t31) fun b7=>AA (unA .not (AV.strip t32)) fun t34=>ifK t34 (Q (.bool false) S_5) (Ca Gc [(.vs 19 a2 (Rt.strip (Rt.strip a2r)))] S_5 fun t36 S_6=>Ca Iz [(.vs 19 a2 (Rt.strip (Rt.strip a2r)))] S_6 fun t38 S_7=>Ca Mh [(.vs 7 a0 (Rt.strip (Rt.strip a0r))),(.int .i64 a1)] S_7 fun t41 S_8=>AA (AK AE (some AE.zero) 0 t41) fun b11=>AA (Ap (AV.strip t36)) fun t43=>AA (Ap (AV.strip t38)) fun t45=>AA (AI .neq t43 t45) fun t46=>ifK t46 (Q (.bool false) S_8) (AL (fun (x13_2:AV) (S_16:St)=>AA (AB AM (some b7) 0) fun t102=>AY Ca Gf [(AV.strip t102),(.int .i64 a1),(.vs 19 a2 (Rt.strip a2r))] S_16 fun t105 S_17=>AA (AI .eql t105 (AV.strip x13_2)) fun t107=>Q t107 S_17) fun j_7=>AA (Ap (AV.strip t38)) fun t48=>A5 ([(.int .i64 0),(.int .i64 (-1)),(.int .i64 0)],[(some b11)]) (fun v bx=>([v 12,v 13,v 49],[bx 11])) (fun nx v bx S_9=>AA (AI .lss (v 49) t48) fun t50=>ifK t50 (AA (AT AF (AV.strip t38) (v 49)) fun t52=>AA (AP AF S_9 t52) fun t53=>AA (AK AF (some AF.zero) 0 (AV.strip t53)) fun b15=>AA (AT AF (AV.strip t36) (AV.strip (AV.strip (v 49)))) fun t56=>AA (AP AF S_9 t56) fun t57=>AA (AB AF (some b15) 0) fun t58=>AY Ca LX [(AV.strip t57),(AV.strip t58)] S_9 fun t59 S_10=>AA (unA .not t59) fun t60=>ifK t60 (Q (.bool false) S_10) (AA (AB AE (bx 11) 0) fun t62=>AA (AB Bc (some b15) 2) fun t64=>AY Ca Ov [(AV.strip t62),(AV.strip t64)] S_10 fun t65 S_11=>AA (AS t65 0) fun t66=>AA (AS (AW t65 0) 1) fun t67=>AA (AK AE (some AE.zero) 0 t66) fun b16=>AA (AK AD (some AD.zero) 0 t67) fun b17=>AA (AB AE (some b16) 0) fun t68=>AA (AK AE (bx 11) 0 (AV.strip t68)) fun b11_2=>AL (fun (x13:AV) (S_15:St)=>AA (AB AN (some b15) 17) fun t100=>AA (AI .add (v 49) (.int .i64 1)) fun t101=>nx ([(AV.strip t100),x13,(AV.strip t101)],[(some b11_2)]) S_15) fun j_6=>AA (AI .lss (AV.strip (v 13)) (.int .i64 0)) fun t70=>AL (fun (x96:AV) (S_14:St)=>AA (AZ (AV.strip t70) x96 (.bool false)) fun t97=>ifK (AV.strip t97) (j_6 (AV.strip (AV.strip (v 49))) S_14) (j_6 (v 13) S_14)) fun j_5=>ifK (AV.strip t70) (AA (AB AN (some b15) 17) fun t73=>AA (AI .leq (AV.strip t73) (AV.strip (v 12))) fun t75=>AL (fun (x81:AV)=>AA (AZ (AV.strip t75) (.bool true) x81) fun t82=>AL (fun (x88:AV)=>AA (AZ (AV.strip (AV.strip t82)) (.bool true) x88) fun t89=>AL (fun (x95:AV) (S_13:St)=>AA (AZ (AV.strip (AV.strip t89)) (.bool true) x95) fun t96=>j_5 (AV.strip t96) S_13) fun j_2=>gK (AV.strip (AV.strip t89)) (j_2 (.tup []) S_11) (AA (AB AD (some b17) 0) fun t91=>AA (AB AD (some b15) 8) fun t93=>AY Ca Fe [(AV.strip t91),(AV.strip t93)] S_11 fun t94 S_12=>AA (unA .not t94) fun t95=>j_2 t95 S_12) (j_2 (.tup []) S_11)) fun j_3=>gK (AV.strip (AV.strip t82)) (j_3 (.tup [])) (AA (AB AN (some b15) 17) fun t85=>AA (AB AN (some b15) 18) fun t87=>AA (AI .gtr (AV.strip t85) (AV.strip t87)) fun t88=>j_3 t88) (j_3 (.tup []))) fun j_4=>gK (AV.strip t75) (j_4 (.tup [])) (AA (AB AN (some b15) 17) fun t78=>AA (AB AN (some b15) 16) fun t80=>AA (AI .lss (AV.strip t78) (AV.strip t80)) fun t81=>j_4 t81) (j_4 (.tup []))) (j_5 (.tup []) S_11))) (j_7 (v 13) S_9)) S_8)))) fun j=>ifK (AV.strip t22) (j (.tup []) S_2) (Ca Mq [(.vs 19 a2 (Rt.strip (Rt.strip a2r)))] S_2 fun t25 S_3=>AA (unA .not t25) fun t26=>j t26 S_3))
theorem N6{w0 a0 a0r a1 a2 a2r S0 Q}(h:JO (AO (En w0)) a0 a0r a1 a2 a2r S0 Q):AC w0 I3 [(.vs 7 a0 a0r),(.int .i64 a1),(.vs 19 a2 a2r)] S0 Q:=Ae w0 Tryz.func3 h
def M6(Ca:CaT)(S0:St)(Q:QT):Prop:=Ca Gc [(.vs 19 [[(.int .i64 0),(.int .i64 0),(.int .i64 9),(.str []),(.int .i64 0),(.int .i64 0),(.int .i64 0),(.str []),(.int .i64 2),(.int .i64 0),(.int .i64 0),(.int .i64 0),(.int .i64 0),(.str []),(.vs 1 [] .nil),(.bool false),(.int .i64 2),(.int .i64 4),(.int .i64 5)],[(.int .i64 0),(.int .i64 0),(.int .i64 7),(.str []),(.int .i64 0),(.int .i64 0),(.int .i64 0),(.str []),(.int .i64 9),(.int .i64 0),(.int .i64 0),(.int .i64 0),(.int .i64 0),(.str []),(.vs 1 [] .nil),(.bool false),(.int .i64 1),(.int .i64 1),(.int .i64 1)]] .full)] S0 fun t18 S=>AA (Ap (AV.strip t18)) fun t20=>AA (AI .eql t20 (.int .i64 2)) fun t21=>AL (fun (x27:AV)=>AA (AZ (AV.strip t21) x27 (.bool false)) fun t28=>AL (fun (x35:AV) (S_3:St)=>AA (AZ (AV.strip (AV.strip t28)) x35 (.bool false)) fun t36=>AL (fun (x43:AV) (S_5:St)=>AA (AZ (AV.strip (AV.strip t36)) x43 (.bool false)) fun t44=>AL (fun (x48:AV) (S_7:St)=>AA (AZ (AV.strip (AV.strip t44)) x48 (.bool false)) fun t49=>AL (fun (x55:AV) (S_9:St)=>AA (AZ (AV.strip (AV.strip t49)) x55 (.bool false)) fun t56=>Q (AV.strip t56) S_9) fun j=>ifK (AV.strip (AV.strip t49)) (Ca MZ [(.vs 19 [[(.int .i64 0),(.int .i64 0),(.int .i64 9),(.str []),(.int .i64 0),(.int .i64 0),(.int .i64 0),(.str []),(.int .i64 2),(.int .i64 0),(.int .i64 0),(.int .i64 0),(.int .i64 0),(.str []),(.vs 1 [] .nil),(.bool false),(.int .i64 2),(.int .i64 4),(.int .i64 5)],[(.int .i64 0),(.int .i64 0),(.int .i64 7),(.str []),(.int .i64 0),(.int .i64 0),(.int .i64 0),(.str []),(.int .i64 9),(.int .i64 0),(.int .i64 0),(.int .i64 0),(.int .i64 0),(.str []),(.vs 1 [] .nil),(.bool false),(.int .i64 1),(.int .i64 1),(.int .i64 1)]] .full)] S_7 fun t54 S_8=>AA (unA .not t54) fun t55=>j t55 S_8) (j (.tup []) S_7)) fun j_2=>ifK (AV.strip (AV.strip t44)) (Ca Hl [(.agg [(.int .i64 0),(.int .i64 0),(.int .i64 7),(.str []),(.int .i64 0),(.int .i64 0),(.int .i64 0),(.str []),(.int .i64 9),(.int .i64 0),(.int .i64 0),(.int .i64 0),(.int .i64 0),(.str []),(.vs 1 [] .nil),(.bool false),(.int .i64 1),(.int .i64 1),(.int .i64 1)]),(.agg [(.int .i64 0),(.int .i64 0),(.int .i64 9),(.str []),(.int .i64 0),(.int .i64 0),(.int .i64 0),(.str []),(.int .i64 2),(.int .i64 0),(.int .i64 0),(.int .i64 0),(.int .i64 0),(.str []),(.vs 1 [] .nil),(.bool false),(.int .i64 2),(.int .i64 4),(.int .i64 5)])] S_5 fun t48 S_6=>j_2 t48 S_6) (j_2 (.tup []) S_5)) fun j_3=>ifK (AV.strip (AV.strip t36)) (Ca Gf [(.agg [(.vs 2 [] .nil),(.int .i64 0)]),(.int .i64 1),(.vs 19 [[(.int .i64 0),(.int .i64 0),(.int .i64 7),(.str []),(.int .i64 0),(.int .i64 0),(.int .i64 0),(.str []),(.int .i64 9),(.int .i64 0),(.int .i64 0),(.int .i64 0),(.int .i64 0),(.str []),(.vs 1 [] .nil),(.bool false),(.int .i64 1),(.int .i64 1),(.int .i64 1)],[(.int .i64 0),(.int .i64 0),(.int .i64 9),(.str []),(.int .i64 0),(.int .i64 0),(.int .i64 0),(.str []),(.int .i64 0),(.int .i64 0),(.int .i64 0),(.int .i64 0),(.int .i64 0),(.str []),(.vs 1 [] .nil),(.bool false),(.int .i64 2),(.int .i64 4),(.int .i64 5)]] .full)] S_3 fun t42 S_4=>AA (AI .eql t42 (.int .i64 1)) fun t43=>j_3 t43 S_4) (j_3 (.tup []) S_3)) fun j_4=>ifK (AV.strip (AV.strip t28)) (Ca Gf [(.agg [(.vs 2 [] .nil),(.int .i64 0)]),(.int .i64 1),(.vs 19 [[(.int .i64 0),(.int .i64 0),(.int .i64 7),(.str []),(.int .i64 0),(.int .i64 0),(.int .i64 0),(.str []),(.int .i64 9),(.int .i64 0),(.int .i64 0),(.int .i64 0),(.int .i64 0),(.str []),(.vs 1 [] .nil),(.bool false),(.int .i64 1),(.int .i64 1),(.int .i64 1)],[(.int .i64 0),(.int .i64 0),(.int .i64 9),(.str []),(.int .i64 0),(.int .i64 0),(.int .i64 0),(.str []),(.int .i64 2),(.int .i64 0),(.int .i64 0),(.int .i64 0),(.int .i64 0),(.str []),(.vs 1 [] .nil),(.bool false),(.int .i64 2),(.int .i64 4),(.int .i64 5)]] .full)] S fun t34 S_2=>AA (AI .eql t34 (.int .i64 (-1))) fun t35=>j_4 t35 S_2) (j_4 (.tup []) S)) fun j_5=>ifK (AV.strip t21) (AA (AT AF (AV.strip t18) (.int .i64 0)) fun t24=>AA (A9 t24 17) fun t25=>AA (AP AN S t25) fun t26=>AA (AI .eql (AV.strip t26) (.int .i64 1)) fun t27=>j_5 t27) (j_5 (.tup []))
theorem TD{w0  S0 Q}(h:M6 (AO (En w0))  S0 Q):AC w0 I7 [] S0 Q:=Ae w0 Tryz.func4 h
def SN(Ca:CaT)(a0:List (List AV))(a0r:Rt)(S0:St)(Q:QT):Prop:=ifK (.bool (decide ((List.length a0:Int) > 8))) (Q (.int .i64 0) S0) (AL (fun (S_5:St)=>Q (.int .i64 1) S_5) fun j_2=>A5 ([(.int .i64 0)],[]) (fun v bx=>([v 10],[])) (fun nx v bx S=>AA (AI .lss (v 10) (.int .i64 (List.length a0:Int))) fun t11=>ifK t11 (AA (AT AG (.vs 7 a0 (Rt.strip a0r)) (v 10)) fun t12=>AA (AP AG S t12) fun t13=>AA (AK AG (some AG.zero) 0 (AV.strip t13)) fun b4=>AA (AB AG (some b4) 0) fun t14=>AY Ca Hf [(AV.strip t14)] S fun t15 S_2=>AA (AI .eql t15 (.int .i64 0)) fun t16=>AL (fun (x20:AV) (S_4:St)=>AA (AZ (AV.strip t16) (.bool true) x20) fun t21=>ifK (AV.strip t21) (Q (.int .i64 0) S_4) (AA (AI .add (v 10) (.int .i64 1)) fun t22=>nx ([(AV.strip t22)],[]) S_4)) fun j=>ifK (AV.strip t16) (j (.tup []) S_2) (AA (AB AG (some b4) 0) fun t18=>AY Ca Fv [(AV.strip t18)] S_2 fun t19 S_3=>AA (unA .not t19) fun t20=>j t20 S_3)) (j_2 S)) S0)
theorem YW{w0 a0 a0r S0 Q}(h:SN (AO (En w0)) a0 a0r S0 Q):AC w0 NF [(.vs 7 a0 a0r)] S0 Q:=Ae w0 Tryz.func5 h
def SG(Ca:CaT)(a0:List (List AV))(a0r:Rt)(S0:St)(Q:QT):Prop:=ifK (.bool (decide ((List.length a0:Int) > 60))) (Q (.bool false) S0) (AL (fun (S_3:St)=>Q (.bool true) S_3) fun j_6=>A5 ([(.int .i64 0)],[]) (fun v bx=>([v 10],[])) (fun nx v bx S=>AA (AI .lss (v 10) (.int .i64 (List.length a0:Int))) fun t11=>ifK t11 (AA (AT AF (.vs 19 a0 (Rt.strip a0r)) (v 10)) fun t12=>AA (AP AF S t12) fun t13=>AA (AK AF (some AF.zero) 0 (AV.strip t13)) fun b4=>AA (AB Bc (some b4) 2) fun t15=>AA (BE 6 [(AV.strip t15)]) fun e16=>Ca Mc [(.vs 6 e16 .full),(.int .i64 1)] S fun t17 S_2=>AA (AI .eql t17 (.int .i64 0)) fun t18=>AL (fun (x22:AV)=>AA (AZ (AV.strip t18) (.bool true) x22) fun t23=>AL (fun (x27:AV)=>AA (AZ (AV.strip (AV.strip t23)) (.bool true) x27) fun t28=>AL (fun (x32:AV)=>AA (AZ (AV.strip (AV.strip t28)) (.bool true) x32) fun t33=>AL (fun (x42:AV)=>AA (AZ (AV.strip (AV.strip t33)) (.bool true) x42) fun t43=>AL (fun (x49:AV)=>AA (AZ (AV.strip (AV.strip t43)) (.bool true) x49) fun t50=>ifK (AV.strip t50) (Q (.bool false) S_2) (AA (AI .add (v 10) (.int .i64 1)) fun t51=>nx ([(AV.strip t51)],[]) S_2)) fun j=>ifK (AV.strip (AV.strip t43)) (j (.tup [])) (AA (AB AX (some b4) 14) fun t47=>AA (Ap (AV.strip t47)) fun t48=>AA (AI .gtr t48 (.int .i64 100)) fun t49=>j t49)) fun j_2=>ifK (AV.strip (AV.strip t33)) (j_2 (.tup [])) (AA (AB AN (some b4) 16) fun t36=>AA (AB AN (some b4) 17) fun t38=>AA (AB AN (some b4) 18) fun t40=>AA (TF [(AV.strip t36),(AV.strip t38),(AV.strip t40)]) fun t41=>AA (AI .gtr t41 (.int .i64 2147483647)) fun t42=>j_2 t42)) fun j_3=>ifK (AV.strip (AV.strip t28)) (j_3 (.tup [])) (AA (AB AN (some b4) 18) fun t31=>AA (AI .lss (AV.strip t31) (.int .i64 0)) fun t32=>j_3 t32)) fun j_4=>ifK (AV.strip (AV.strip t23)) (j_4 (.tup [])) (AA (AB AN (some b4) 17) fun t26=>AA (AI .lss (AV.strip t26) (.int .i64 0)) fun t27=>j_4 t27)) fun j_5=>ifK (AV.strip t18) (j_5 (.tup [])) (AA (AB AN (some b4) 16) fun t21=>AA (AI .lss (AV.strip t21) (.int .i64 0)) fun t22=>j_5 t22)) (j_6 S)) S0)
theorem Y8{w0 a0 a0r S0 Q}(h:SG (AO (En w0)) a0 a0r S0 Q):AC w0 Mq [(.vs 19 a0 a0r)] S0 Q:=Ae w0 Tryz.func6 h
def OJ(Ca:CaT)(a0:List (List AV))(a0r:Rt)(S0:St)(Q:QT):Prop:=ifK (.bool (decide ((List.length a0:Int) > 8))) (Q (.tup [(.agg [(.vs 2 [] .nil),(.int .i64 0)]),(.bool false)]) S0) (AL (fun (y2:Option (List AV)) (S_5:St)=>Ca Ow [(.vs 7 a0 (Rt.strip (Rt.strip a0r)))] S_5 fun t30 S_6=>AA (AS t30 0) fun t31=>AA (AS (AW t30 0) 1) fun t32=>AA (AK AM (some [(.vs 2 [] .nil),(.int .i64 0)]) 0 t31) fun b6=>AA (AB AM (some b6) 0) fun t33=>AA (AI .eql (AV.strip t32) (.int .i64 0)) fun t35=>AL (fun (x41:AV) (S_8:St)=>AA (AZ (AV.strip t35) x41 (.bool false)) fun t42=>AA (AK AM y2 0 (AV.strip t33)) fun b2_2=>AA ((AB AM (some b2_2) 0).map AV.strip) fun r2_2=>Q (.tup [(AV.flat r2_2),(AV.flat (AV.strip t42))]) S_8) fun j_2=>ifK (AV.strip t35) (AA (AB AM (some b6) 0) fun t37=>AY Ca FI [(AV.strip t37)] S_6 fun t38 S_7=>AA (AI .eql t38 (.int .i64 (List.length a0:Int))) fun t41=>j_2 t41 S_7) (j_2 (.tup []) S_6)) fun j_3=>A5 ([(.int .i64 0)],[(some [(.vs 2 [] .nil),(.int .i64 0)])]) (fun v bx=>([v 14],[bx 2])) (fun nx v bx S=>AA (AI .lss (v 14) (.int .i64 (List.length a0:Int))) fun t15=>ifK t15 (AA (AT AG (.vs 7 a0 (Rt.strip a0r)) (v 14)) fun t16=>AA (AP AG S t16) fun t17=>AA (AK AG (some AG.zero) 0 (AV.strip t17)) fun b5=>AA (AB AG (some b5) 0) fun t18=>AY Ca Hf [(AV.strip t18)] S fun t19 S_2=>AA (AI .eql t19 (.int .i64 0)) fun t20=>AL (fun (x24:AV) (S_4:St)=>AA (AZ (AV.strip t20) (.bool true) x24) fun t25=>ifK (AV.strip t25) (AA (AK AM (bx 2) 0 (.agg [(.vs 2 [] .nil),(.int .i64 0)])) fun b2=>AA ((AB AM (some b2) 0).map AV.strip) fun r2=>Q (.tup [(AV.flat r2),(.bool false)]) S_4) (AA (AI .add (v 14) (.int .i64 1)) fun t27=>nx ([(AV.strip t27)],[(bx 2)]) S_4)) fun j=>ifK (AV.strip t20) (j (.tup []) S_2) (AA (AB AG (some b5) 0) fun t22=>AY Ca Fv [(AV.strip t22)] S_2 fun t23 S_3=>AA (unA .not t23) fun t24=>j t24 S_3)) (j_3 (bx 2) S)) S0)
theorem UV{w0 a0 a0r S0 Q}(h:OJ (AO (En w0)) a0 a0r S0 Q):AC w0 KP [(.vs 7 a0 a0r)] S0 Q:=Ae w0 Tryz.func7 h
def NP(Ca:CaT)(a0:List (List AV))(a0r:Rt)(S0:St)(Q:QT):Prop:=AL (fun (x3_2:AV) (S_5:St)=>Q (AV.strip x3_2) S_5) fun j_4=>A5 ([(.vs 19 [] .nil),(.int .i64 0)],[]) (fun v bx=>([v 3,v 9],[])) (fun nx v bx S=>AA (AI .lss (v 9) (.int .i64 (List.length a0:Int))) fun t10=>ifK t10 (AL (fun (x3:AV) (S_4:St)=>AA (AI .add (v 9) (.int .i64 1)) fun t42=>nx ([x3,(AV.strip t42)],[]) S_4) fun j_3=>AA (AT AF (.vs 19 a0 (Rt.strip a0r)) (v 9)) fun t11=>AA (AP AF S t11) fun t12=>AA (AK AF (some AF.zero) 0 (AV.strip t12)) fun b5=>AA (Ap (AV.strip (v 3))) fun t14=>AL (fun (x6:AV) (y5:Option (List AV)) (S_3:St)=>AA (AB AF y5 0) fun t35=>AA (BE 19 [(AV.strip t35)]) fun e36=>AA (CT AF (AV.strip (v 3)) none (some (AV.strip x6)) none) fun t33=>AA (AU AF S_3 (.vs 19 [] .full) t33) fun t34=>AA (AU AF S_3 t34 (.vs 19 e36 .full)) fun t37=>AA (CT AF (AV.strip (v 3)) (some (AV.strip x6)) none none) fun t40=>AA (AU AF S_3 t37 t40) fun t41=>j_3 t41 S_3) fun j_2=>A5 ([t14],[(some b5)]) (fun v_2 bx_2=>([v_2 6],[bx_2 5])) (fun nx_2 v_2 bx_2 S_2=>AA (AI .gtr (AV.strip (v_2 6)) (.int .i64 0)) fun t16=>AL (fun (x26:AV)=>AA (AZ (AV.strip t16) x26 (.bool false)) fun t27=>ifK (AV.strip t27) (AA (AI .sub (AV.strip (v_2 6)) (.int .i64 1)) fun t29=>nx_2 ([t29],[(bx_2 5)]) S_2) (j_2 (v_2 6) (bx_2 5) S_2)) fun j=>ifK (AV.strip t16) (AA (AI .sub (AV.strip (v_2 6)) (.int .i64 1)) fun t20=>AA (AT AF (AV.strip (v 3)) t20) fun t21=>AA (A9 t21 17) fun t22=>AA (AP AN S_2 t22) fun t23=>AA (bx_2 5) fun _=>AA (AB AN (bx_2 5) 17) fun t25=>AA (AI .gtr (AV.strip t23) (AV.strip t25)) fun t26=>j t26) (j (.tup []))) S) (j_4 (v 3) S)) S0
theorem Sz{w0 a0 a0r S0 Q}(h:NP (AO (En w0)) a0 a0r S0 Q):AC w0 Iz [(.vs 19 a0 a0r)] S0 Q:=Ae w0 Tryz.func9 h
def SF(Ca:CaT)(a0:List (List AV))(a0r:Rt)(a1:Int)(S0:St)(Q:QT):Prop:=AL (fun (y5:Option (List AV))=>AL (fun (y5_2:Option (List AV))=>AL (fun (y5_3:Option (List AV)) (S_3:St)=>AA y5_3 fun _=>AA (AK AN y5_3 3 (.int .i64 0)) fun b5_3=>AA (AB AE (some b5_3) 0) fun t30=>AA (AK AE (some AE.zero) 0 (AV.strip t30)) fun b4=>AA ((AB AE (some b4) 0).map AV.strip) fun r4=>Q r4 S_3) fun j=>A5 ([(.int .i64 0)],[y5_2]) (fun v bx=>([v 6],[bx 5])) (fun nx v bx S=>AA (AI .lss (AV.strip (v 6)) (.int .i64 (List.length a0:Int))) fun t20=>ifK t20 (AA (AB AE (bx 5) 0) fun t23=>AA (AT AG (.vs 7 a0 (Rt.strip a0r)) (AV.strip (v 6))) fun t26=>AA (AP AG S t26) fun t27=>AY Ca Ih [(AV.strip t23),(AV.strip t27)] S fun t28 S_2=>AA (AK AE (bx 5) 0 t28) fun b5_2=>AA (AI .add (AV.strip (v 6)) (.int .i64 1)) fun t22=>nx ([t22],[(some b5_2)]) S_2) (j (bx 5) S)) S0) fun j_2=>AA y5 fun _=>AA (AB AN y5 4) fun t14=>AA (AI .gtr (AV.strip t14) (.int .i64 1024)) fun t15=>ifK t15 (AA y5 fun _=>AA (AK AN y5 4 (.int .i64 1024)) fun b5=>j_2 (some b5)) (j_2 y5)) fun j_3=>ifK (.bool (decide (a1 < 1))) (j_3 (some [(.vs 7 [] .nil),(.vs 1 [] .nil),(.int .i64 0),(.int .i64 0),(.int .i64 1),(.vs 4 [] .nil),(.int .i64 0)])) (j_3 (some [(.vs 7 [] .nil),(.vs 1 [] .nil),(.int .i64 0),(.int .i64 0),(.int .i64 a1),(.vs 4 [] .nil),(.int .i64 0)]))
theorem ZF{w0 a0 a0r a1 S0 Q}(h:SF (AO (En w0)) a0 a0r a1 S0 Q):AC w0 Mh [(.vs 7 a0 a0r),(.int .i64 a1)] S0 Q:=Ae w0 Tryz.func10 h
def Q6(Ca:CaT)(a0a a0b a0ca:Int)(a0cb:List UInt8)(a0cc a0cd a0ce:Int)(a0cf:List UInt8)(a0da a0db a0dc a0dd a0de:Int)(a0df:List UInt8)(a0dg:List (List AV))(a0dgr:Rt)(a0dh:Bool)(a0e a0f a0g a1a a1b a1ca:Int)(a1cb:List UInt8)(a1cc a1cd a1ce:Int)(a1cf:List UInt8)(a1da a1db a1dc a1dd a1de:Int)(a1df:List UInt8)(a1dg:List (List AV))(a1dgr:Rt)(a1dh:Bool)(a1e a1f a1g:Int)(S0:St)(Q:QT):Prop:=AA (B9 AF (.agg [(.int .i64 a0a),(.int .i64 a0b),(.int .i64 a0ca),(.str a0cb),(.int .i64 a0cc),(.int .i64 a0cd),(.int .i64 a0ce),(.str a0cf),(.int .i64 a0da),(.int .i64 a0db),(.int .i64 a0dc),(.int .i64 a0dd),(.int .i64 a0de),(.str a0df),(.vs 1 a0dg a0dgr),(.bool a0dh),(.int .i64 a0e),(.int .i64 a0f),(.int .i64 a0g)])) fun c2=>AA (B9 AF (.agg [(.int .i64 a1a),(.int .i64 a1b),(.int .i64 a1ca),(.str a1cb),(.int .i64 a1cc),(.int .i64 a1cd),(.int .i64 a1ce),(.str a1cf),(.int .i64 a1da),(.int .i64 a1db),(.int .i64 a1dc),(.int .i64 a1dd),(.int .i64 a1de),(.str a1df),(.vs 1 a1dg a1dgr),(.bool a1dh),(.int .i64 a1e),(.int .i64 a1f),(.int .i64 a1g)])) fun c3=>AA (AB AN (some c2) 0) fun t6=>AA (AB AN (some c3) 0) fun t8=>AA (AI .eql (AV.strip t6) (AV.strip t8)) fun t9=>AL (fun (x15:AV)=>AA (AZ (AV.strip t9) x15 (.bool false)) fun t16=>AL (fun (x22:AV)=>AA (AZ (AV.strip (AV.strip t16)) x22 (.bool false)) fun t23=>AL (fun (x29:AV)=>AA (AZ (AV.strip (AV.strip t23)) x29 (.bool false)) fun t30=>AL (fun (x36:AV)=>AA (AZ (AV.strip (AV.strip t30)) x36 (.bool false)) fun t37=>AL (fun (x43:AV)=>AA (AZ (AV.strip (AV.strip t37)) x43 (.bool false)) fun t44=>AL (fun (x50:AV) (S_2:St)=>AA (AZ (AV.strip (AV.strip t44)) x50 (.bool false)) fun t51=>AL (fun (x57:AV) (S_4:St)=>AA (AZ (AV.strip (AV.strip t51)) x57 (.bool false)) fun t58=>Q (AV.strip t58) S_4) fun j=>ifK (AV.strip (AV.strip t51)) (AA (AB AD (some c2) 8) fun t54=>AA (AB AD (some c3) 8) fun t56=>AY Ca Hn [(AV.strip t54),(AV.strip t56)] S_2 fun t57 S_3=>j t57 S_3) (j (.tup []) S_2)) fun j_2=>ifK (AV.strip (AV.strip t44)) (AA (AB AD (some c2) 8) fun t47=>AA (AB AD (some c3) 8) fun t49=>AY Ca Fe [(AV.strip t47),(AV.strip t49)] S0 fun t50 S=>j_2 t50 S) (j_2 (.tup []) S0)) fun j_3=>ifK (AV.strip (AV.strip t37)) (AA (AB AN (some c2) 18) fun t40=>AA (AB AN (some c3) 18) fun t42=>AA (AI .eql (AV.strip t40) (AV.strip t42)) fun t43=>j_3 t43) (j_3 (.tup []))) fun j_4=>ifK (AV.strip (AV.strip t30)) (AA (AB AN (some c2) 17) fun t33=>AA (AB AN (some c3) 17) fun t35=>AA (AI .eql (AV.strip t33) (AV.strip t35)) fun t36=>j_4 t36) (j_4 (.tup []))) fun j_5=>ifK (AV.strip (AV.strip t23)) (AA (AB AN (some c2) 16) fun t26=>AA (AB AN (some c3) 16) fun t28=>AA (AI .eql (AV.strip t26) (AV.strip t28)) fun t29=>j_5 t29) (j_5 (.tup []))) fun j_6=>ifK (AV.strip (AV.strip t16)) (AA (AB Bc (some c2) 2) fun t19=>AA (AB Bc (some c3) 2) fun t21=>AA (Hq (.agg Bc.zero) .eql (AV.strip t19) (AV.strip t21)) fun t22=>j_6 t22) (j_6 (.tup []))) fun j_7=>ifK (AV.strip t9) (AA (AB AN (some c2) 1) fun t12=>AA (AB AN (some c3) 1) fun t14=>AA (AI .eql (AV.strip t12) (AV.strip t14)) fun t15=>j_7 t15) (j_7 (.tup []))
theorem Wm{w0 a0a a0b a0ca a0cb a0cc a0cd a0ce a0cf a0da a0db a0dc a0dd a0de a0df a0dg a0dgr a0dh a0e a0f a0g a1a a1b a1ca a1cb a1cc a1cd a1ce a1cf a1da a1db a1dc a1dd a1de a1df a1dg a1dgr a1dh a1e a1f a1g S0 Q}(h:Q6 (AO (En w0)) a0a a0b a0ca a0cb a0cc a0cd a0ce a0cf a0da a0db a0dc a0dd a0de a0df a0dg a0dgr a0dh a0e a0f a0g a1a a1b a1ca a1cb a1cc a1cd a1ce a1cf a1da a1db a1dc a1dd a1de a1df a1dg a1dgr a1dh a1e a1f a1g S0 Q):AC w0 LX [(.agg [(.int .i64 a0a),(.int .i64 a0b),(.int .i64 a0ca),(.str a0cb),(.int .i64 a0cc),(.int .i64 a0cd),(.int .i64 a0ce),(.str a0cf),(.int .i64 a0da),(.int .i64 a0db),(.int .i64 a0dc),(.int .i64 a0dd),(.int .i64 a0de),(.str a0df),(.vs 1 a0dg a0dgr),(.bool a0dh),(.int .i64 a0e),(.int .i64 a0f),(.int .i64 a0g)]),(.agg [(.int .i64 a1a),(.int .i64 a1b),(.int .i64 a1ca),(.str a1cb),(.int .i64 a1cc),(.int .i64 a1cd),(.int .i64 a1ce),(.str a1cf),(.int .i64 a1da),(.int .i64 a1db),(.int .i64 a1dc),(.int .i64 a1dd),(.int .i64 a1de),(.str a1df),(.vs 1 a1dg a1dgr),(.bool a1dh),(.int .i64 a1e),(.int .i64 a1f),(.int .i64 a1g)])] S0 Q:=Ae w0 Tryz.func11 h
def VO(Ca:CaT)(a0a:List (List AV))(a0ar:Rt)(a0b:List (List AV))(a0br:Rt)(a0c a0d a0e:Int)(a0f:List (List AV))(a0fr:Rt)(a0g a1a:Int)(a1b:List UInt8)(a1c a1d a1e:Int)(a1f:List UInt8)(S0:St)(Q:QT):Prop:=AA (B9 AE (.agg [(.vs 7 a0a a0ar),(.vs 1 a0b a0br),(.int .i64 a0c),(.int .i64 a0d),(.int .i64 a0e),(.vs 4 a0f a0fr),(.int .i64 a0g)])) fun c2=>AA (B9 Bc (.agg [(.int .i64 a1a),(.str a1b),(.int .i64 a1c),(.int .i64 a1d),(.int .i64 a1e),(.str a1f)])) fun c3=>AL (AA (AB AE (some c2) 0) fun t167=>AA (AB Af (some c2) 0) fun t169=>AA (AB Eh (some c2) 1) fun t171=>AA (AB Bc (some c3) 0) fun t172=>AY Ca Ou [(AV.strip t169),(AV.strip t171),(AV.strip t172)] S0 fun t173 S_16=>AA (AK AE (some AE.zero) 0 (AV.strip t167)) fun b4_13=>AA (AK AD (some AD.zero) 0 t173) fun b5_12=>AA ((AB AE (some b4_13) 0).map AV.strip) fun r4_13=>AA ((AB AD (some b5_12) 0).map AV.strip) fun r5_12=>Q (.tup [(AV.flat r4_13),(AV.flat r5_12)]) S_16) fun j_2=>AA (AB AN (some c3) 0) fun t15=>AA (AI .eql (AV.strip t15) (.int .i64 5)) fun t17=>ifK t17 (AA (AB Af (some c2) 0) fun t20=>AA (AB AJ (some c3) 1) fun t22=>AY Ca GV [(AV.strip t20),(AV.strip t22)] S0 fun t23 S=>AA (AS t23 0) fun t24=>AA (AS (AW t23 0) 1) fun t25=>AA (AS (AW (AW t23 0) 1) 2) fun t26=>AA (AI .neq (AV.strip t26) (.int .i64 0)) fun t28=>ifK t28 (AA (AB AE (some c2) 0) fun t29=>AY Ca CQ [(AV.strip t26)] S fun t31 S_2=>AA (AK AE (some AE.zero) 0 (AV.strip t29)) fun b4=>AA (AK AD (some AD.zero) 0 t31) fun b5=>AA ((AB AE (some b4) 0).map AV.strip) fun r4=>AA ((AB AD (some b5) 0).map AV.strip) fun r5=>Q (.tup [(AV.flat r4),(AV.flat r5)]) S_2) (AA (AB Aq (some c2) 5) fun t33=>AA (Ap (AV.strip t33)) fun t34=>AA (AB AN (some c2) 4) fun t36=>AA (AI .geq t34 (AV.strip t36)) fun t37=>ifK t37 (AA (AB AE (some c2) 0) fun t38=>Ca CQ [(.int .i64 7)] S fun t39 S_3=>AA (AK AE (some AE.zero) 0 (AV.strip t38)) fun b4_2=>AA (AK AD (some AD.zero) 0 t39) fun b5_2=>AA ((AB AE (some b4_2) 0).map AV.strip) fun r4_2=>AA ((AB AD (some b5_2) 0).map AV.strip) fun r5_2=>Q (.tup [(AV.flat r4_2),(AV.flat r5_2)]) S_3) (AA (AB AN (some c2) 6) fun t41=>AA (AI .add (AV.strip t41) (.int .i64 1)) fun t42=>AA (AK AN (some c2) 6 t42) fun b2=>AA (AB Aq (some b2) 5) fun t46=>AA (AB AN (some b2) 6) fun t49=>AA (AB AN (some b2) 3) fun t51=>AA (BJ Ab 1 [(0,(AV.strip t49)),(1,(AV.strip t51)),(2,(AV.strip t24))]) fun t53=>AA (BE 4 [t53]) fun e54=>AA (AU Ab S (.vs 4 [] .full) (AV.strip t46)) fun t47=>AA (AU Ab S t47 (.vs 4 e54 .full)) fun t55=>AA (AK Aq (some b2) 5 t55) fun b2_2=>AA (AB AE (some b2_2) 0) fun t57=>AA (AB AN (some b2_2) 6) fun t59=>AA (BJ AD 1 [(4,(AV.strip t59))]) fun t60=>AA (AK AE (some AE.zero) 0 (AV.strip t57)) fun b4_3=>AA (AK AD (some AD.zero) 0 t60) fun b5_3=>AA ((AB AE (some b4_3) 0).map AV.strip) fun r4_3=>AA ((AB AD (some b5_3) 0).map AV.strip) fun r5_3=>Q (.tup [(AV.flat r4_3),(AV.flat r5_3)]) S))) (AA (AI .eql (AV.strip t15) (.int .i64 6)) fun t62=>ifK t62 (AA (AB AN (some c3) 3) fun t64=>AA (AI .lss (AV.strip t64) (.int .i64 1)) fun t65=>ifK t65 (AA (AB AE (some c2) 0) fun t66=>Ca CQ [(.int .i64 1)] S0 fun t67 S_4=>AA (AK AE (some AE.zero) 0 (AV.strip t66)) fun b4_4=>AA (AK AD (some AD.zero) 0 t67) fun b5_4=>AA ((AB AE (some b4_4) 0).map AV.strip) fun r4_4=>AA ((AB AD (some b5_4) 0).map AV.strip) fun r5_4=>Q (.tup [(AV.flat r4_4),(AV.flat r5_4)]) S_4) (AA (AB AE (some c2) 0) fun t68=>AA (AB Bc (some c3) 0) fun t69=>AY Ca Lk [(AV.strip t68),(AV.strip t69)] S0 fun t70 S_5=>AA (AS t70 0) fun t71=>AA (AS (AW t70 0) 1) fun t72=>AA (AK AE (some AE.zero) 0 t71) fun b4_5=>AA (AK AD (some AD.zero) 0 t72) fun b5_5=>AA ((AB AE (some b4_5) 0).map AV.strip) fun r4_5=>AA ((AB AD (some b5_5) 0).map AV.strip) fun r5_5=>Q (.tup [(AV.flat r4_5),(AV.flat r5_5)]) S_5)) (AA (AI .eql (AV.strip t15) (.int .i64 7)) fun t74=>ifK t74 (AA (AB Aq (some c2) 5) fun t76=>AA (AB AN (some c3) 4) fun t78=>AY Ca IS [(AV.strip t76),(AV.strip t78)] S0 fun t79 S_6=>AA (AI .lss (AV.strip t79) (.int .i64 0)) fun t81=>ifK t81 (AA (AB AE (some c2) 0) fun t82=>Ca CQ [(.int .i64 9)] S_6 fun t83 S_7=>AA (AK AE (some AE.zero) 0 (AV.strip t82)) fun b4_6=>AA (AK AD (some AD.zero) 0 t83) fun b5_6=>AA ((AB AE (some b4_6) 0).map AV.strip) fun r4_6=>AA ((AB AD (some b5_6) 0).map AV.strip) fun r5_6=>Q (.tup [(AV.flat r4_6),(AV.flat r5_6)]) S_7) (AA (AB Aq (some c2) 5) fun t86=>AA (AB Aq (some c2) 5) fun t91=>AA (AI .add (AV.strip t79) (.int .i64 1)) fun t93=>AA (CT Ab (AV.strip t86) none (some (AV.strip t79)) none) fun t88=>AA (AU Ab S_6 (.vs 4 [] .full) t88) fun t89=>AA (CT Ab (AV.strip t91) (some t93) none none) fun t94=>AA (AU Ab S_6 t89 t94) fun t95=>AA (AK Aq (some c2) 5 t95) fun b2_3=>AA (AB AE (some b2_3) 0) fun t97=>AA (AK AE (some AE.zero) 0 (AV.strip t97)) fun b4_7=>AA ((AB AE (some b4_7) 0).map AV.strip) fun r4_7=>Q (.tup [(AV.flat r4_7),(.agg AD.zero)]) S_6)) (AA (AI .eql (AV.strip t15) (.int .i64 8)) fun t100=>ifK t100 (AA (AB AJ (some c3) 5) fun t103=>AY Ca I2 [(AV.strip t103)] S0 fun t104 S_8=>AA (AS t104 0) fun t105=>AA (AS (AW t104 0) 1) fun t106=>AA (AK AG (some AG.zero) 0 t105) fun b10=>AA (unA .not (AV.strip t106)) fun t108=>ifK t108 (AA (AB AE (some c2) 0) fun t109=>Ca CQ [(.int .i64 1)] S_8 fun t110 S_9=>AA (AK AE (some AE.zero) 0 (AV.strip t109)) fun b4_8=>AA (AK AD (some AD.zero) 0 t110) fun b5_7=>AA ((AB AE (some b4_8) 0).map AV.strip) fun r4_8=>AA ((AB AD (some b5_7) 0).map AV.strip) fun r5_7=>Q (.tup [(AV.flat r4_8),(AV.flat r5_7)]) S_9) (AA (AB Af (some c2) 0) fun t112=>AA (Ap (AV.strip t112)) fun t113=>AA (AI .geq t113 (.int .i64 64)) fun t114=>ifK t114 (AA (AB AE (some c2) 0) fun t115=>Ca CQ [(.int .i64 6)] S_8 fun t116 S_10=>AA (AK AE (some AE.zero) 0 (AV.strip t115)) fun b4_9=>AA (AK AD (some AD.zero) 0 t116) fun b5_8=>AA ((AB AE (some b4_9) 0).map AV.strip) fun r4_9=>AA ((AB AD (some b5_8) 0).map AV.strip) fun r5_8=>Q (.tup [(AV.flat r4_9),(AV.flat r5_8)]) S_10) (AA (AB AN (some c2) 2) fun t118=>AA (AB AE (some c2) 0) fun t119=>AA (AB AG (some b10) 0) fun t120=>AY Ca Ih [(AV.strip t119),(AV.strip t120)] S_8 fun t121 S_11=>AA (BJ AD 1 [(4,(AV.strip (AV.strip t118)))]) fun t123=>AA (AK AE (some AE.zero) 0 t121) fun b4_10=>AA (AK AD (some AD.zero) 0 t123) fun b5_9=>AA ((AB AE (some b4_10) 0).map AV.strip) fun r4_10=>AA ((AB AD (some b5_9) 0).map AV.strip) fun r5_9=>Q (.tup [(AV.flat r4_10),(AV.flat r5_9)]) S_11))) (AA (AI .eql (AV.strip t15) (.int .i64 9)) fun t125=>ifK t125 (AL (fun (y2:Option (List AV)) (y4:Option (List AV)) (y5:Option (List AV)) (S_14:St)=>AA (AB AE y2 0) fun t165=>Ca CQ [(.int .i64 2)] S_14 fun t166 S_15=>AA (AK AE y4 0 (AV.strip t165)) fun b4_12=>AA (AK AD y5 0 t166) fun b5_11=>AA ((AB AE (some b4_12) 0).map AV.strip) fun r4_12=>AA ((AB AD (some b5_11) 0).map AV.strip) fun r5_11=>Q (.tup [(AV.flat r4_12),(AV.flat r5_11)]) S_15) fun j=>A5 ([(.int .i64 0)],[(some c2),(some c3),(some AE.zero),(some AD.zero)]) (fun v bx=>([v 13],[bx 2,bx 3,bx 4,bx 5])) (fun nx v bx S_12=>AA (bx 2) fun _=>AA (AB Eh (bx 2) 1) fun t128=>AA (Ap (AV.strip t128)) fun t129=>AA (AI .lss (AV.strip (v 13)) t129) fun t130=>ifK t130 (AA (bx 2) fun _=>AA (AB Eh (bx 2) 1) fun t134=>AA (AT AN (AV.strip t134) (AV.strip (v 13))) fun t136=>AA (AP AN S_12 t136) fun t137=>AA (bx 3) fun _=>AA (AB AN (bx 3) 4) fun t139=>AA (AI .eql (AV.strip t137) (AV.strip t139)) fun t140=>ifK t140 (AA (bx 2) fun _=>AA (AB Af (bx 2) 0) fun t143=>AA (bx 2) fun _=>AA (AB Af (bx 2) 0) fun t148=>AA (AI .add (AV.strip (v 13)) (.int .i64 1)) fun t150=>AA (CT AG (AV.strip t143) none (some (AV.strip (v 13))) none) fun t145=>AA (AU AG S_12 (.vs 7 [] .full) t145) fun t146=>AA (CT AG (AV.strip t148) (some t150) none none) fun t151=>AA (AU AG S_12 t146 t151) fun t152=>AA (bx 2) fun _=>AA (AK Af (bx 2) 0 t152) fun b2_4=>AA (AB Eh (some b2_4) 1) fun t155=>AY Ca IG [(AV.strip t155),(AV.strip (v 13))] S_12 fun t157 S_13=>AA (AK Eh (some b2_4) 1 t157) fun b2_5=>AA (AB AN (some b2_5) 3) fun t160=>AA (AI .add (AV.strip t160) (.int .i64 1)) fun t161=>AA (AK AN (some b2_5) 3 t161) fun b2_6=>AA (AB AE (some b2_6) 0) fun t163=>AA (AK AE (bx 4) 0 (AV.strip t163)) fun b4_11=>AA (AK AD (bx 5) 0 (.agg AD.zero)) fun b5_10=>AA ((AB AE (some b4_11) 0).map AV.strip) fun r4_11=>AA ((AB AD (some b5_10) 0).map AV.strip) fun r5_10=>Q (.tup [(AV.flat r4_11),(AV.flat r5_10)]) S_13) (AA (AI .add (AV.strip (v 13)) (.int .i64 1)) fun t132=>nx ([t132],[(bx 2),(bx 3),(bx 4),(bx 5)]) S_12)) (j (bx 2) (bx 4) (bx 5) S_12)) S0) (j_2)))))
theorem aQ{w0 a0a a0ar a0b a0br a0c a0d a0e a0f a0fr a0g a1a a1b a1c a1d a1e a1f S0 Q}(h:VO (AO (En w0)) a0a a0ar a0b a0br a0c a0d a0e a0f a0fr a0g a1a a1b a1c a1d a1e a1f S0 Q):AC w0 Ov [(.agg [(.vs 7 a0a a0ar),(.vs 1 a0b a0br),(.int .i64 a0c),(.int .i64 a0d),(.int .i64 a0e),(.vs 4 a0f a0fr),(.int .i64 a0g)]),(.agg [(.int .i64 a1a),(.str a1b),(.int .i64 a1c),(.int .i64 a1d),(.int .i64 a1e),(.str a1f)])] S0 Q:=Ae w0 Tryz.func12 h
def Ln(Ca:CaT)(a0a a0b a0c a0d a0e:Int)(a0f:List UInt8)(a0g:List (List AV))(a0gr:Rt)(a0h:Bool)(a1a a1b a1c a1d a1e:Int)(a1f:List UInt8)(a1g:List (List AV))(a1gr:Rt)(a1h:Bool)(S0:St)(Q:QT):Prop:=AA (B9 AD (.agg [(.int .i64 a0a),(.int .i64 a0b),(.int .i64 a0c),(.int .i64 a0d),(.int .i64 a0e),(.str a0f),(.vs 1 a0g a0gr),(.bool a0h)])) fun c2=>AA (B9 AD (.agg [(.int .i64 a1a),(.int .i64 a1b),(.int .i64 a1c),(.int .i64 a1d),(.int .i64 a1e),(.str a1f),(.vs 1 a1g a1gr),(.bool a1h)])) fun c3=>AA (AB D9 (some c2) 0) fun t7=>AA (AB D9 (some c3) 0) fun t9=>AA (AI .neq (AV.strip t7) (AV.strip t9)) fun t10=>AL (fun (x16:AV)=>AA (AZ (AV.strip t10) (.bool true) x16) fun t17=>AL (fun (x23:AV)=>AA (AZ (AV.strip (AV.strip t17)) (.bool true) x23) fun t24=>AL (fun (x30:AV)=>AA (AZ (AV.strip (AV.strip t24)) (.bool true) x30) fun t31=>AL (fun (x37:AV)=>AA (AZ (AV.strip (AV.strip t31)) (.bool true) x37) fun t38=>AL (fun (x44:AV)=>AA (AZ (AV.strip (AV.strip t38)) (.bool true) x44) fun t45=>AL (fun (x51:AV)=>AA (AZ (AV.strip (AV.strip t45)) (.bool true) x51) fun t52=>AL (fun (x60:AV)=>AA (AZ (AV.strip (AV.strip t52)) (.bool true) x60) fun t61=>ifK (AV.strip t61) (Q (.bool false) S0) (AL (fun (S_2:St)=>Q (.bool true) S_2) fun j_8=>A5 ([(.int .i64 0)],[(some c2),(some c3)]) (fun v bx=>([v 5],[bx 2,bx 3])) (fun nx v bx S=>AA (bx 2) fun _=>AA (AB AX (bx 2) 6) fun t64=>AA (Ap (AV.strip t64)) fun t65=>AA (AI .lss (AV.strip (v 5)) t65) fun t66=>ifK t66 (AA (bx 2) fun _=>AA (AB AX (bx 2) 6) fun t70=>AA (AT AJ (AV.strip t70) (AV.strip (v 5))) fun t72=>AA (AP AJ S t72) fun t73=>AA (bx 3) fun _=>AA (AB AX (bx 3) 6) fun t75=>AA (AT AJ (AV.strip t75) (AV.strip (v 5))) fun t77=>AA (AP AJ S t77) fun t78=>AA (AI .neq (AV.strip t73) (AV.strip t78)) fun t79=>ifK t79 (Q (.bool false) S) (AA (AI .add (AV.strip (v 5)) (.int .i64 1)) fun t68=>nx ([t68],[(bx 2),(bx 3)]) S)) (j_8 S)) S0)) fun j=>ifK (AV.strip (AV.strip t52)) (j (.tup [])) (AA (AB AX (some c2) 6) fun t55=>AA (Ap (AV.strip t55)) fun t56=>AA (AB AX (some c3) 6) fun t58=>AA (Ap (AV.strip t58)) fun t59=>AA (AI .neq t56 t59) fun t60=>j t60)) fun j_2=>ifK (AV.strip (AV.strip t45)) (j_2 (.tup [])) (AA (AB Cc (some c2) 7) fun t48=>AA (AB Cc (some c3) 7) fun t50=>AA (Hq .bool .neq (AV.strip t48) (AV.strip t50)) fun t51=>j_2 t51)) fun j_3=>ifK (AV.strip (AV.strip t38)) (j_3 (.tup [])) (AA (AB AJ (some c2) 5) fun t41=>AA (AB AJ (some c3) 5) fun t43=>AA (AI .neq (AV.strip t41) (AV.strip t43)) fun t44=>j_3 t44)) fun j_4=>ifK (AV.strip (AV.strip t31)) (j_4 (.tup [])) (AA (AB AN (some c2) 4) fun t34=>AA (AB AN (some c3) 4) fun t36=>AA (AI .neq (AV.strip t34) (AV.strip t36)) fun t37=>j_4 t37)) fun j_5=>ifK (AV.strip (AV.strip t24)) (j_5 (.tup [])) (AA (AB AN (some c2) 3) fun t27=>AA (AB AN (some c3) 3) fun t29=>AA (AI .neq (AV.strip t27) (AV.strip t29)) fun t30=>j_5 t30)) fun j_6=>ifK (AV.strip (AV.strip t17)) (j_6 (.tup [])) (AA (AB AN (some c2) 2) fun t20=>AA (AB AN (some c3) 2) fun t22=>AA (AI .neq (AV.strip t20) (AV.strip t22)) fun t23=>j_6 t23)) fun j_7=>ifK (AV.strip t10) (j_7 (.tup [])) (AA (AB AN (some c2) 1) fun t13=>AA (AB AN (some c3) 1) fun t15=>AA (AI .neq (AV.strip t13) (AV.strip t15)) fun t16=>j_7 t16)
theorem OE{w0 a0a a0b a0c a0d a0e a0f a0g a0gr a0h a1a a1b a1c a1d a1e a1f a1g a1gr a1h S0 Q}(h:Ln (AO (En w0)) a0a a0b a0c a0d a0e a0f a0g a0gr a0h a1a a1b a1c a1d a1e a1f a1g a1gr a1h S0 Q):AC w0 Fe [(.agg [(.int .i64 a0a),(.int .i64 a0b),(.int .i64 a0c),(.int .i64 a0d),(.int .i64 a0e),(.str a0f),(.vs 1 a0g a0gr),(.bool a0h)]),(.agg [(.int .i64 a1a),(.int .i64 a1b),(.int .i64 a1c),(.int .i64 a1d),(.int .i64 a1e),(.str a1f),(.vs 1 a1g a1gr),(.bool a1h)])] S0 Q:=Ae w0 Tryz.func13 h
def QN(Ca:CaT)(a0a:List (List AV))(a0ar:Rt)(a0b a1:Int)(a2:List (List AV))(a2r:Rt)(S0:St)(Q:QT):Prop:=AA (B9 AM (.agg [(.vs 2 a0a a0ar),(.int .i64 a0b)])) fun c3=>AA (AB AM (some c3) 0) fun t11=>AY Ca O4 [(AV.strip t11),(.int .i64 a1)] S0 fun t13 S=>AA (KU EN Gg t13) fun t14=>AL (fun (S_7:St)=>Q (.int .i64 (-1)) S_7) fun j_4=>Ca Gc [(.vs 19 a2 (Rt.strip (Rt.strip a2r)))] S fun t16 S_2=>AA (Ap t16) fun t17=>A5 ([(.int .i64 0),(.int .i64 0)],[]) (fun v bx=>([v 8,v 18],[])) (fun nx v bx S_3=>AA (AI .lss (v 18) t17) fun t19=>ifK t19 (AA (AT AF t16 (v 18)) fun t21=>AA (AP AF S_3 t21) fun t22=>AA (AK AF (some AF.zero) 0 (AV.strip t22)) fun b10=>AA (AB AN (some b10) 17) fun t24=>AA (AI .leq (AV.strip t24) (AV.strip (v 8))) fun t26=>AL (fun (x32:AV)=>AA (AZ (AV.strip t26) (.bool true) x32) fun t33=>AL (fun (x39:AV)=>AA (AZ (AV.strip (AV.strip t33)) (.bool true) x39) fun t40=>AL (fun (x49:AV) (S_6:St)=>AA (AZ (AV.strip (AV.strip t40)) (.bool true) x49) fun t50=>ifK (AV.strip t50) (Q (AV.strip (AV.strip (v 18))) S_6) (AA (AB AN (some b10) 17) fun t53=>AA (AI .add (v 18) (.int .i64 1)) fun t54=>nx ([(AV.strip t53),(AV.strip t54)],[]) S_6)) fun j=>ifK (AV.strip (AV.strip t40)) (j (.tup []) S_3) (AA (AB Bc (some b10) 2) fun t44=>AA (AB AD (some b10) 8) fun t47=>AA (D2 C (AV.strip t14) "Do" [(AV.strip t44)]) fun a=>Ca a.1 a.2 S_3 fun t45 S_4=>AY Ca Hn [t45,(AV.strip t47)] S_4 fun t48 S_5=>AA (unA .not t48) fun t49=>j t49 S_5)) fun j_2=>ifK (AV.strip (AV.strip t33)) (j_2 (.tup [])) (AA (AB AN (some b10) 17) fun t36=>AA (AB AN (some b10) 18) fun t38=>AA (AI .gtr (AV.strip t36) (AV.strip t38)) fun t39=>j_2 t39)) fun j_3=>ifK (AV.strip t26) (j_3 (.tup [])) (AA (AB AN (some b10) 17) fun t29=>AA (AB AN (some b10) 16) fun t31=>AA (AI .lss (AV.strip t29) (AV.strip t31)) fun t32=>j_3 t32)) (j_4 S_3)) S_2
theorem WU{w0 a0a a0ar a0b a1 a2 a2r S0 Q}(h:QN (AO (En w0)) a0a a0ar a0b a1 a2 a2r S0 Q):AC w0 Gf [(.agg [(.vs 2 a0a a0ar),(.int .i64 a0b)]),(.int .i64 a1),(.vs 19 a2 a2r)] S0 Q:=Ae w0 Tryz.func14 h
def OB(Ca:CaT)(a0a a0b a0ca:Int)(a0cb:List UInt8)(a0cc a0cd a0ce:Int)(a0cf:List UInt8)(a0da a0db a0dc a0dd a0de:Int)(a0df:List UInt8)(a0dg:List (List AV))(a0dgr:Rt)(a0dh:Bool)(a0e a0f a0g a1a a1b a1ca:Int)(a1cb:List UInt8)(a1cc a1cd a1ce:Int)(a1cf:List UInt8)(a1da a1db a1dc a1dd a1de:Int)(a1df:List UInt8)(a1dg:List (List AV))(a1dgr:Rt)(a1dh:Bool)(a1e a1f a1g:Int)(S0:St)(Q:QT):Prop:=AA (B9 AF (.agg [(.int .i64 a0a),(.int .i64 a0b),(.int .i64 a0ca),(.str a0cb),(.int .i64 a0cc),(.int .i64 a0cd),(.int .i64 a0ce),(.str a0cf),(.int .i64 a0da),(.int .i64 a0db),(.int .i64 a0dc),(.int .i64 a0dd),(.int .i64 a0de),(.str a0df),(.vs 1 a0dg a0dgr),(.bool a0dh),(.int .i64 a0e),(.int .i64 a0f),(.int .i64 a0g)])) fun c2=>AA (B9 AF (.agg [(.int .i64 a1a),(.int .i64 a1b),(.int .i64 a1ca),(.str a1cb),(.int .i64 a1cc),(.int .i64 a1cd),(.int .i64 a1ce),(.str a1cf),(.int .i64 a1da),(.int .i64 a1db),(.int .i64 a1dc),(.int .i64 a1dd),(.int .i64 a1de),(.str a1df),(.vs 1 a1dg a1dgr),(.bool a1dh),(.int .i64 a1e),(.int .i64 a1f),(.int .i64 a1g)])) fun c3=>AA (AB AN (some c2) 18) fun t6=>AA (AB AN (some c3) 16) fun t8=>AA (AI .lss (AV.strip t6) (AV.strip t8)) fun t9=>Q t9 S0
theorem Ui{w0 a0a a0b a0ca a0cb a0cc a0cd a0ce a0cf a0da a0db a0dc a0dd a0de a0df a0dg a0dgr a0dh a0e a0f a0g a1a a1b a1ca a1cb a1cc a1cd a1ce a1cf a1da a1db a1dc a1dd a1de a1df a1dg a1dgr a1dh a1e a1f a1g S0 Q}(h:OB (AO (En w0)) a0a a0b a0ca a0cb a0cc a0cd a0ce a0cf a0da a0db a0dc a0dd a0de a0df a0dg a0dgr a0dh a0e a0f a0g a1a a1b a1ca a1cb a1cc a1cd a1ce a1cf a1da a1db a1dc a1dd a1de a1df a1dg a1dgr a1dh a1e a1f a1g S0 Q):AC w0 Hl [(.agg [(.int .i64 a0a),(.int .i64 a0b),(.int .i64 a0ca),(.str a0cb),(.int .i64 a0cc),(.int .i64 a0cd),(.int .i64 a0ce),(.str a0cf),(.int .i64 a0da),(.int .i64 a0db),(.int .i64 a0dc),(.int .i64 a0dd),(.int .i64 a0de),(.str a0df),(.vs 1 a0dg a0dgr),(.bool a0dh),(.int .i64 a0e),(.int .i64 a0f),(.int .i64 a0g)]),(.agg [(.int .i64 a1a),(.int .i64 a1b),(.int .i64 a1ca),(.str a1cb),(.int .i64 a1cc),(.int .i64 a1cd),(.int .i64 a1ce),(.str a1cf),(.int .i64 a1da),(.int .i64 a1db),(.int .i64 a1dc),(.int .i64 a1dd),(.int .i64 a1de),(.str a1df),(.vs 1 a1dg a1dgr),(.bool a1dh),(.int .i64 a1e),(.int .i64 a1f),(.int .i64 a1g)])] S0 Q:=Ae w0 Tryz.func15 h
def SY(Ca:CaT)(a0:List (List AV))(a0r:Rt)(S0:St)(Q:QT):Prop:=AL (fun (S_5:St)=>Q (.bool true) S_5) fun j_2=>A5 ([(.vs 19 a0 a0r),(.int .i64 0)],[]) (fun v bx=>([v 0,v 9],[])) (fun nx v bx S=>AA (AI .lss (v 9) (.int .i64 (List.length a0:Int))) fun t10=>ifK t10 (AL (fun (x0:AV) (S_4:St)=>AA (AI .add (v 9) (.int .i64 1)) fun t27=>nx ([x0,(AV.strip t27)],[]) S_4) fun j=>AA (AT AF (.vs 19 a0 (Rt.strip a0r)) (v 9)) fun t12=>AA (AP AF S t12) fun t13=>AA (AK AF (some AF.zero) 0 (AV.strip t13)) fun b4=>AA (AI .add (AV.strip (AV.strip (v 9))) (.int .i64 1)) fun t16=>AA (CT AF (v 0) (some t16) none none) fun t17=>AA (Ap t17) fun t18=>A5 ([(.int .i64 0)],[(some b4)]) (fun v_2 bx_2=>([v_2 19],[bx_2 4])) (fun nx_2 v_2 bx_2 S_2=>AA (AI .lss (v_2 19) t18) fun t20=>ifK t20 (AA (AT AF t17 (v_2 19)) fun t21=>AA (AP AF S_2 t21) fun t22=>AA (AK AF (some AF.zero) 0 (AV.strip t22)) fun b6=>AA (AB AF (some b6) 0) fun t23=>AA (AB AF (bx_2 4) 0) fun t24=>AY Ca Hl [(AV.strip t23),(AV.strip t24)] S_2 fun t25 S_3=>ifK t25 (Q (.bool false) S_3) (AA (AI .add (v_2 19) (.int .i64 1)) fun t26=>nx_2 ([(AV.strip t26)],[(bx_2 4)]) S_3)) (j (AV.strip (v 0)) S_2)) S) (j_2 S)) S0
theorem X0{w0 a0 a0r S0 Q}(h:SY (AO (En w0)) a0 a0r S0 Q):AC w0 MZ [(.vs 19 a0 a0r)] S0 Q:=Ae w0 Tryz.func16 h
def OM(Ca:CaT)(a0a:Int)(a0b:Bool)(a0c:List (List AV))(a0cr:Rt)(a0d:List (List AV))(a0dr:Rt)(a0e:Int)(a0f:List (List AV))(a0fr:Rt)(a0g:List UInt8)(S0:St)(Q:QT):Prop:=AA (B9 AG (.agg [(.int .i64 a0a),(.bool a0b),(.vs 1 a0c a0cr),(.vs 7 a0d a0dr),(.int .i64 a0e),(.vs 2 a0f a0fr),(.str a0g)])) fun c1=>AA (A8 AN (S0++[Obj.cells AN.zero Da]) (.ptr S0.length 0) (.int .i64 400)) fun S=>AA (AB AG (some c1) 0) fun t4=>AY Ca Hg [(AV.strip t4),(.int .i64 30),(.ptr S0.length 0)] S fun t5 S_2=>AA (unA .not t5) fun t6=>ifK t6 (Q (.int .i64 0) S_2) (Q (.int .i64 1) S_2)
theorem Uf{w0 a0a a0b a0c a0cr a0d a0dr a0e a0f a0fr a0g S0 Q}(h:OM (AO (En w0)) a0a a0b a0c a0cr a0d a0dr a0e a0f a0fr a0g S0 Q):AC w0 Hf [(.agg [(.int .i64 a0a),(.bool a0b),(.vs 1 a0c a0cr),(.vs 7 a0d a0dr),(.int .i64 a0e),(.vs 2 a0f a0fr),(.str a0g)])] S0 Q:=Ae w0 Tryz.func17 h
def Oa(Ca:CaT)(a0a:Int)(a0b:Bool)(a0c:List (List AV))(a0cr:Rt)(a0d:List (List AV))(a0dr:Rt)(a0e:Int)(a0f:List (List AV))(a0fr:Rt)(a0g:List UInt8)(S0:St)(Q:QT):Prop:=AA (B9 AG (.agg [(.int .i64 a0a),(.bool a0b),(.vs 1 a0c a0cr),(.vs 7 a0d a0dr),(.int .i64 a0e),(.vs 2 a0f a0fr),(.str a0g)])) fun c1=>AA (AB AN (some c1) 0) fun t4=>AA (AI .eql (AV.strip t4) (.int .i64 2)) fun t5=>AL (fun (x8:AV) (S_2:St)=>AA (AZ (AV.strip t5) x8 (.bool false)) fun t9=>AL (fun (x13:AV) (S_4:St)=>AA (AZ (AV.strip (AV.strip t9)) x13 (.bool false)) fun t14=>AL (fun (x18:AV) (S_6:St)=>AA (AZ (AV.strip (AV.strip t14)) x18 (.bool false)) fun t19=>Q (AV.strip t19) S_6) fun j=>ifK (AV.strip (AV.strip t14)) (AA (AB AG (some c1) 0) fun t16=>AY Ca Hk [(AV.strip t16)] S_4 fun t17 S_5=>AA (AI .leq t17 (.int .i64 15)) fun t18=>j t18 S_5) (j (.tup []) S_4)) fun j_2=>ifK (AV.strip (AV.strip t9)) (AA (AB AG (some c1) 0) fun t11=>AY Ca Ha [(AV.strip t11)] S_2 fun t12 S_3=>AA (AI .leq t12 (.int .i64 4096)) fun t13=>j_2 t13 S_3) (j_2 (.tup []) S_2)) fun j_3=>ifK (AV.strip t5) (AA (AB AG (some c1) 0) fun t7=>AY Ca Ju [(AV.strip t7)] S0 fun t8 S=>j_3 t8 S) (j_3 (.tup []) S0)
theorem VP{w0 a0a a0b a0c a0cr a0d a0dr a0e a0f a0fr a0g S0 Q}(h:Oa (AO (En w0)) a0a a0b a0c a0cr a0d a0dr a0e a0f a0fr a0g S0 Q):AC w0 Fv [(.agg [(.int .i64 a0a),(.bool a0b),(.vs 1 a0c a0cr),(.vs 7 a0d a0dr),(.int .i64 a0e),(.vs 2 a0f a0fr),(.str a0g)])] S0 Q:=Ae w0 Tryz.func18 h
def Sg(Ca:CaT)(a0:List (List AV))(a0r:Rt)(a1:Int)(S0:St)(Q:QT):Prop:=ifK (.bool (decide ((List.length a0:Int) > a1))) (Q (.int .i64 0) S0) (AL (fun (S_2:St)=>Q (.int .i64 1) S_2) fun j_3=>A5 ([(.int .i64 0)],[]) (fun v bx=>([v 13],[])) (fun nx v bx S=>AA (AI .lss (v 13) (.int .i64 (List.length a0:Int))) fun t14=>ifK t14 (AA (AT Bc (.vs 6 a0 (Rt.strip a0r)) (v 13)) fun t15=>AA (AP Bc S t15) fun t16=>AA (AK Bc (some Bc.zero) 0 (AV.strip t16)) fun b6=>AA (AB AJ (some b6) 1) fun t18=>AA (Cb (AV.strip t18)) fun t19=>AA (AI .gtr t19 (.int .i64 1100)) fun t20=>AL (fun (x25:AV)=>AA (AZ (AV.strip t20) (.bool true) x25) fun t26=>AL (fun (x30:AV)=>AA (AZ (AV.strip (AV.strip t26)) (.bool true) x30) fun t31=>ifK (AV.strip t31) (Q (.int .i64 0) S) (AA (AI .add (v 13) (.int .i64 1)) fun t32=>nx ([(AV.strip t32)],[]) S)) fun j=>ifK (AV.strip (AV.strip t26)) (j (.tup [])) (AA (AB AN (some b6) 3) fun t29=>AA (AI .gtr (AV.strip t29) (.int .i64 3000)) fun t30=>j t30)) fun j_2=>ifK (AV.strip t20) (j_2 (.tup [])) (AA (AB AJ (some b6) 5) fun t23=>AA (Cb (AV.strip t23)) fun t24=>AA (AI .gtr t24 (.int .i64 2000)) fun t25=>j_2 t25)) (j_3 S)) S0)
theorem YU{w0 a0 a0r a1 S0 Q}(h:Sg (AO (En w0)) a0 a0r a1 S0 Q):AC w0 Mc [(.vs 6 a0 a0r),(.int .i64 a1)] S0 Q:=Ae w0 Tryz.func19 h
def VF(Ca:CaT)(a0:List (List AV))(a0r:Rt)(S0:St)(Q:QT):Prop:=AL (fun (y2:Option (List AV)) (y4:Option (List AV)) (S_4:St)=>AA (AB AM y4 0) fun t36=>AA (AK AM y2 0 (AV.strip t36)) fun b2_3=>AA ((AB AM (some b2_3) 0).map AV.strip) fun r2_3=>Q (.tup [(AV.flat r2_3),(.int .i64 0)]) S_4) fun j=>A5 ([(.int .i64 0)],[(some [(.vs 2 [] .nil),(.int .i64 0)]),(some [(.vs 2 [] .nil),(.int .i64 0)])]) (fun v bx=>([v 11],[bx 2,bx 4])) (fun nx v bx S=>AA (AI .lss (v 11) (.int .i64 (List.length a0:Int))) fun t12=>ifK t12 (AA (AT AG (.vs 7 a0 (Rt.strip a0r)) (v 11)) fun t13=>AA (AP AG S t13) fun t14=>AA (AK AG (some AG.zero) 0 (AV.strip t14)) fun b6=>AA (AB AG (some b6) 0) fun t16=>AY Ca IW [(AV.strip t16)] S fun t17 S_2=>AA (AS t17 0) fun t18=>AA (AS (AW t17 0) 1) fun t19=>AA (AI .neq (AV.strip t19) (.int .i64 0)) fun t21=>ifK t21 (AA (AK AM (bx 2) 0 (.agg [(.vs 2 [] .nil),(.int .i64 0)])) fun b2=>AA ((AB AM (some b2) 0).map AV.strip) fun r2=>Q (.tup [(AV.flat r2),(AV.flat (AV.strip t19))]) S_2) (AA (AB AM (bx 4) 0) fun t25=>AY Ca FF [(AV.strip t25),(AV.strip t18)] S_2 fun t27 S_3=>AA (AS t27 0) fun t28=>AA (AS (AW t27 0) 1) fun t29=>AA (AS (AW (AW t27 0) 1) 2) fun t30=>AA (AK AM (bx 4) 0 t28) fun b4=>AA (AI .neq (AV.strip t30) (.int .i64 0)) fun t32=>ifK t32 (AA (AK AM (bx 2) 0 (.agg [(.vs 2 [] .nil),(.int .i64 0)])) fun b2_2=>AA ((AB AM (some b2_2) 0).map AV.strip) fun r2_2=>Q (.tup [(AV.flat r2_2),(AV.flat (AV.strip t30))]) S_3) (AA (AI .add (v 11) (.int .i64 1)) fun t35=>nx ([(AV.strip t35)],[(bx 2),(some b4)]) S_3))) (j (bx 2) (bx 4) S)) S0
theorem au{w0 a0 a0r S0 Q}(h:VF (AO (En w0)) a0 a0r S0 Q):AC w0 Ow [(.vs 7 a0 a0r)] S0 Q:=Ae w0 Tryz.func20 h
def Jw(Ca:CaT)(a0a:List (List AV))(a0ar:Rt)(a0b:Int)(S0:St)(Q:QT):Prop:=AA (B9 AM (.agg [(.vs 2 a0a a0ar),(.int .i64 a0b)])) fun c1=>AA (AB Bb (some c1) 0) fun t4=>AA (Ap (AV.strip t4)) fun t5=>Q t5 S0
theorem PV{w0 a0a a0ar a0b S0 Q}(h:Jw (AO (En w0)) a0a a0ar a0b S0 Q):AC w0 FI [(.agg [(.vs 2 a0a a0ar),(.int .i64 a0b)])] S0 Q:=Ae w0 Tryz.func21 h
def My(Ca:CaT)(a0a a0b a0ca:Int)(a0cb:List UInt8)(a0cc a0cd a0ce:Int)(a0cf:List UInt8)(a0da a0db a0dc a0dd a0de:Int)(a0df:List UInt8)(a0dg:List (List AV))(a0dgr:Rt)(a0dh:Bool)(a0e a0f a0g a1a a1b a1ca:Int)(a1cb:List UInt8)(a1cc a1cd a1ce:Int)(a1cf:List UInt8)(a1da a1db a1dc a1dd a1de:Int)(a1df:List UInt8)(a1dg:List (List AV))(a1dgr:Rt)(a1dh:Bool)(a1e a1f a1g:Int)(S0:St)(Q:QT):Prop:=AA (B9 AF (.agg [(.int .i64 a0a),(.int .i64 a0b),(.int .i64 a0ca),(.str a0cb),(.int .i64 a0cc),(.int .i64 a0cd),(.int .i64 a0ce),(.str a0cf),(.int .i64 a0da),(.int .i64 a0db),(.int .i64 a0dc),(.int .i64 a0dd),(.int .i64 a0de),(.str a0df),(.vs 1 a0dg a0dgr),(.bool a0dh),(.int .i64 a0e),(.int .i64 a0f),(.int .i64 a0g)])) fun c2=>AA (B9 AF (.agg [(.int .i64 a1a),(.int .i64 a1b),(.int .i64 a1ca),(.str a1cb),(.int .i64 a1cc),(.int .i64 a1cd),(.int .i64 a1ce),(.str a1cf),(.int .i64 a1da),(.int .i64 a1db),(.int .i64 a1dc),(.int .i64 a1dd),(.int .i64 a1de),(.str a1df),(.vs 1 a1dg a1dgr),(.bool a1dh),(.int .i64 a1e),(.int .i64 a1f),(.int .i64 a1g)])) fun c3=>AA (AB AN (some c2) 17) fun t6=>AA (AB AN (some c3) 17) fun t8=>AA (AI .sub (AV.strip t6) (AV.strip t8)) fun t9=>Q t9 S0
theorem Tg{w0 a0a a0b a0ca a0cb a0cc a0cd a0ce a0cf a0da a0db a0dc a0dd a0de a0df a0dg a0dgr a0dh a0e a0f a0g a1a a1b a1ca a1cb a1cc a1cd a1ce a1cf a1da a1db a1dc a1dd a1de a1df a1dg a1dgr a1dh a1e a1f a1g S0 Q}(h:My (AO (En w0)) a0a a0b a0ca a0cb a0cc a0cd a0ce a0cf a0da a0db a0dc a0dd a0de a0df a0dg a0dgr a0dh a0e a0f a0g a1a a1b a1ca a1cb a1cc a1cd a1ce a1cf a1da a1db a1dc a1dd a1de a1df a1dg a1dgr a1dh a1e a1f a1g S0 Q):AC w0 FO [(.agg [(.int .i64 a0a),(.int .i64 a0b),(.int .i64 a0ca),(.str a0cb),(.int .i64 a0cc),(.int .i64 a0cd),(.int .i64 a0ce),(.str a0cf),(.int .i64 a0da),(.int .i64 a0db),(.int .i64 a0dc),(.int .i64 a0dd),(.int .i64 a0de),(.str a0df),(.vs 1 a0dg a0dgr),(.bool a0dh),(.int .i64 a0e),(.int .i64 a0f),(.int .i64 a0g)]),(.agg [(.int .i64 a1a),(.int .i64 a1b),(.int .i64 a1ca),(.str a1cb),(.int .i64 a1cc),(.int .i64 a1cd),(.int .i64 a1ce),(.str a1cf),(.int .i64 a1da),(.int .i64 a1db),(.int .i64 a1dc),(.int .i64 a1dd),(.int .i64 a1de),(.str a1df),(.vs 1 a1dg a1dgr),(.bool a1dh),(.int .i64 a1e),(.int .i64 a1f),(.int .i64 a1g)])] S0 Q:=Ae w0 Tryz.func24 h
def RC(Ca:CaT)(a0a:List (List AV))(a0ar:Rt)(a0b:List (List AV))(a0br:Rt)(a0c a0d a0e:Int)(a0f:List (List AV))(a0fr:Rt)(a0g a1a:Int)(a1b:Bool)(a1c:List (List AV))(a1cr:Rt)(a1d:List (List AV))(a1dr:Rt)(a1e:Int)(a1f:List (List AV))(a1fr:Rt)(a1g:List UInt8)(S0:St)(Q:QT):Prop:=AA (B9 AE (.agg [(.vs 7 a0a a0ar),(.vs 1 a0b a0br),(.int .i64 a0c),(.int .i64 a0d),(.int .i64 a0e),(.vs 4 a0f a0fr),(.int .i64 a0g)])) fun c2=>AA (B9 AG (.agg [(.int .i64 a1a),(.bool a1b),(.vs 1 a1c a1cr),(.vs 7 a1d a1dr),(.int .i64 a1e),(.vs 2 a1f a1fr),(.str a1g)])) fun c3=>AA (AB AG (some c3) 0) fun t5=>AA (BE 7 [(AV.strip t5)]) fun e6=>AA (AB Af (some c2) 0) fun t8=>AA (AU AG S0 (.vs 7 e6 .full) (AV.strip t8)) fun t9=>AA (AK Af (some c2) 0 t9) fun b2=>AA (AB AN (some b2) 2) fun t12=>AA (BE 1 [(AV.strip t12)]) fun e13=>AA (AB Eh (some b2) 1) fun t15=>AA (AU AN S0 (.vs 1 e13 .full) (AV.strip t15)) fun t16=>AA (AK Eh (some b2) 1 t16) fun b2_2=>AA (AB AN (some b2_2) 2) fun t19=>AA (AI .add (AV.strip t19) (.int .i64 1)) fun t20=>AA (AK AN (some b2_2) 2 t20) fun b2_3=>AA (AB AN (some b2_3) 3) fun t23=>AA (AI .add (AV.strip t23) (.int .i64 1)) fun t24=>AA (AK AN (some b2_3) 3 t24) fun b2_4=>AA (AB AE (some b2_4) 0) fun t26=>AA (AK AE (some AE.zero) 0 (AV.strip t26)) fun b4=>AA ((AB AE (some b4) 0).map AV.strip) fun r4=>Q r4 S0
theorem WQ{w0 a0a a0ar a0b a0br a0c a0d a0e a0f a0fr a0g a1a a1b a1c a1cr a1d a1dr a1e a1f a1fr a1g S0 Q}(h:RC (AO (En w0)) a0a a0ar a0b a0br a0c a0d a0e a0f a0fr a0g a1a a1b a1c a1cr a1d a1dr a1e a1f a1fr a1g S0 Q):AC w0 Ih [(.agg [(.vs 7 a0a a0ar),(.vs 1 a0b a0br),(.int .i64 a0c),(.int .i64 a0d),(.int .i64 a0e),(.vs 4 a0f a0fr),(.int .i64 a0g)]),(.agg [(.int .i64 a1a),(.bool a1b),(.vs 1 a1c a1cr),(.vs 7 a1d a1dr),(.int .i64 a1e),(.vs 2 a1f a1fr),(.str a1g)])] S0 Q:=Ae w0 Tryz.func25 h
def SS(Ca:CaT)(a0a a0b a0c a0d a0e:Int)(a0f:List UInt8)(a0g:List (List AV))(a0gr:Rt)(a0h:Bool)(a1a a1b a1c a1d a1e:Int)(a1f:List UInt8)(a1g:List (List AV))(a1gr:Rt)(a1h:Bool)(S0:St)(Q:QT):Prop:=AA (B9 AD (.agg [(.int .i64 a0a),(.int .i64 a0b),(.int .i64 a0c),(.int .i64 a0d),(.int .i64 a0e),(.str a0f),(.vs 1 a0g a0gr),(.bool a0h)])) fun c2=>AA (B9 AD (.agg [(.int .i64 a1a),(.int .i64 a1b),(.int .i64 a1c),(.int .i64 a1d),(.int .i64 a1e),(.str a1f),(.vs 1 a1g a1gr),(.bool a1h)])) fun c3=>AA (AB AX (some c2) 6) fun t8=>AA (AB AX (some c3) 6) fun t10=>AA (AB D9 (some c2) 0) fun t12=>AA (AB D9 (some c3) 0) fun t14=>AA (AI .eql (AV.strip t12) (AV.strip t14)) fun t15=>AL (fun (x21:AV)=>AA (AZ (AV.strip t15) x21 (.bool false)) fun t22=>AL (fun (x28:AV)=>AA (AZ (AV.strip (AV.strip t22)) x28 (.bool false)) fun t29=>AL (fun (x35:AV)=>AA (AZ (AV.strip (AV.strip t29)) x35 (.bool false)) fun t36=>AL (fun (x42:AV)=>AA (AZ (AV.strip (AV.strip t36)) x42 (.bool false)) fun t43=>AL (fun (x49:AV)=>AA (AZ (AV.strip (AV.strip t43)) x49 (.bool false)) fun t50=>AL (fun (x56:AV)=>AA (AZ (AV.strip (AV.strip t50)) x56 (.bool false)) fun t57=>AL (fun (x61:AV) (S_2:St)=>AA (AZ (AV.strip (AV.strip t57)) x61 (.bool false)) fun t62=>Q (AV.strip t62) S_2) fun j=>ifK (AV.strip (AV.strip t57)) (AY Ca C9 [(AV.strip (AV.strip t8)),(AV.strip (AV.strip t10))] S0 fun t61 S=>j t61 S) (j (.tup []) S0)) fun j_2=>ifK (AV.strip (AV.strip t50)) (AA (AB Cc (some c2) 7) fun t53=>AA (AB Cc (some c3) 7) fun t55=>AA (Hq .bool .eql (AV.strip t53) (AV.strip t55)) fun t56=>j_2 t56) (j_2 (.tup []))) fun j_3=>ifK (AV.strip (AV.strip t43)) (AA (AB AJ (some c2) 5) fun t46=>AA (AB AJ (some c3) 5) fun t48=>AA (AI .eql (AV.strip t46) (AV.strip t48)) fun t49=>j_3 t49) (j_3 (.tup []))) fun j_4=>ifK (AV.strip (AV.strip t36)) (AA (AB AN (some c2) 4) fun t39=>AA (AB AN (some c3) 4) fun t41=>AA (AI .eql (AV.strip t39) (AV.strip t41)) fun t42=>j_4 t42) (j_4 (.tup []))) fun j_5=>ifK (AV.strip (AV.strip t29)) (AA (AB AN (some c2) 3) fun t32=>AA (AB AN (some c3) 3) fun t34=>AA (AI .eql (AV.strip t32) (AV.strip t34)) fun t35=>j_5 t35) (j_5 (.tup []))) fun j_6=>ifK (AV.strip (AV.strip t22)) (AA (AB AN (some c2) 2) fun t25=>AA (AB AN (some c3) 2) fun t27=>AA (AI .eql (AV.strip t25) (AV.strip t27)) fun t28=>j_6 t28) (j_6 (.tup []))) fun j_7=>ifK (AV.strip t15) (AA (AB AN (some c2) 1) fun t18=>AA (AB AN (some c3) 1) fun t20=>AA (AI .eql (AV.strip t18) (AV.strip t20)) fun t21=>j_7 t21) (j_7 (.tup []))
theorem Yu{w0 a0a a0b a0c a0d a0e a0f a0g a0gr a0h a1a a1b a1c a1d a1e a1f a1g a1gr a1h S0 Q}(h:SS (AO (En w0)) a0a a0b a0c a0d a0e a0f a0g a0gr a0h a1a a1b a1c a1d a1e a1f a1g a1gr a1h S0 Q):AC w0 Hn [(.agg [(.int .i64 a0a),(.int .i64 a0b),(.int .i64 a0c),(.int .i64 a0d),(.int .i64 a0e),(.str a0f),(.vs 1 a0g a0gr),(.bool a0h)]),(.agg [(.int .i64 a1a),(.int .i64 a1b),(.int .i64 a1c),(.int .i64 a1d),(.int .i64 a1e),(.str a1f),(.vs 1 a1g a1gr),(.bool a1h)])] S0 Q:=Ae w0 Tryz.func26 h
def P8(Ca:CaT)(a0:List (List AV))(a0r:Rt)(a1:List UInt8)(S0:St)(Q:QT):Prop:=Ca IU [(.vs 7 a0 (Rt.strip (Rt.strip a0r))),(.str a1),(.bool true)] S0 fun t10 S=>AA (AK Az (some [(.vs 1 [] .nil),(.vs 7 [] .nil),(.int .i64 0)]) 0 t10) fun b7=>AA (AB AN (some b7) 2) fun t12=>AA (AI .neq (AV.strip t12) (.int .i64 0)) fun t13=>ifK t13 (AA (AB AN (some b7) 2) fun t15=>Q (.tup [(.vs 1 [] .nil),(.vs 2 [] .nil),(AV.flat (AV.strip t15))]) S) (AA (AB Af (some b7) 1) fun t17=>AA (Ap (AV.strip t17)) fun t18=>AA (AI .gtr t18 (.int .i64 0)) fun t19=>AL (fun (x26:AV)=>AA (AZ (AV.strip t19) x26 (.bool false)) fun t27=>ifK (AV.strip t27) (Q (.tup [(.vs 1 [] .nil),(.vs 2 [] .nil),(.int .i64 3)]) S) (AA (AB AX (some b7) 0) fun t29=>AA (AB Af (some b7) 1) fun t31=>AY Ca LR [(AV.strip t31)] S fun t32 S_2=>Q (.tup [(AV.flat (AV.strip t29)),(AV.flat t32),(.int .i64 0)]) S_2)) fun j=>ifK (AV.strip t19) (AA (AB Af (some b7) 1) fun t22=>AA (AT AG (AV.strip t22) (.int .i64 0)) fun t23=>AA (A9 t23 0) fun t24=>AA (AP AN S t24) fun t25=>AA (AI .neq (AV.strip t25) (.int .i64 2)) fun t26=>j t26) (j (.tup [])))
theorem WE{w0 a0 a0r a1 S0 Q}(h:P8 (AO (En w0)) a0 a0r a1 S0 Q):AC w0 GV [(.vs 7 a0 a0r),(.str a1)] S0 Q:=Ae w0 Tryz.func27 h
def OO(Ca:CaT)(a0:Int)(S0:St)(Q:QT):Prop:=Q (.agg [(.int .i64 a0),(.int .i64 0),(.int .i64 0),(.int .i64 0),(.int .i64 0),(.str []),(.vs 1 [] .nil),(.bool false)]) S0
theorem VJ{w0 a0 S0 Q}(h:OO (AO (En w0)) a0 S0 Q):AC w0 CQ [(.int .i64 a0)] S0 Q:=Ae w0 Tryz.func28 h
def P9(Ca:CaT)(a0a:List (List AV))(a0ar:Rt)(a0b:List (List AV))(a0br:Rt)(a0c a0d a0e:Int)(a0f:List (List AV))(a0fr:Rt)(a0g a1a:Int)(a1b:List UInt8)(a1c a1d a1e:Int)(a1f:List UInt8)(S0:St)(Q:QT):Prop:=AA (B9 AE (.agg [(.vs 7 a0a a0ar),(.vs 1 a0b a0br),(.int .i64 a0c),(.int .i64 a0d),(.int .i64 a0e),(.vs 4 a0f a0fr),(.int .i64 a0g)])) fun c2=>AA (B9 Bc (.agg [(.int .i64 a1a),(.str a1b),(.int .i64 a1c),(.int .i64 a1d),(.int .i64 a1e),(.str a1f)])) fun c3=>AA (AB Aq (some c2) 5) fun t13=>AA (AB AN (some c3) 4) fun t15=>AY Ca IS [(AV.strip t13),(AV.strip t15)] S0 fun t16 S=>AA (AI .lss (AV.strip t16) (.int .i64 0)) fun t18=>ifK t18 (AA (AB AE (some c2) 0) fun t19=>Ca CQ [(.int .i64 9)] S fun t20 S_2=>AA (AK AE (some AE.zero) 0 (AV.strip t19)) fun b4=>AA (AK AD (some AD.zero) 0 t20) fun b5=>AA ((AB AE (some b4) 0).map AV.strip) fun r4=>AA ((AB AD (some b5) 0).map AV.strip) fun r5=>Q (.tup [(AV.flat r4),(AV.flat r5)]) S_2) (AA (AB Aq (some c2) 5) fun t22=>AA (AT Ab (AV.strip t22) (AV.strip t16)) fun t24=>AA (AP Ab S t24) fun t25=>AA (AK Ab (some Ab.zero) 0 (AV.strip t25)) fun b7=>AA (AB AN (some b7) 1) fun t27=>AA (AB AN (some c2) 3) fun t29=>AA (AI .neq (AV.strip t27) (AV.strip t29)) fun t30=>ifK t30 (AA (AB AE (some c2) 0) fun t31=>Ca CQ [(.int .i64 8)] S fun t32 S_3=>AA (AK AE (some AE.zero) 0 (AV.strip t31)) fun b4_2=>AA (AK AD (some AD.zero) 0 t32) fun b5_2=>AA ((AB AE (some b4_2) 0).map AV.strip) fun r4_2=>AA ((AB AD (some b5_2) 0).map AV.strip) fun r5_2=>Q (.tup [(AV.flat r4_2),(AV.flat r5_2)]) S_3) (AA (AB Af (some c2) 0) fun t35=>AA (AB AX (some b7) 2) fun t37=>AY Ca K6 [(AV.strip t37)] S fun t38 S_4=>AY Ca GV [(AV.strip t35),t38] S_4 fun t39 S_5=>AA (AS t39 0) fun t40=>AA (AS (AW t39 0) 1) fun t41=>AA (AS (AW (AW t39 0) 1) 2) fun t42=>AL (fun (y7:Option (List AV)) (y11:Option (List AV)) (S_7:St)=>AA y7 fun _=>AA (AB AN y7 3) fun t73=>AA (Ap (AV.strip t41)) fun t75=>AA (AI .eql (AV.strip t73) t75) fun t76=>AA y11 fun _=>AA (AK Cc y11 7 t76) fun b11_2=>AA (AB Aq (some c2) 5) fun t80=>AA (AB Ab y7 0) fun t84=>AA (BE 4 [(AV.strip t84)]) fun e85=>AA (AB Aq (some c2) 5) fun t88=>AA (AI .add (AV.strip t16) (.int .i64 1)) fun t90=>AA (CT Ab (AV.strip t80) none (some (AV.strip t16)) none) fun t82=>AA (AU Ab S_7 (.vs 4 [] .full) t82) fun t83=>AA (AU Ab S_7 t83 (.vs 4 e85 .full)) fun t86=>AA (CT Ab (AV.strip t88) (some t90) none none) fun t91=>AA (AU Ab S_7 t86 t91) fun t92=>AA (AK Aq (some c2) 5 t92) fun b2=>AA (AB AE (some b2) 0) fun t94=>AA (AB AD (some b11_2) 0) fun t95=>AA (AK AE (some AE.zero) 0 (AV.strip t94)) fun b4_3=>AA (AK AD (some AD.zero) 0 (AV.strip t95)) fun b5_3=>AA ((AB AE (some b4_3) 0).map AV.strip) fun r4_3=>AA ((AB AD (some b5_3) 0).map AV.strip) fun r5_3=>Q (.tup [(AV.flat r4_3),(AV.flat r5_3)]) S_7) fun j_2=>A5 ([],[(some c3),(some b7),(some AD.zero)]) (fun v bx=>([],[bx 3,bx 7,bx 11])) (fun nx v bx S_6=>AA (bx 7) fun _=>AA (AB AN (bx 7) 3) fun t45=>AA (Ap (AV.strip t41)) fun t47=>AA (AI .lss (AV.strip t45) t47) fun t48=>AL (fun (x55:AV)=>AA (AZ (AV.strip t48) x55 (.bool false)) fun t56=>ifK (AV.strip t56) (AA (bx 11) fun _=>AA (bx 7) fun _=>AA (AB AN (bx 7) 3) fun t61=>AA (AT BW (AV.strip t41) (AV.strip t61)) fun t62=>AA (A9 t62 0) fun t63=>AA (AP AJ S_6 t63) fun t64=>AA (BE 1 [(AV.strip t64)]) fun e65=>AA (AB AX (bx 11) 6) fun t58=>AA (AU AJ S_6 (AV.strip0 t58) (.vs 1 e65 .full)) fun t66=>AA (Be (bx 11) 6) fun _=>AA (AK AX (Be (bx 11) 6) 6 t66) fun b11=>AA (bx 7) fun _=>AA (AB AN (bx 7) 3) fun t69=>AA (AI .add (AV.strip t69) (.int .i64 1)) fun t70=>AA (bx 7) fun _=>AA (AK AN (bx 7) 3 t70) fun b7_2=>nx ([],[(bx 3),(some b7_2),(some b11)]) S_6) (j_2 (bx 7) (bx 11) S_6)) fun j=>ifK (AV.strip t48) (AA (bx 11) fun _=>AA (AB AX (bx 11) 6) fun t51=>AA (Ap (AV.strip t51)) fun t52=>AA (bx 3) fun _=>AA (AB AN (bx 3) 3) fun t54=>AA (AI .lss t52 (AV.strip t54)) fun t55=>j t55) (j (.tup []))) S_5))
theorem Vy{w0 a0a a0ar a0b a0br a0c a0d a0e a0f a0fr a0g a1a a1b a1c a1d a1e a1f S0 Q}(h:P9 (AO (En w0)) a0a a0ar a0b a0br a0c a0d a0e a0f a0fr a0g a1a a1b a1c a1d a1e a1f S0 Q):AC w0 Lk [(.agg [(.vs 7 a0a a0ar),(.vs 1 a0b a0br),(.int .i64 a0c),(.int .i64 a0d),(.int .i64 a0e),(.vs 4 a0f a0fr),(.int .i64 a0g)]),(.agg [(.int .i64 a1a),(.str a1b),(.int .i64 a1c),(.int .i64 a1d),(.int .i64 a1e),(.str a1f)])] S0 Q:=Ae w0 Tryz.func29 h
def Qd(Ca:CaT)(a0:List (List AV))(a0r:Rt)(a1:Int)(S0:St)(Q:QT):Prop:=AL (fun (S_2:St)=>Q (.int .i64 (-1)) S_2) fun j=>A5 ([(.int .i64 0)],[]) (fun v bx=>([v 5],[])) (fun nx v bx S=>AA (AI .lss (AV.strip (v 5)) (.int .i64 (List.length a0:Int))) fun t9=>ifK t9 (AA (AT Ab (.vs 4 a0 (Rt.strip a0r)) (AV.strip (v 5))) fun t14=>AA (A9 t14 0) fun t15=>AA (AP AN S t15) fun t16=>AA (AI .eql (AV.strip t16) (.int .i64 a1)) fun t18=>ifK t18 (Q (AV.strip (v 5)) S) (AA (AI .add (AV.strip (v 5)) (.int .i64 1)) fun t11=>nx ([t11],[]) S)) (j S)) S0
theorem Wi{w0 a0 a0r a1 S0 Q}(h:Qd (AO (En w0)) a0 a0r a1 S0 Q):AC w0 IS [(.vs 4 a0 a0r),(.int .i64 a1)] S0 Q:=Ae w0 Tryz.func30 h
def Mj(Ca:CaT)(a0:List UInt8)(S0:St)(Q:QT):Prop:=AL (fun (x11:AV)=>AA (AZ (.bool (decide ((List.length a0:Int) < 7))) (.bool true) x11) fun t12=>AL (fun (x16:AV)=>AA (AZ (AV.strip (AV.strip t12)) (.bool true) x16) fun t17=>ifK (AV.strip t17) (Q (.tup [(.agg AG.zero),(.bool false)]) S0) (AA (Bv (.str a0) (some (.int .i64 7)) none) fun t20=>AY Ca Jc [t20,(.int .i64 0)] S0 fun t21 S=>AA (AK Ah (some Ah.zero) 0 t21) fun b4=>AA (AB AN (some b4) 7) fun t23=>AA (AI .neq (AV.strip t23) (.int .i64 (IntKind.i64.wrap ((List.length a0:Int) - 7)))) fun t27=>AL (fun (x32:AV) (S_3:St)=>AA (AZ (AV.strip t27) (.bool true) x32) fun t33=>ifK (AV.strip t33) (Q (.tup [(.agg AG.zero),(.bool false)]) S_3) (AA (AB AG (some b4) 0) fun t36=>AA (AK AG (some AG.zero) 0 (AV.strip t36)) fun b2=>AA ((AB AG (some b2) 0).map AV.strip) fun r2=>Q (.tup [(AV.flat r2),(.bool true)]) S_3)) fun j_3=>ifK (AV.strip t27) (j_3 (.tup []) S) (AA (AB AG (some b4) 0) fun t30=>AY Ca Fv [(AV.strip t30)] S fun t31 S_2=>AA (unA .not t31) fun t32=>j_3 t32 S_2))) fun j=>ifK (AV.strip (AV.strip t12)) (j (.tup [])) (AA (Bv (.str a0) none (some (.int .i64 7))) fun t15=>AA (AI .neq t15 (.str [115,111,99,97,103,101,49])) fun t16=>j t16)) fun j_2=>ifK (.bool (decide ((List.length a0:Int) < 7))) (j_2 (.tup [])) (j_2 (.bool (decide ((List.length a0:Int) > 4194304))))
theorem TP{w0 a0 S0 Q}(h:Mj (AO (En w0)) a0 S0 Q):AC w0 I2 [(.str a0)] S0 Q:=Ae w0 Tryz.func31 h
def L8(Ca:CaT)(a0:List (List AV))(a0r:Rt)(a1:Int)(S0:St)(Q:QT):Prop:=AA (CT AN (.vs 1 a0 (Rt.strip a0r)) none (some (.int .i64 a1)) none) fun t8=>AA (AU AN S0 (.vs 1 [] .full) t8) fun t9=>AA (CT AN (.vs 1 a0 (Rt.strip a0r)) (some (.int .i64 (IntKind.i64.wrap (a1+1)))) none none) fun t13=>AA (AU AN S0 t9 t13) fun t14=>Q t14 S0
theorem Ry{w0 a0 a0r a1 S0 Q}(h:L8 (AO (En w0)) a0 a0r a1 S0 Q):AC w0 IG [(.vs 1 a0 a0r),(.int .i64 a1)] S0 Q:=Ae w0 Tryz.func32 h
def UO(Ca:CaT)(a0:List (List AV))(a0r:Rt)(a1:List (List AV))(a1r:Rt)(a2a:Int)(a2b:List UInt8)(a2c a2d a2e:Int)(a2f:List UInt8)(S0:St)(Q:QT):Prop:=AA (B9 Bc (.agg [(.int .i64 a2a),(.str a2b),(.int .i64 a2c),(.int .i64 a2d),(.int .i64 a2e),(.str a2f)])) fun c5=>AA (AB AN (some c5) 0) fun t13=>AA (AI .lss (AV.strip t13) (.int .i64 1)) fun t14=>AL (fun (x18:AV)=>AA (AZ (AV.strip t14) (.bool true) x18) fun t19=>AL (fun (x33:AV)=>AA (AZ (AV.strip (AV.strip t19)) (.bool true) x33) fun t34=>ifK (AV.strip t34) (Ca Ey [(.int .i64 1)] S0 fun t35 S=>AA (AK AD (some AD.zero) 0 t35) fun b6=>AA ((AB AD (some b6) 0).map AV.strip) fun r6=>Q r6 S) (AA (AB AJ (some c5) 1) fun t38=>AA (AB AN (some c5) 0) fun t40=>AA (AI .eql (AV.strip t40) (.int .i64 2)) fun t41=>AL (fun (x45:AV)=>AA (AZ (AV.strip t41) (.bool true) x45) fun t46=>AY Ca IU [(.vs 7 a0 (Rt.strip a0r)),(AV.strip t38),(AV.strip t46)] S0 fun t47 S_2=>AA (AK Az (some [(.vs 1 [] .nil),(.vs 7 [] .nil),(.int .i64 0)]) 0 t47) fun b7=>AA (AB AN (some b7) 2) fun t49=>AA (AI .neq (AV.strip t49) (.int .i64 0)) fun t50=>ifK t50 (AA (AB AN (some b7) 2) fun t52=>AY Ca Ey [(AV.strip t52)] S_2 fun t53 S_3=>AA (AK AD (some AD.zero) 0 t53) fun b6_2=>AA ((AB AD (some b6_2) 0).map AV.strip) fun r6_2=>Q r6_2 S_3) (AL (fun (x8:AV) (x9:AV) (y10:Option (List AV))=>AA (AB AN (some c5) 0) fun t68=>AA (AI .eql (AV.strip t68) (.int .i64 1)) fun t70=>ifK t70 (AA (AB AX (some b7) 0) fun t73=>AY Ca KO [(.vs 7 a0 (Rt.strip a0r)),(AV.strip t73)] S_2 fun t74 S_4=>AA (AI .lss (AV.strip t74) (.int .i64 0)) fun t76=>ifK t76 (AA (BJ AD 1 [(1,(AV.strip x8)),(3,(.int .i64 (-1)))]) fun t78=>AA (AK AD (some AD.zero) 0 t78) fun b6_3=>AA ((AB AD (some b6_3) 0).map AV.strip) fun r6_3=>Q r6_3 S_4) (AA (AT AN (.vs 1 a1 (Rt.strip a1r)) (AV.strip t74)) fun t82=>AA (AP AN S_4 t82) fun t83=>AA (BJ AD 1 [(1,(AV.strip x8)),(3,(AV.strip t83))]) fun t84=>AA (AK AD (some AD.zero) 0 t84) fun b6_4=>AA ((AB AD (some b6_4) 0).map AV.strip) fun r6_4=>Q r6_4 S_4)) (AA (AI .eql (AV.strip t68) (.int .i64 2)) fun t86=>ifK t86 (AA (BJ AD 1 [(1,(AV.strip x8)),(2,(AV.strip x9))]) fun t89=>AA (AK AD (some AD.zero) 0 t89) fun b6_5=>AA ((AB AD (some b6_5) 0).map AV.strip) fun r6_5=>Q r6_5 S_2) (AA (AI .eql (AV.strip t68) (.int .i64 3)) fun t91=>ifK t91 (AA (AI .neq (AV.strip x8) (.int .i64 3)) fun t93=>ifK t93 (Ca Ey [(.int .i64 1)] S_2 fun t94 S_5=>AA (AK AD (some AD.zero) 0 t94) fun b6_6=>AA ((AB AD (some b6_6) 0).map AV.strip) fun r6_6=>Q r6_6 S_5) (AA y10 fun _=>AA (AB AJ y10 6) fun t96=>AA (BJ AD 1 [(5,(AV.strip t96))]) fun t97=>AA (AK AD (some AD.zero) 0 t97) fun b6_7=>AA ((AB AD (some b6_7) 0).map AV.strip) fun r6_7=>Q r6_7 S_2)) (AA (AI .eql (AV.strip x8) (.int .i64 2)) fun t99=>ifK t99 (Ca Ey [(.int .i64 5)] S_2 fun t100 S_6=>AA (AK AD (some AD.zero) 0 t100) fun b6_8=>AA ((AB AD (some b6_8) 0).map AV.strip) fun r6_8=>Q r6_8 S_6) (AA y10 fun _=>AA (AB AN y10 4) fun t102=>AA y10 fun _=>AA (AB BB y10 5) fun t104=>AA (AB AN (some c5) 2) fun t106=>AA (AB AN (some c5) 3) fun t108=>AY Ca Lg [(AV.strip t102),(AV.strip t104),(AV.strip t106),(AV.strip t108)] S_2 fun t109 S_7=>AA (BJ AD 1 [(5,t109)]) fun t110=>AA (AK AD (some AD.zero) 0 t110) fun b6_9=>AA ((AB AD (some b6_9) 0).map AV.strip) fun r6_9=>Q r6_9 S_7))))) fun j_5=>AA (AB Af (some b7) 1) fun t56=>AA (Ap (AV.strip t56)) fun t57=>AA (AI .gtr t57 (.int .i64 0)) fun t58=>ifK t58 (AA (AB Af (some b7) 1) fun t60=>AA (AT AG (AV.strip t60) (.int .i64 0)) fun t61=>AA (AP AG S_2 t61) fun t62=>AA (AK AG (some AG.zero) 0 (AV.strip t62)) fun b10=>AA (AB AN (some b10) 0) fun t64=>AA (AB AN (some b10) 4) fun t66=>j_5 (AV.strip t64) (AV.strip t66) (some b10)) (j_5 (.int .i64 2) (.int .i64 0) (some AG.zero)))) fun j_6=>ifK (AV.strip t41) (j_6 (.tup [])) (AA (AB AN (some c5) 0) fun t44=>AA (AI .eql (AV.strip t44) (.int .i64 4)) fun t45=>j_6 t45))) fun j_3=>ifK (AV.strip (AV.strip t19)) (j_3 (.tup [])) (AA (AB AN (some c5) 0) fun t22=>AA (AI .eql (AV.strip t22) (.int .i64 4)) fun t23=>AL (fun (x32:AV)=>AA (AZ (AV.strip t23) x32 (.bool false)) fun t33=>j_3 (AV.strip t33)) fun j_2=>gK (AV.strip t23) (AA (AB AN (some c5) 2) fun t26=>AA (AI .lss (AV.strip t26) (.int .i64 0)) fun t27=>AL (fun (x31:AV)=>AA (AZ (AV.strip t27) (.bool true) x31) fun t32=>j_2 (AV.strip t32)) fun j=>gK (AV.strip t27) (j (.tup [])) (AA (AB AN (some c5) 3) fun t30=>AA (AI .lss (AV.strip t30) (.int .i64 0)) fun t31=>j t31) (j (.tup []))) (j_2 (.tup [])) (j_2 (.tup [])))) fun j_4=>ifK (AV.strip t14) (j_4 (.tup [])) (AA (AB AN (some c5) 0) fun t17=>AA (AI .gtr (AV.strip t17) (.int .i64 4)) fun t18=>j_4 t18)
theorem ba{w0 a0 a0r a1 a1r a2a a2b a2c a2d a2e a2f S0 Q}(h:UO (AO (En w0)) a0 a0r a1 a1r a2a a2b a2c a2d a2e a2f S0 Q):AC w0 Ou [(.vs 7 a0 a0r),(.vs 1 a1 a1r),(.agg [(.int .i64 a2a),(.str a2b),(.int .i64 a2c),(.int .i64 a2d),(.int .i64 a2e),(.str a2f)])] S0 Q:=Ae w0 Tryz.func33 h
def Tu(Ca:CaT)(a0a:List (List AV))(a0ar:Rt)(a0b a1:Int)(S0:St)(Q:QT):Prop:=AA (B9 AM (.agg [(.vs 2 a0a a0ar),(.int .i64 a0b)])) fun c2=>AA (AB AM (some c2) 0) fun t5=>Ca Lb [(.int .i64 a1)] S0 fun t7 S=>AA (BJ D5 1 [(0,(AV.strip t5)),(1,(.int .i64 0)),(2,t7)]) fun t8=>AA (B9 D5 t8) fun c9=>Q (.ptr S.length 0) (S++[Obj.cells c9 GR])
theorem aL{w0 a0a a0ar a0b a1 S0 Q}(h:Tu (AO (En w0)) a0a a0ar a0b a1 S0 Q):AC w0 O4 [(.agg [(.vs 2 a0a a0ar),(.int .i64 a0b)]),(.int .i64 a1)] S0 Q:=Ae w0 Tryz.func34 h
def Of(Ca:CaT)(a0a:Int)(a0b:Bool)(a0c:List (List AV))(a0cr:Rt)(a0d:List (List AV))(a0dr:Rt)(a0e:Int)(a0f:List (List AV))(a0fr:Rt)(a0g:List UInt8)(a1:Int)(a2:AV)(S0:St)(Q:QT):Prop:=AA (B9 AG (.agg [(.int .i64 a0a),(.bool a0b),(.vs 1 a0c a0cr),(.vs 7 a0d a0dr),(.int .i64 a0e),(.vs 2 a0f a0fr),(.str a0g)])) fun c3=>AA (KF (AV.strip a2)) fun t12=>AA (AP AN S0 t12) fun t13=>AA (AB AX (some c3) 2) fun t15=>AA (Ap (AV.strip t15)) fun t16=>AA (AI .add (.int .i64 1) t16) fun t17=>AA (AB BB (some c3) 5) fun t19=>AA (Ap (AV.strip t19)) fun t20=>AA (AI .add t17 t20) fun t21=>AA (AI .sub (AV.strip t13) t21) fun t22=>AA (KF (AV.strip a2)) fun t23=>AA (A8 AN S0 t23 t22) fun S=>AL (fun (S_4:St)=>AA (KF (AV.strip a2)) fun t41=>AA (AP AN S_4 t41) fun t42=>AA (AB AJ (some c3) 6) fun t44=>AA (Cb (AV.strip t44)) fun t45=>AA (AI .sub (AV.strip t42) t45) fun t46=>AA (KF (AV.strip a2)) fun t47=>AA (A8 AN S_4 t47 t46) fun S_5=>AA (KF (AV.strip a2)) fun t49=>AA (AP AN S_5 t49) fun t50=>AA (AI .lss (AV.strip t50) (.int .i64 0)) fun t51=>AL (fun (x54:AV)=>AA (AZ (AV.strip t51) (.bool true) x54) fun t55=>ifK (AV.strip t55) (Q (.bool false) S_5) (AL (fun (S_8:St)=>Q (.bool true) S_8) fun j_2=>AA (AB Af (some c3) 3) fun t57=>AA (Ap (AV.strip t57)) fun t58=>A5 ([(.int .i64 0)],[]) (fun v_2 bx_2=>([v_2 59],[])) (fun nx_2 v_2 bx_2 S_6=>AA (AI .lss (v_2 59) t58) fun t60=>ifK t60 (AA (AT AG (AV.strip t57) (v_2 59)) fun t61=>AA (AP AG S_6 t61) fun t62=>AA (AK AG (some AG.zero) 0 (AV.strip t62)) fun b10=>AA (AB AG (some b10) 0) fun t63=>AY Ca Hg [(AV.strip t63),(.int .i64 (IntKind.i64.wrap (a1 - 1))),(AV.strip a2)] S_6 fun t67 S_7=>AA (unA .not t67) fun t68=>ifK t68 (Q (.bool false) S_7) (AA (AI .add (v_2 59) (.int .i64 1)) fun t69=>nx_2 ([(AV.strip t69)],[]) S_7)) (j_2 S_6)) S_5)) fun j=>ifK (AV.strip t51) (j (.tup [])) (j (.bool (decide (a1 < 0))))) fun j_3=>AA (AB BB (some c3) 5) fun t25=>AA (Ap (AV.strip t25)) fun t26=>A5 ([(.int .i64 0)],[]) (fun v bx=>([v 27],[])) (fun nx v bx S_2=>AA (AI .lss (v 27) t26) fun t28=>ifK t28 (AA (AT Al (AV.strip t25) (v 27)) fun t29=>AA (AP Al S_2 t29) fun t30=>AA (AK Al (some [(.int .i64 0),(.str [])]) 0 (AV.strip t30)) fun b8=>AA (KF (AV.strip a2)) fun t32=>AA (AP AN S_2 t32) fun t33=>AA (AB AJ (some b8) 1) fun t35=>AA (Cb (AV.strip t35)) fun t36=>AA (AI .sub (AV.strip t33) t36) fun t37=>AA (KF (AV.strip a2)) fun t38=>AA (A8 AN S_2 t38 t37) fun S_3=>AA (AI .add (v 27) (.int .i64 1)) fun t39=>nx ([(AV.strip t39)],[]) S_3) (j_3 S_2)) S
theorem Tw{w0 a0a a0b a0c a0cr a0d a0dr a0e a0f a0fr a0g a1 a2 S0 Q}(h:Of (AO (En w0)) a0a a0b a0c a0cr a0d a0dr a0e a0f a0fr a0g a1 a2 S0 Q):AC w0 Hg [(.agg [(.int .i64 a0a),(.bool a0b),(.vs 1 a0c a0cr),(.vs 7 a0d a0dr),(.int .i64 a0e),(.vs 2 a0f a0fr),(.str a0g)]),(.int .i64 a1),a2] S0 Q:=Ae w0 Tryz.func35 h
def Sf(Ca:CaT)(a0a:Int)(a0b:Bool)(a0c:List (List AV))(a0cr:Rt)(a0d:List (List AV))(a0dr:Rt)(a0e:Int)(a0f:List (List AV))(a0fr:Rt)(a0g:List UInt8)(S0:St)(Q:QT):Prop:=AA (B9 AG (.agg [(.int .i64 a0a),(.bool a0b),(.vs 1 a0c a0cr),(.vs 7 a0d a0dr),(.int .i64 a0e),(.vs 2 a0f a0fr),(.str a0g)])) fun c1=>AL (fun (y1:Option (List AV)) (S_3:St)=>AA (AB AG y1 0) fun t18=>AY Ca NN [(AV.strip t18)] S_3 fun t19 S_4=>Q t19 S_4) fun j=>A5 ([(.int .i64 0)],[(some c1)]) (fun v bx=>([v 3],[bx 1])) (fun nx v bx S=>AA (bx 1) fun _=>AA (AB Af (bx 1) 3) fun t6=>AA (Ap (AV.strip t6)) fun t7=>AA (AI .lss (AV.strip (v 3)) t7) fun t8=>ifK t8 (AA (bx 1) fun _=>AA (AB Af (bx 1) 3) fun t12=>AA (AT AG (AV.strip t12) (AV.strip (v 3))) fun t14=>AA (AP AG S t14) fun t15=>AY Ca Ju [(AV.strip t15)] S fun t16 S_2=>AA (unA .not t16) fun t17=>ifK t17 (Q (.bool false) S_2) (AA (AI .add (AV.strip (v 3)) (.int .i64 1)) fun t10=>nx ([t10],[(bx 1)]) S_2)) (j (bx 1) S)) S0
theorem YK{w0 a0a a0b a0c a0cr a0d a0dr a0e a0f a0fr a0g S0 Q}(h:Sf (AO (En w0)) a0a a0b a0c a0cr a0d a0dr a0e a0f a0fr a0g S0 Q):AC w0 Ju [(.agg [(.int .i64 a0a),(.bool a0b),(.vs 1 a0c a0cr),(.vs 7 a0d a0dr),(.int .i64 a0e),(.vs 2 a0f a0fr),(.str a0g)])] S0 Q:=Ae w0 Tryz.func36 h
def Ob(Ca:CaT)(a0a:Int)(a0b:Bool)(a0c:List (List AV))(a0cr:Rt)(a0d:List (List AV))(a0dr:Rt)(a0e:Int)(a0f:List (List AV))(a0fr:Rt)(a0g:List UInt8)(S0:St)(Q:QT):Prop:=AA (B9 AG (.agg [(.int .i64 a0a),(.bool a0b),(.vs 1 a0c a0cr),(.vs 7 a0d a0dr),(.int .i64 a0e),(.vs 2 a0f a0fr),(.str a0g)])) fun c1=>AL (fun (x3:AV) (S_3:St)=>Q (AV.strip x3) S_3) fun j=>A5 ([(.int .i64 1),(.int .i64 0)],[(some c1)]) (fun v bx=>([v 3,v 4],[bx 1])) (fun nx v bx S=>AA (bx 1) fun _=>AA (AB Af (bx 1) 3) fun t7=>AA (Ap (AV.strip t7)) fun t8=>AA (AI .lss (AV.strip (v 4)) t8) fun t9=>ifK t9 (AA (bx 1) fun _=>AA (AB Af (bx 1) 3) fun t14=>AA (AT AG (AV.strip t14) (AV.strip (v 4))) fun t16=>AA (AP AG S t16) fun t17=>AY Ca Ha [(AV.strip t17)] S fun t18 S_2=>AA (AI .add (AV.strip (v 3)) t18) fun t19=>AA (AI .add (AV.strip (v 4)) (.int .i64 1)) fun t11=>nx ([t19,t11],[(bx 1)]) S_2) (j (v 3) S)) S0
theorem UI{w0 a0a a0b a0c a0cr a0d a0dr a0e a0f a0fr a0g S0 Q}(h:Ob (AO (En w0)) a0a a0b a0c a0cr a0d a0dr a0e a0f a0fr a0g S0 Q):AC w0 Ha [(.agg [(.int .i64 a0a),(.bool a0b),(.vs 1 a0c a0cr),(.vs 7 a0d a0dr),(.int .i64 a0e),(.vs 2 a0f a0fr),(.str a0g)])] S0 Q:=Ae w0 Tryz.func37 h
def OF(Ca:CaT)(a0a:Int)(a0b:Bool)(a0c:List (List AV))(a0cr:Rt)(a0d:List (List AV))(a0dr:Rt)(a0e:Int)(a0f:List (List AV))(a0fr:Rt)(a0g:List UInt8)(S0:St)(Q:QT):Prop:=AA (B9 AG (.agg [(.int .i64 a0a),(.bool a0b),(.vs 1 a0c a0cr),(.vs 7 a0d a0dr),(.int .i64 a0e),(.vs 2 a0f a0fr),(.str a0g)])) fun c1=>AL (fun (x3_2:AV) (S_4:St)=>Q (AV.strip x3_2) S_4) fun j_2=>A5 ([(.int .i64 0),(.int .i64 0)],[(some c1)]) (fun v bx=>([v 3,v 4],[bx 1])) (fun nx v bx S=>AA (bx 1) fun _=>AA (AB Af (bx 1) 3) fun t8=>AA (Ap (AV.strip t8)) fun t9=>AA (AI .lss (AV.strip (v 4)) t9) fun t10=>ifK t10 (AL (fun (x3:AV) (S_3:St)=>AA (AI .add (AV.strip (v 4)) (.int .i64 1)) fun t12=>nx ([x3,t12],[(bx 1)]) S_3) fun j=>AA (bx 1) fun _=>AA (AB Af (bx 1) 3) fun t14=>AA (AT AG (AV.strip t14) (AV.strip (v 4))) fun t16=>AA (AP AG S t16) fun t17=>AY Ca Hk [(AV.strip t17)] S fun t18 S_2=>AA (AI .add t18 (.int .i64 1)) fun t19=>AA (AI .gtr (AV.strip t19) (AV.strip (v 3))) fun t22=>ifK t22 (j (AV.strip t19) S_2) (j (v 3) S_2)) (j_2 (v 3) S)) S0
theorem Uv{w0 a0a a0b a0c a0cr a0d a0dr a0e a0f a0fr a0g S0 Q}(h:OF (AO (En w0)) a0a a0b a0c a0cr a0d a0dr a0e a0f a0fr a0g S0 Q):AC w0 Hk [(.agg [(.int .i64 a0a),(.bool a0b),(.vs 1 a0c a0cr),(.vs 7 a0d a0dr),(.int .i64 a0e),(.vs 2 a0f a0fr),(.str a0g)])] S0 Q:=Ae w0 Tryz.func38 h
def Pc(Ca:CaT)(a0a:Int)(a0b:Bool)(a0c:List (List AV))(a0cr:Rt)(a0d:List (List AV))(a0dr:Rt)(a0e:Int)(a0f:List (List AV))(a0fr:Rt)(a0g:List UInt8)(S0:St)(Q:QT):Prop:=AA (B9 AG (.agg [(.int .i64 a0a),(.bool a0b),(.vs 1 a0c a0cr),(.vs 7 a0d a0dr),(.int .i64 a0e),(.vs 2 a0f a0fr),(.str a0g)])) fun c1=>AA (AB AG (some c1) 0) fun t5=>AY Ca Ib [(AV.strip t5)] S0 fun t6 S=>AA (unA .not t6) fun t7=>ifK t7 (Q (.tup [.nil,(.int .i64 1)]) S) (AA (B9 F1 (.agg [(.vs 8 [] .nil)])) fun c9=>AA (AB AG (some c1) 0) fun t11=>AY Ca EI [(.ptr S.length 0),(AV.strip t11)] (S++[Obj.cells c9 B4]) fun t12 S_2=>Q (.tup [(.ptr S.length 0),(.int .i64 0)]) S_2)
theorem V6{w0 a0a a0b a0c a0cr a0d a0dr a0e a0f a0fr a0g S0 Q}(h:Pc (AO (En w0)) a0a a0b a0c a0cr a0d a0dr a0e a0f a0fr a0g S0 Q):AC w0 IW [(.agg [(.int .i64 a0a),(.bool a0b),(.vs 1 a0c a0cr),(.vs 7 a0d a0dr),(.int .i64 a0e),(.vs 2 a0f a0fr),(.str a0g)])] S0 Q:=Ae w0 Tryz.func39 h
def Jf(Ca:CaT)(a0a:List (List AV))(a0ar:Rt)(a0b:Int)(a1:AV)(S0:St)(Q:QT):Prop:=AA (B9 AM (.agg [(.vs 2 a0a a0ar),(.int .i64 a0b)])) fun c2=>AA (AB Bb (some c2) 0) fun t8=>AA (Ap (AV.strip t8)) fun t9=>AA (AI .geq t9 (.int .i64 64)) fun t10=>ifK t10 (AA (AB AM (some c2) 0) fun t11=>AA (AK AM (some [(.vs 2 [] .nil),(.int .i64 0)]) 0 (AV.strip t11)) fun b4=>AA ((AB AM (some b4) 0).map AV.strip) fun r4=>Q (.tup [(AV.flat r4),(.int .i64 0),(.int .i64 6)]) S0) (AA (AB AN (some c2) 1) fun t13=>AA (BJ B7 1 [(0,(AV.strip t13)),(1,(AV.strip a1))]) fun t15=>AA (BE 2 [t15]) fun e16=>AA (AB Bb (some c2) 0) fun t18=>AA (AB AN (some c2) 1) fun t21=>AA (AI .add (AV.strip t21) (.int .i64 1)) fun t22=>AA (AB AN (some c2) 1) fun t25=>AA (AU B7 S0 (.vs 2 e16 .full) (AV.strip t18)) fun t19=>AA (BJ AM 1 [(0,t19),(1,t22)]) fun t23=>AA (AK AM (some [(.vs 2 [] .nil),(.int .i64 0)]) 0 t23) fun b4_2=>AA ((AB AM (some b4_2) 0).map AV.strip) fun r4_2=>Q (.tup [(AV.flat r4_2),(AV.flat (AV.strip t25)),(.int .i64 0)]) S0)
theorem O3{w0 a0a a0ar a0b a1 S0 Q}(h:Jf (AO (En w0)) a0a a0ar a0b a1 S0 Q):AC w0 FF [(.agg [(.vs 2 a0a a0ar),(.int .i64 a0b)]),a1] S0 Q:=Ae w0 Tryz.func40 h
end Go.Av
