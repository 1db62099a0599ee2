/- Parts of the proofs of this seat: abstract values over the model, and what the functions of the program do. No condition. -/
import Derived.Test.YtjkffbaienbmkaaGreatDoorM8
import Derived.Test.YtjkffbaienbmkaaGreatDoorM7
import Derived.Test.YtjkffbaienbmkaaGreatDoorProg
import Derived.KernelRfl
set_option linter.all false
set_option maxRecDepth 100000
namespace Go.Av
open Go.Proofs
abbrev EV:Nat:=3
abbrev TD:Nat:=5
abbrev Dj:Nat:=9
abbrev H6:Nat:=40
abbrev Na:Nat:=42
abbrev I5:Nat:=53
abbrev Rk:Nat:=77
abbrev Xm:Nat:=87
abbrev ID:Nat:=96
abbrev Nt:Nat:=127
abbrev EJ:Nat:=186
abbrev DL:Nat:=197
abbrev Ck:Nat:=240
abbrev JB:Nat:=247
abbrev DA:Nat:=288
abbrev Hs:Nat:=303
abbrev Vn:Nat:=317
abbrev Bj:Nat:=327
abbrev Cw:Nat:=345
abbrev Dh:Nat:=350
abbrev Vl:Nat:=352
abbrev DQ:Nat:=358
abbrev F_top_WholeCalls:Nat:=10
abbrev JU:Nat:=16
abbrev G6:Nat:=17
abbrev Lw:Nat:=19
abbrev Ld:Nat:=28
abbrev HR:Nat:=29
abbrev Hm:Nat:=32
abbrev BW:Nat:=33
abbrev EN:Nat:=35
abbrev EZ:Nat:=37
abbrev Ep:Nat:=38
abbrev DV:Nat:=40
abbrev F_top_one:Nat:=47
abbrev F_call_Hex:Nat:=48
abbrev F_ref19_Only:Nat:=49
abbrev F_call_Parse:Nat:=50
abbrev F_call_Text:Nat:=51
abbrev F_call_Show:Nat:=52
abbrev F_ref19_Show:Nat:=53
abbrev Nq:Nat:=54
abbrev Rn:Nat:=55
abbrev Pc:Nat:=58
abbrev I4:Nat:=61
abbrev G9:Nat:=62
abbrev Rl:Nat:=63
abbrev F8:Nat:=64
abbrev GP:Nat:=65
abbrev Fi:Nat:=66
abbrev Ok:Nat:=67
abbrev Da:Nat:=68
abbrev Ec:Nat:=69
abbrev KD:Nat:=76
abbrev PL:Nat:=81
abbrev Nv:Nat:=83
abbrev JE:Nat:=91
abbrev E6:Nat:=92
abbrev GQ:Nat:=93
abbrev MD:Nat:=94
abbrev Gl:Nat:=95
abbrev RD:Nat:=96
abbrev GL:Nat:=97
abbrev EU:Nat:=98
abbrev Gp:Nat:=99
abbrev Eu:Nat:=100
abbrev F_strings_Builder_WriteByte:Nat:=107
abbrev G8:Nat:=108
abbrev F_strings_Cut:Nat:=109
abbrev F_strings_Contains:Nat:=110
abbrev F_call_names:Nat:=111
abbrev F_call_numbers:Nat:=112
abbrev F_call_Number:Nat:=113
abbrev F_call_Bytes:Nat:=114
abbrev F_strconv_Itoa:Nat:=115
abbrev F_ref19_Num:Nat:=116
abbrev F_ref19_Hex:Nat:=117
abbrev KM:Nat:=118
abbrev F9:Nat:=119
abbrev B9:Nat:=120
abbrev DS:Nat:=121
abbrev Ee:Nat:=124
abbrev JC:Nat:=127
abbrev Lr:Nat:=128
abbrev JA:Nat:=129
abbrev I7:Nat:=130
abbrev H5:Nat:=131
abbrev FZ:Nat:=132
abbrev HV:Nat:=133
abbrev J5:Nat:=134
abbrev E7:Nat:=135
abbrev E8:Nat:=136
abbrev Cr:Nat:=137
abbrev Fx:Nat:=140
abbrev Nu:Nat:=146
abbrev PD:Nat:=149
abbrev No:Nat:=154
abbrev Gm:Nat:=155
abbrev L8:Nat:=156
abbrev K5:Nat:=157
abbrev Rc:Nat:=158
abbrev E9:Nat:=159
abbrev Jg:Nat:=160
abbrev Ks:Nat:=161
abbrev Ce:Nat:=162
abbrev Ed:Nat:=163
abbrev Ds:Nat:=164
abbrev D1:Nat:=165
abbrev GD:Nat:=168
abbrev F_strings_SplitN:Nat:=171
abbrev F_strconv_Atoi:Nat:=172
abbrev F_strings_IndexByte:Nat:=173
abbrev F_ref19_digit:Nat:=175
abbrev J8:Nat:=176
abbrev FH:Nat:=177
abbrev PY:Nat:=183
abbrev N7:Nat:=184
abbrev KN:Nat:=185
abbrev DC:Nat:=186
abbrev I6:Nat:=189
abbrev J3:Nat:=191
abbrev F3:Nat:=196
abbrev NH:Nat:=197
abbrev J0:Nat:=198
abbrev VB:Nat:=203
abbrev FI:Nat:=204
abbrev Ko:Nat:=205
abbrev Il:Nat:=206
abbrev GW:Nat:=207
abbrev GH:Nat:=208
abbrev KA:Nat:=218
abbrev C7:Nat:=219
abbrev MI:Nat:=222
abbrev Jf:Nat:=223
abbrev Ib:Nat:=224
abbrev H0:Nat:=225
abbrev F4:Nat:=226
abbrev Ch:Nat:=229
abbrev NN:Nat:=230
abbrev FL:Nat:=231
abbrev O9:Nat:=232
abbrev Ot:Nat:=233
abbrev Cb:Nat:=235
abbrev EY:Nat:=236
abbrev L5:Nat:=237
abbrev O5:Nat:=254
abbrev KZ:Nat:=255
abbrev Ni:Nat:=256
abbrev HK:Nat:=260
abbrev IB:Nat:=263
abbrev Xh:Nat:=264
abbrev Fl:Nat:=265
abbrev HQ:Nat:=266
abbrev D0:Nat:=267
abbrev Co:Nat:=268
abbrev Io:Nat:=269
abbrev GC:Nat:=328
abbrev Gf:Nat:=329
abbrev GF:Nat:=330
def YF:TI:={size:=1,bytes:=8,agg:=false,zero:=[.nilfn],kind:=.func,id:=1}
@[simp] theorem pn:YF.size=1:=rfl
@[simp] theorem sJ:YF.agg=false∧YF.zero=[.nilfn]∧YF.kind= .func:=⟨rfl,rfl,rfl⟩
def Th:TI:={size:=1,bytes:=8,agg:=false,zero:=[.int .i64 0],kind:=.int .i64,id:=2}
@[simp] theorem pA:Th.size=1:=rfl
@[simp] theorem rj:Th.agg=false∧Th.zero=[.int .i64 0]∧Th.kind= .int .i64:=⟨rfl,rfl,rfl⟩
def AN:TI:={size:=1,bytes:=8,agg:=false,zero:=[.int .i64 0],kind:=.int .i64,id:=3}
@[simp] theorem qs:AN.size=1:=rfl
@[simp] theorem tX:AN.agg=false∧AN.zero=[.int .i64 0]∧AN.kind= .int .i64:=⟨rfl,rfl,rfl⟩
@[simp] theorem tJ:AN.id=EV:=rfl
def Dg:TI:={size:=1,bytes:=1,agg:=false,zero:=[.bool false],kind:=.bool,id:=4}
@[simp] theorem po:Dg.size=1:=rfl
@[simp] theorem sI:Dg.agg=false∧Dg.zero=[.bool false]∧Dg.kind= .bool:=⟨rfl,rfl,rfl⟩
def HG:TI:={size:=1,bytes:=1,agg:=false,zero:=[.int .u8 0],kind:=.int .u8,id:=5}
@[simp] theorem o0:HG.size=1:=rfl
@[simp] theorem rK:HG.agg=false∧HG.zero=[.int .u8 0]∧HG.kind= .int .u8:=⟨rfl,rfl,rfl⟩
@[simp] theorem qx:HG.id=TD:=rfl
def Dv:TI:={size:=1,bytes:=1,agg:=false,zero:=[.int .u8 0],kind:=.int .u8,id:=6}
@[simp] theorem Xx:Dv.size=1:=rfl
@[simp] theorem ah:Dv.agg=false∧Dv.zero=[.int .u8 0]∧Dv.kind= .int .u8:=⟨rfl,rfl,rfl⟩
def A0:TI:={size:=4,bytes:=24,agg:=true,zero:=[.int .i64 0,.int .i64 0,.bool false,.int .u8 0],kind:=.struct [(0,2,1),(1,3,1),(2,4,1),(3,6,1)],id:=7}
@[simp] theorem Hb:A0.size=4:=rfl
@[simp] theorem IQ:A0.agg=true∧A0.zero=[.int .i64 0,.int .i64 0,.bool false,.int .u8 0]∧A0.kind= .struct [(0,2,1),(1,3,1),(2,4,1),(3,6,1)]:=⟨rfl,rfl,rfl⟩
def Dw:TI:={size:=4,bytes:=24,agg:=true,zero:=[.int .i64 0,.int .i64 0,.bool false,.int .u8 0],kind:=.struct [(0,2,1),(1,3,1),(2,4,1),(3,6,1)],id:=8}
@[simp] theorem Xg:Dw.size=4:=rfl
@[simp] theorem aL:Dw.agg=true∧Dw.zero=[.int .i64 0,.int .i64 0,.bool false,.int .u8 0]∧Dw.kind= .struct [(0,2,1),(1,3,1),(2,4,1),(3,6,1)]:=⟨rfl,rfl,rfl⟩
def AG:TI:={size:=1,bytes:=16,agg:=false,zero:=[.str []],kind:=.str,id:=9}
@[simp] theorem nY:AG.size=1:=rfl
@[simp] theorem qe:AG.agg=false∧AG.zero=[.str []]∧AG.kind= .str:=⟨rfl,rfl,rfl⟩
@[simp] theorem p5:AG.id=Dj:=rfl
def Du:TI:={size:=1,bytes:=16,agg:=false,zero:=[.str []],kind:=.str,id:=10}
@[simp] theorem Wu:Du.size=1:=rfl
@[simp] theorem aE:Du.agg=false∧Du.zero=[.str []]∧Du.kind= .str:=⟨rfl,rfl,rfl⟩
def M2:TI:={size:=1,bytes:=8,agg:=false,zero:=[.int .u64 0],kind:=.int .u64,id:=12}
@[simp] theorem mh:M2.size=1:=rfl
@[simp] theorem pe:M2.agg=false∧M2.zero=[.int .u64 0]∧M2.kind= .int .u64:=⟨rfl,rfl,rfl⟩
def DG:TI:={size:=1,bytes:=8,agg:=false,zero:=[.nil],kind:=.ptr 431,id:=16}
@[simp] theorem Ut:DG.size=1:=rfl
@[simp] theorem Wb:DG.agg=false∧DG.zero=[.nil]∧DG.kind= .ptr 431:=⟨rfl,rfl,rfl⟩
def Hn:TI:={size:=1,bytes:=8,agg:=false,zero:=[.nil],kind:=.ptr 438,id:=17}
@[simp] theorem jW:Hn.size=1:=rfl
@[simp] theorem mO:Hn.agg=false∧Hn.zero=[.nil]∧Hn.kind= .ptr 438:=⟨rfl,rfl,rfl⟩
def DY:TI:={size:=1,bytes:=8,agg:=true,zero:=[.nil],kind:=.struct [(0,17,1)],id:=18}
@[simp] theorem WB:DY.size=1:=rfl
@[simp] theorem Ye:DY.agg=true∧DY.zero=[.nil]∧DY.kind= .struct [(0,17,1)]:=⟨rfl,rfl,rfl⟩
def JS:TI:={size:=1,bytes:=16,agg:=false,zero:=[.nilifc],kind:=.iface,id:=20}
@[simp] theorem lK:JS.size=1:=rfl
@[simp] theorem nc:JS.agg=false∧JS.zero=[.nilifc]∧JS.kind= .iface:=⟨rfl,rfl,rfl⟩
def Tx:TI:={size:=1,bytes:=4,agg:=false,zero:=[.int .i32 0],kind:=.int .i32,id:=21}
@[simp] theorem oA:Tx.size=1:=rfl
@[simp] theorem rb:Tx.agg=false∧Tx.zero=[.int .i32 0]∧Tx.kind= .int .i32:=⟨rfl,rfl,rfl⟩
def Eb:TI:={size:=1,bytes:=24,agg:=false,zero:=[.vs 4 [] .nil],kind:=.slice 33,id:=22}
@[simp] theorem ZG:Eb.size=1:=rfl
@[simp] theorem dI:Eb.agg=false∧Eb.zero=[.vs 4 [] .nil]∧Eb.kind= .slice 33:=⟨rfl,rfl,rfl⟩
def JL:TI:={size:=1,bytes:=8,agg:=false,zero:=[.nilfn],kind:=.func,id:=23}
@[simp] theorem jz:JL.size=1:=rfl
@[simp] theorem n8:JL.agg=false∧JL.zero=[.nilfn]∧JL.kind= .func:=⟨rfl,rfl,rfl⟩
def CA:TI:={size:=1,bytes:=24,agg:=false,zero:=[.vs 2 [] .nil],kind:=.slice 247,id:=24}
@[simp] theorem eL:CA.size=1:=rfl
@[simp] theorem jo:CA.agg=false∧CA.zero=[.vs 2 [] .nil]∧CA.kind= .slice 247:=⟨rfl,rfl,rfl⟩
def CH:TI:={size:=2,bytes:=32,agg:=true,zero:=[.vs 2 [] .nil,.int .i64 0],kind:=.struct [(0,24,1),(1,3,1)],id:=25}
@[simp] theorem PF:CH.size=2:=rfl
@[simp] theorem Qs:CH.agg=true∧CH.zero=[.vs 2 [] .nil,.int .i64 0]∧CH.kind= .struct [(0,24,1),(1,3,1)]:=⟨rfl,rfl,rfl⟩
def AK:TI:={size:=2,bytes:=32,agg:=true,zero:=[.vs 2 [] .nil,.int .i64 0],kind:=.struct [(0,24,1),(1,3,1)],id:=26}
@[simp] theorem g9:AK.size=2:=rfl
@[simp] theorem ll:AK.agg=true∧AK.zero=[.vs 2 [] .nil,.int .i64 0]∧AK.kind= .struct [(0,24,1),(1,3,1)]:=⟨rfl,rfl,rfl⟩
def E5:TI:={size:=1,bytes:=8,agg:=false,zero:=[.nil],kind:=.ptr 142,id:=27}
@[simp] theorem bH:E5.size=1:=rfl
@[simp] theorem fe:E5.agg=false∧E5.zero=[.nil]∧E5.kind= .ptr 142:=⟨rfl,rfl,rfl⟩
def Bi:TI:={size:=3,bytes:=24,agg:=true,zero:=[.int .i64 0,.int .i64 0,.int .i64 0],kind:=.struct [(0,3,1),(1,3,1),(2,3,1)],id:=29}
@[simp] theorem MW:Bi.size=3:=rfl
@[simp] theorem NV:Bi.agg=true∧Bi.zero=[.int .i64 0,.int .i64 0,.int .i64 0]∧Bi.kind= .struct [(0,3,1),(1,3,1),(2,3,1)]:=⟨rfl,rfl,rfl⟩
def Fu:TI:={size:=3,bytes:=24,agg:=true,zero:=[.int .i64 0,.int .i64 0,.int .i64 0],kind:=.struct [(0,3,1),(1,3,1),(2,3,1)],id:=30}
@[simp] theorem fE:Fu.size=3:=rfl
@[simp] theorem jg:Fu.agg=true∧Fu.zero=[.int .i64 0,.int .i64 0,.int .i64 0]∧Fu.kind= .struct [(0,3,1),(1,3,1),(2,3,1)]:=⟨rfl,rfl,rfl⟩
def Dy:TI:={size:=1,bytes:=8,agg:=false,zero:=[.map none],kind:=.map 35 3,id:=31}
@[simp] theorem X2:Dy.size=1:=rfl
@[simp] theorem aN:Dy.agg=false∧Dy.zero=[.map none]∧Dy.kind= .map 35 3:=⟨rfl,rfl,rfl⟩
def BG:TI:={size:=4,bytes:=4,agg:=true,zero:=[.bool false,.bool false,.int .u8 0,.int .u8 0],kind:=.struct [(0,4,1),(1,4,1),(2,5,1),(3,5,1)],id:=32}
@[simp] theorem Jc:BG.size=4:=rfl
@[simp] theorem KE:BG.agg=true∧BG.zero=[.bool false,.bool false,.int .u8 0,.int .u8 0]∧BG.kind= .struct [(0,4,1),(1,4,1),(2,5,1),(3,5,1)]:=⟨rfl,rfl,rfl⟩
def E1:TI:={size:=4,bytes:=4,agg:=true,zero:=[.bool false,.bool false,.int .u8 0,.int .u8 0],kind:=.struct [(0,4,1),(1,4,1),(2,5,1),(3,5,1)],id:=33}
@[simp] theorem cU:E1.size=4:=rfl
@[simp] theorem fg:E1.agg=true∧E1.zero=[.bool false,.bool false,.int .u8 0,.int .u8 0]∧E1.kind= .struct [(0,4,1),(1,4,1),(2,5,1),(3,5,1)]:=⟨rfl,rfl,rfl⟩
def Cn:TI:={size:=2,bytes:=16,agg:=true,zero:=[.bool false,.int .i64 0],kind:=.struct [(0,4,1),(1,3,1)],id:=34}
@[simp] theorem RH:Cn.size=2:=rfl
@[simp] theorem UN:Cn.agg=true∧Cn.zero=[.bool false,.int .i64 0]∧Cn.kind= .struct [(0,4,1),(1,3,1)]:=⟨rfl,rfl,rfl⟩
def Gv:TI:={size:=2,bytes:=16,agg:=true,zero:=[.bool false,.int .i64 0],kind:=.struct [(0,4,1),(1,3,1)],id:=35}
@[simp] theorem g7:Gv.size=2:=rfl
@[simp] theorem ls:Gv.agg=true∧Gv.zero=[.bool false,.int .i64 0]∧Gv.kind= .struct [(0,4,1),(1,3,1)]:=⟨rfl,rfl,rfl⟩
def Ad:TI:={size:=1,bytes:=24,agg:=false,zero:=[.vs 7 [] .nil],kind:=.slice 127,id:=40}
@[simp] theorem jR:Ad.size=1:=rfl
@[simp] theorem mz:Ad.agg=false∧Ad.zero=[.vs 7 [] .nil]∧Ad.kind= .slice 127:=⟨rfl,rfl,rfl⟩
@[simp] theorem lx:Ad.id=H6:=rfl
def GY:TI:={size:=2,bytes:=48,agg:=true,zero:=[.vs 7 [] .nil,.vs 7 [] .nil],kind:=.array 2 40,id:=41}
@[simp] theorem fm:GY.size=2:=rfl
@[simp] theorem lS:GY.agg=true∧GY.zero=[.vs 7 [] .nil,.vs 7 [] .nil]∧GY.kind= .array 2 40:=⟨rfl,rfl,rfl⟩
def AX:TI:={size:=1,bytes:=24,agg:=false,zero:=[.vs 1 [] .nil],kind:=.slice 9,id:=42}
@[simp] theorem lh:AX.size=1:=rfl
@[simp] theorem pI:AX.agg=false∧AX.zero=[.vs 1 [] .nil]∧AX.kind= .slice 9:=⟨rfl,rfl,rfl⟩
@[simp] theorem nj:AX.id=Na:=rfl
def Cz:TI:={size:=2,bytes:=16,agg:=true,zero:=[.int .i64 0,.int .i64 0],kind:=.struct [(0,3,1),(1,3,1)],id:=46}
@[simp] theorem SF:Cz.size=2:=rfl
@[simp] theorem U8:Cz.agg=true∧Cz.zero=[.int .i64 0,.int .i64 0]∧Cz.kind= .struct [(0,3,1),(1,3,1)]:=⟨rfl,rfl,rfl⟩
def Bf:TI:={size:=2,bytes:=16,agg:=true,zero:=[.int .i64 0,.int .i64 0],kind:=.struct [(0,3,1),(1,3,1)],id:=47}
@[simp] theorem kj:Bf.size=2:=rfl
@[simp] theorem nt:Bf.agg=true∧Bf.zero=[.int .i64 0,.int .i64 0]∧Bf.kind= .struct [(0,3,1),(1,3,1)]:=⟨rfl,rfl,rfl⟩
def Gy:TI:={size:=1,bytes:=24,agg:=false,zero:=[.vs 2 [] .nil],kind:=.slice 47,id:=48}
@[simp] theorem ix:Gy.size=1:=rfl
@[simp] theorem lp:Gy.agg=false∧Gy.zero=[.vs 2 [] .nil]∧Gy.kind= .slice 47:=⟨rfl,rfl,rfl⟩
def DD:TI:={size:=1,bytes:=24,agg:=false,zero:=[.vs 2 [] .nil],kind:=.slice 47,id:=49}
@[simp] theorem jl:DD.size=1:=rfl
@[simp] theorem m7:DD.agg=false∧DD.zero=[.vs 2 [] .nil]∧DD.kind= .slice 47:=⟨rfl,rfl,rfl⟩
def Ba:TI:={size:=4,bytes:=48,agg:=true,zero:=[.int .i64 0,.int .i64 0,.int .i64 0,.vs 2 [] .nil],kind:=.struct [(0,3,1),(1,47,2),(3,49,1)],id:=50}
@[simp] theorem LM:Ba.size=4:=rfl
@[simp] theorem MT:Ba.agg=true∧Ba.zero=[.int .i64 0,.int .i64 0,.int .i64 0,.vs 2 [] .nil]∧Ba.kind= .struct [(0,3,1),(1,47,2),(3,49,1)]:=⟨rfl,rfl,rfl⟩
def Bu:TI:={size:=4,bytes:=48,agg:=true,zero:=[.int .i64 0,.int .i64 0,.int .i64 0,.vs 2 [] .nil],kind:=.struct [(0,3,1),(1,47,2),(3,49,1)],id:=51}
@[simp] theorem jD:Bu.size=4:=rfl
@[simp] theorem nD:Bu.agg=true∧Bu.zero=[.int .i64 0,.int .i64 0,.int .i64 0,.vs 2 [] .nil]∧Bu.kind= .struct [(0,3,1),(1,47,2),(3,49,1)]:=⟨rfl,rfl,rfl⟩
def CX:TI:={size:=5,bytes:=64,agg:=true,zero:=[.str [],.int .i64 0,.int .i64 0,.int .i64 0,.vs 2 [] .nil],kind:=.struct [(0,9,1),(1,51,4)],id:=52}
@[simp] theorem QO:CX.size=5:=rfl
@[simp] theorem R7:CX.agg=true∧CX.zero=[.str [],.int .i64 0,.int .i64 0,.int .i64 0,.vs 2 [] .nil]∧CX.kind= .struct [(0,9,1),(1,51,4)]:=⟨rfl,rfl,rfl⟩
def Aj:TI:={size:=5,bytes:=64,agg:=true,zero:=[.str [],.int .i64 0,.int .i64 0,.int .i64 0,.vs 2 [] .nil],kind:=.struct [(0,9,1),(1,51,4)],id:=53}
@[simp] theorem gM:Aj.size=5:=rfl
@[simp] theorem lU:Aj.agg=true∧Aj.zero=[.str [],.int .i64 0,.int .i64 0,.int .i64 0,.vs 2 [] .nil]∧Aj.kind= .struct [(0,9,1),(1,51,4)]:=⟨rfl,rfl,rfl⟩
@[simp] theorem kJ:Aj.id=I5:=rfl
def C1:TI:={size:=1,bytes:=8,agg:=false,zero:=[.int .i64 0],kind:=.int .i64,id:=54}
@[simp] theorem ky:C1.size=1:=rfl
@[simp] theorem nu:C1.agg=false∧C1.zero=[.int .i64 0]∧C1.kind= .int .i64:=⟨rfl,rfl,rfl⟩
def Ap:TI:={size:=1,bytes:=8,agg:=false,zero:=[.nilfn],kind:=.func,id:=56}
@[simp] theorem Hk:Ap.size=1:=rfl
@[simp] theorem IG:Ap.agg=false∧Ap.zero=[.nilfn]∧Ap.kind= .func:=⟨rfl,rfl,rfl⟩
def BJ:TI:={size:=3,bytes:=48,agg:=true,zero:=[.vs 7 [] .nil,.str [],.bool false],kind:=.struct [(0,40,1),(1,9,1),(2,4,1)],id:=61}
@[simp] theorem Jh:BJ.size=3:=rfl
@[simp] theorem KT:BJ.agg=true∧BJ.zero=[.vs 7 [] .nil,.str [],.bool false]∧BJ.kind= .struct [(0,40,1),(1,9,1),(2,4,1)]:=⟨rfl,rfl,rfl⟩
def Et:TI:={size:=3,bytes:=48,agg:=true,zero:=[.vs 7 [] .nil,.str [],.bool false],kind:=.struct [(0,40,1),(1,9,1),(2,4,1)],id:=62}
@[simp] theorem aS:Et.size=3:=rfl
@[simp] theorem eb:Et.agg=true∧Et.zero=[.vs 7 [] .nil,.str [],.bool false]∧Et.kind= .struct [(0,40,1),(1,9,1),(2,4,1)]:=⟨rfl,rfl,rfl⟩
def Dx:TI:={size:=1,bytes:=24,agg:=false,zero:=[.vs 2 [] .nil],kind:=.slice 71,id:=63}
@[simp] theorem YO:Dx.size=1:=rfl
@[simp] theorem Z1:Dx.agg=false∧Dx.zero=[.vs 2 [] .nil]∧Dx.kind= .slice 71:=⟨rfl,rfl,rfl⟩
def Fp:TI:={size:=1,bytes:=24,agg:=false,zero:=[.vs 2 [] .nil],kind:=.slice 70,id:=67}
@[simp] theorem dv:Fp.size=1:=rfl
@[simp] theorem jC:Fp.agg=false∧Fp.zero=[.vs 2 [] .nil]∧Fp.kind= .slice 70:=⟨rfl,rfl,rfl⟩
def Cp:TI:={size:=2,bytes:=24,agg:=true,zero:=[.str [],.int .i64 0],kind:=.struct [(0,9,1),(1,3,1)],id:=69}
@[simp] theorem RY:Cp.size=2:=rfl
@[simp] theorem UL:Cp.agg=true∧Cp.zero=[.str [],.int .i64 0]∧Cp.kind= .struct [(0,9,1),(1,3,1)]:=⟨rfl,rfl,rfl⟩
def Bn:TI:={size:=2,bytes:=24,agg:=true,zero:=[.str [],.int .i64 0],kind:=.struct [(0,9,1),(1,3,1)],id:=70}
@[simp] theorem gX:Bn.size=2:=rfl
@[simp] theorem lw:Bn.agg=true∧Bn.zero=[.str [],.int .i64 0]∧Bn.kind= .struct [(0,9,1),(1,3,1)]:=⟨rfl,rfl,rfl⟩
def Bm:TI:={size:=2,bytes:=24,agg:=true,zero:=[.str [],.int .i64 0],kind:=.struct [(0,9,1),(1,3,1)],id:=71}
@[simp] theorem Zl:Bm.size=2:=rfl
@[simp] theorem dH:Bm.agg=true∧Bm.zero=[.str [],.int .i64 0]∧Bm.kind= .struct [(0,9,1),(1,3,1)]:=⟨rfl,rfl,rfl⟩
def Iy:TI:={size:=1,bytes:=24,agg:=false,zero:=[.vs 6 [] .nil],kind:=.slice 87,id:=77}
@[simp] theorem lu:Iy.size=1:=rfl
@[simp] theorem oc:Iy.agg=false∧Iy.zero=[.vs 6 [] .nil]∧Iy.kind= .slice 87:=⟨rfl,rfl,rfl⟩
@[simp] theorem np:Iy.id=Rk:=rfl
def GV:TI:={size:=1,bytes:=8,agg:=false,zero:=[.nil],kind:=.ptr 96,id:=79}
@[simp] theorem fp:GV.size=1:=rfl
@[simp] theorem j9:GV.agg=false∧GV.zero=[.nil]∧GV.kind= .ptr 96:=⟨rfl,rfl,rfl⟩
def B7:TI:={size:=1,bytes:=8,agg:=false,zero:=[.nilfn],kind:=.func,id:=80}
@[simp] theorem OX:B7.size=1:=rfl
@[simp] theorem Pq:B7.agg=false∧B7.zero=[.nilfn]∧B7.kind= .func:=⟨rfl,rfl,rfl⟩
def Fh:TI:={size:=1,bytes:=24,agg:=false,zero:=[.vs 1 [] .nil],kind:=.slice 3,id:=81}
@[simp] theorem og:Fh.size=1:=rfl
@[simp] theorem rP:Fh.agg=false∧Fh.zero=[.vs 1 [] .nil]∧Fh.kind= .slice 3:=⟨rfl,rfl,rfl⟩
def As:TI:={size:=1,bytes:=24,agg:=false,zero:=[.vs 4 [] .nil],kind:=.slice 171,id:=82}
@[simp] theorem Yd:As.size=1:=rfl
@[simp] theorem cb:As.agg=false∧As.zero=[.vs 4 [] .nil]∧As.kind= .slice 171:=⟨rfl,rfl,rfl⟩
def Ay:TI:={size:=7,bytes:=104,agg:=true,zero:=[.vs 7 [] .nil,.vs 1 [] .nil,.int .i64 0,.int .i64 0,.int .i64 0,.vs 4 [] .nil,.int .i64 0],kind:=.struct [(0,40,1),(1,81,1),(2,3,1),(3,3,1),(4,3,1),(5,82,1),(6,3,1)],id:=83}
@[simp] theorem Hh:Ay.size=7:=rfl
@[simp] theorem IJ:Ay.agg=true∧Ay.zero=[.vs 7 [] .nil,.vs 1 [] .nil,.int .i64 0,.int .i64 0,.int .i64 0,.vs 4 [] .nil,.int .i64 0]∧Ay.kind= .struct [(0,40,1),(1,81,1),(2,3,1),(3,3,1),(4,3,1),(5,82,1),(6,3,1)]:=⟨rfl,rfl,rfl⟩
def AE:TI:={size:=7,bytes:=104,agg:=true,zero:=[.vs 7 [] .nil,.vs 1 [] .nil,.int .i64 0,.int .i64 0,.int .i64 0,.vs 4 [] .nil,.int .i64 0],kind:=.struct [(0,40,1),(1,81,1),(2,3,1),(3,3,1),(4,3,1),(5,82,1),(6,3,1)],id:=84}
@[simp] theorem Yx:AE.size=7:=rfl
@[simp] theorem cz:AE.agg=true∧AE.zero=[.vs 7 [] .nil,.vs 1 [] .nil,.int .i64 0,.int .i64 0,.int .i64 0,.vs 4 [] .nil,.int .i64 0]∧AE.kind= .struct [(0,40,1),(1,81,1),(2,3,1),(3,3,1),(4,3,1),(5,82,1),(6,3,1)]:=⟨rfl,rfl,rfl⟩
def Ao:TI:={size:=6,bytes:=64,agg:=true,zero:=[.int .i64 0,.str [],.int .i64 0,.int .i64 0,.int .i64 0,.str []],kind:=.struct [(0,3,1),(1,9,1),(2,3,1),(3,3,1),(4,3,1),(5,9,1)],id:=86}
@[simp] theorem Hl:Ao.size=6:=rfl
@[simp] theorem IH:Ao.agg=true∧Ao.zero=[.int .i64 0,.str [],.int .i64 0,.int .i64 0,.int .i64 0,.str []]∧Ao.kind= .struct [(0,3,1),(1,9,1),(2,3,1),(3,3,1),(4,3,1),(5,9,1)]:=⟨rfl,rfl,rfl⟩
def BQ:TI:={size:=6,bytes:=64,agg:=true,zero:=[.int .i64 0,.str [],.int .i64 0,.int .i64 0,.int .i64 0,.str []],kind:=.struct [(0,3,1),(1,9,1),(2,3,1),(3,3,1),(4,3,1),(5,9,1)],id:=87}
@[simp] theorem na:BQ.size=6:=rfl
@[simp] theorem p9:BQ.agg=true∧BQ.zero=[.int .i64 0,.str [],.int .i64 0,.int .i64 0,.int .i64 0,.str []]∧BQ.kind= .struct [(0,3,1),(1,9,1),(2,3,1),(3,3,1),(4,3,1),(5,9,1)]:=⟨rfl,rfl,rfl⟩
@[simp] theorem pw:BQ.id=Xm:=rfl
def Ar:TI:={size:=8,bytes:=88,agg:=true,zero:=[.int .i64 0,.int .i64 0,.int .i64 0,.int .i64 0,.int .i64 0,.str [],.vs 1 [] .nil,.bool false],kind:=.struct [(0,54,1),(1,3,1),(2,3,1),(3,3,1),(4,3,1),(5,9,1),(6,42,1),(7,4,1)],id:=88}
@[simp] theorem Hg:Ar.size=8:=rfl
@[simp] theorem II:Ar.agg=true∧Ar.zero=[.int .i64 0,.int .i64 0,.int .i64 0,.int .i64 0,.int .i64 0,.str [],.vs 1 [] .nil,.bool false]∧Ar.kind= .struct [(0,54,1),(1,3,1),(2,3,1),(3,3,1),(4,3,1),(5,9,1),(6,42,1),(7,4,1)]:=⟨rfl,rfl,rfl⟩
def AB:TI:={size:=8,bytes:=88,agg:=true,zero:=[.int .i64 0,.int .i64 0,.int .i64 0,.int .i64 0,.int .i64 0,.str [],.vs 1 [] .nil,.bool false],kind:=.struct [(0,54,1),(1,3,1),(2,3,1),(3,3,1),(4,3,1),(5,9,1),(6,42,1),(7,4,1)],id:=89}
@[simp] theorem jm:AB.size=8:=rfl
@[simp] theorem mR:AB.agg=true∧AB.zero=[.int .i64 0,.int .i64 0,.int .i64 0,.int .i64 0,.int .i64 0,.str [],.vs 1 [] .nil,.bool false]∧AB.kind= .struct [(0,54,1),(1,3,1),(2,3,1),(3,3,1),(4,3,1),(5,9,1),(6,42,1),(7,4,1)]:=⟨rfl,rfl,rfl⟩
def Bl:TI:={size:=1,bytes:=8,agg:=false,zero:=[.nil],kind:=.ptr 186,id:=94}
@[simp] theorem cx:Bl.size=1:=rfl
@[simp] theorem iW:Bl.agg=false∧Bl.zero=[.nil]∧Bl.kind= .ptr 186:=⟨rfl,rfl,rfl⟩
def BF:TI:={size:=4,bytes:=48,agg:=true,zero:=[.vs 2 [] .nil,.int .i64 0,.int .i64 0,.nil],kind:=.struct [(0,26,2),(2,3,1),(3,94,1)],id:=95}
@[simp] theorem JQ:BF.size=4:=rfl
@[simp] theorem Ju:BF.agg=true∧BF.zero=[.vs 2 [] .nil,.int .i64 0,.int .i64 0,.nil]∧BF.kind= .struct [(0,26,2),(2,3,1),(3,94,1)]:=⟨rfl,rfl,rfl⟩
def E3:TI:={size:=4,bytes:=48,agg:=true,zero:=[.vs 2 [] .nil,.int .i64 0,.int .i64 0,.nil],kind:=.struct [(0,26,2),(2,3,1),(3,94,1)],id:=96}
@[simp] theorem jU:E3.size=4:=rfl
@[simp] theorem m5:E3.agg=true∧E3.zero=[.vs 2 [] .nil,.int .i64 0,.int .i64 0,.nil]∧E3.kind= .struct [(0,26,2),(2,3,1),(3,94,1)]:=⟨rfl,rfl,rfl⟩
@[simp] theorem lc:E3.id=ID:=rfl
def Gi:TI:={size:=1,bytes:=24,agg:=false,zero:=[.vs 1 [] .nil],kind:=.slice 5,id:=98}
@[simp] theorem mB:Gi.size=1:=rfl
@[simp] theorem pb:Gi.agg=false∧Gi.zero=[.vs 1 [] .nil]∧Gi.kind= .slice 5:=⟨rfl,rfl,rfl⟩
def B3:TI:={size:=3,bytes:=32,agg:=true,zero:=[.int .i64 0,.str [],.int .i64 0],kind:=.struct [(0,3,1),(1,9,1),(2,3,1)],id:=104}
@[simp] theorem OG:B3.size=3:=rfl
@[simp] theorem Pe:B3.agg=true∧B3.zero=[.int .i64 0,.str [],.int .i64 0]∧B3.kind= .struct [(0,3,1),(1,9,1),(2,3,1)]:=⟨rfl,rfl,rfl⟩
def A3:TI:={size:=3,bytes:=32,agg:=true,zero:=[.int .i64 0,.str [],.int .i64 0],kind:=.struct [(0,3,1),(1,9,1),(2,3,1)],id:=105}
@[simp] theorem ej:A3.size=3:=rfl
@[simp] theorem i7:A3.agg=true∧A3.zero=[.int .i64 0,.str [],.int .i64 0]∧A3.kind= .struct [(0,3,1),(1,9,1),(2,3,1)]:=⟨rfl,rfl,rfl⟩
def FS:TI:={size:=1,bytes:=24,agg:=false,zero:=[.vs 19 [] .nil],kind:=.slice 113,id:=109}
@[simp] theorem dB:FS.size=1:=rfl
@[simp] theorem iL:FS.agg=false∧FS.zero=[.vs 19 [] .nil]∧FS.kind= .slice 113:=⟨rfl,rfl,rfl⟩
def Az:TI:={size:=19,bytes:=192,agg:=true,zero:=[.int .i64 0,.int .i64 0,.int .i64 0,.str [],.int .i64 0,.int .i64 0,.int .i64 0,.str [],.int .i64 0,.int .i64 0,.int .i64 0,.int .i64 0,.int .i64 0,.str [],.vs 1 [] .nil,.bool false,.int .i64 0,.int .i64 0,.int .i64 0],kind:=.struct [(0,3,1),(1,3,1),(2,87,6),(8,89,8),(16,3,1),(17,3,1),(18,3,1)],id:=112}
@[simp] theorem Ha:Az.size=19:=rfl
@[simp] theorem IN:Az.agg=true∧Az.zero=[.int .i64 0,.int .i64 0,.int .i64 0,.str [],.int .i64 0,.int .i64 0,.int .i64 0,.str [],.int .i64 0,.int .i64 0,.int .i64 0,.int .i64 0,.int .i64 0,.str [],.vs 1 [] .nil,.bool false,.int .i64 0,.int .i64 0,.int .i64 0]∧Az.kind= .struct [(0,3,1),(1,3,1),(2,87,6),(8,89,8),(16,3,1),(17,3,1),(18,3,1)]:=⟨rfl,rfl,rfl⟩
def Gc:TI:={size:=19,bytes:=192,agg:=true,zero:=[.int .i64 0,.int .i64 0,.int .i64 0,.str [],.int .i64 0,.int .i64 0,.int .i64 0,.str [],.int .i64 0,.int .i64 0,.int .i64 0,.int .i64 0,.int .i64 0,.str [],.vs 1 [] .nil,.bool false,.int .i64 0,.int .i64 0,.int .i64 0],kind:=.struct [(0,3,1),(1,3,1),(2,87,6),(8,89,8),(16,3,1),(17,3,1),(18,3,1)],id:=113}
@[simp] theorem fh:Gc.size=19:=rfl
@[simp] theorem kZ:Gc.agg=true∧Gc.zero=[.int .i64 0,.int .i64 0,.int .i64 0,.str [],.int .i64 0,.int .i64 0,.int .i64 0,.str [],.int .i64 0,.int .i64 0,.int .i64 0,.int .i64 0,.int .i64 0,.str [],.vs 1 [] .nil,.bool false,.int .i64 0,.int .i64 0,.int .i64 0]∧Gc.kind= .struct [(0,3,1),(1,3,1),(2,87,6),(8,89,8),(16,3,1),(17,3,1),(18,3,1)]:=⟨rfl,rfl,rfl⟩
def Bc:TI:={size:=1,bytes:=24,agg:=false,zero:=[.vs 2 [] .nil],kind:=.slice 303,id:=125}
@[simp] theorem fX:Bc.size=1:=rfl
@[simp] theorem kN:Bc.agg=false∧Bc.zero=[.vs 2 [] .nil]∧Bc.kind= .slice 303:=⟨rfl,rfl,rfl⟩
def Aq:TI:={size:=7,bytes:=112,agg:=true,zero:=[.int .i64 0,.bool false,.vs 1 [] .nil,.vs 7 [] .nil,.int .i64 0,.vs 2 [] .nil,.str []],kind:=.struct [(0,3,1),(1,4,1),(2,42,1),(3,40,1),(4,3,1),(5,125,1),(6,9,1)],id:=126}
@[simp] theorem He:Aq.size=7:=rfl
@[simp] theorem IP:Aq.agg=true∧Aq.zero=[.int .i64 0,.bool false,.vs 1 [] .nil,.vs 7 [] .nil,.int .i64 0,.vs 2 [] .nil,.str []]∧Aq.kind= .struct [(0,3,1),(1,4,1),(2,42,1),(3,40,1),(4,3,1),(5,125,1),(6,9,1)]:=⟨rfl,rfl,rfl⟩
def AF:TI:={size:=7,bytes:=112,agg:=true,zero:=[.int .i64 0,.bool false,.vs 1 [] .nil,.vs 7 [] .nil,.int .i64 0,.vs 2 [] .nil,.str []],kind:=.struct [(0,3,1),(1,4,1),(2,42,1),(3,40,1),(4,3,1),(5,125,1),(6,9,1)],id:=127}
@[simp] theorem lZ:AF.size=7:=rfl
@[simp] theorem oB:AF.agg=true∧AF.zero=[.int .i64 0,.bool false,.vs 1 [] .nil,.vs 7 [] .nil,.int .i64 0,.vs 2 [] .nil,.str []]∧AF.kind= .struct [(0,3,1),(1,4,1),(2,42,1),(3,40,1),(4,3,1),(5,125,1),(6,9,1)]:=⟨rfl,rfl,rfl⟩
@[simp] theorem nz:AF.id=Nt:=rfl
def Am:TI:={size:=7,bytes:=80,agg:=true,zero:=[.int .i64 0,.bool false,.int .i64 0,.int .i64 0,.int .i64 0,.vs 2 [] .nil,.str []],kind:=.struct [(0,3,1),(1,4,1),(2,51,4),(6,9,1)],id:=130}
@[simp] theorem HY:Am.size=7:=rfl
@[simp] theorem Hy:Am.agg=true∧Am.zero=[.int .i64 0,.bool false,.int .i64 0,.int .i64 0,.int .i64 0,.vs 2 [] .nil,.str []]∧Am.kind= .struct [(0,3,1),(1,4,1),(2,51,4),(6,9,1)]:=⟨rfl,rfl,rfl⟩
def GK:TI:={size:=7,bytes:=80,agg:=true,zero:=[.int .i64 0,.bool false,.int .i64 0,.int .i64 0,.int .i64 0,.vs 2 [] .nil,.str []],kind:=.struct [(0,3,1),(1,4,1),(2,51,4),(6,9,1)],id:=131}
@[simp] theorem fq:GK.size=7:=rfl
@[simp] theorem lR:GK.agg=true∧GK.zero=[.int .i64 0,.bool false,.int .i64 0,.int .i64 0,.int .i64 0,.vs 2 [] .nil,.str []]∧GK.kind= .struct [(0,3,1),(1,4,1),(2,51,4),(6,9,1)]:=⟨rfl,rfl,rfl⟩
def FQ:TI:={size:=1,bytes:=8,agg:=false,zero:=[.nil],kind:=.ptr 224,id:=134}
@[simp] theorem dJ:FQ.size=1:=rfl
@[simp] theorem hZ:FQ.agg=false∧FQ.zero=[.nil]∧FQ.kind= .ptr 224:=⟨rfl,rfl,rfl⟩
def FO:TI:={size:=1,bytes:=8,agg:=false,zero:=[.nil],kind:=.ptr 230,id:=136}
@[simp] theorem dF:FO.size=1:=rfl
@[simp] theorem iN:FO.agg=false∧FO.zero=[.nil]∧FO.kind= .ptr 230:=⟨rfl,rfl,rfl⟩
def FX:TI:={size:=1,bytes:=8,agg:=false,zero:=[.map none],kind:=.map 3 439,id:=138}
@[simp] theorem cq:FX.size=1:=rfl
@[simp] theorem ik:FX.agg=false∧FX.zero=[.map none]∧FX.kind= .map 3 439:=⟨rfl,rfl,rfl⟩
def A5:TI:={size:=3,bytes:=40,agg:=true,zero:=[.map none,.int .i64 0,.vs 1 [] .nil],kind:=.struct [(0,138,1),(1,3,1),(2,81,1)],id:=139}
@[simp] theorem IM:A5.size=3:=rfl
@[simp] theorem Ip:A5.agg=true∧A5.zero=[.map none,.int .i64 0,.vs 1 [] .nil]∧A5.kind= .struct [(0,138,1),(1,3,1),(2,81,1)]:=⟨rfl,rfl,rfl⟩
def JF:TI:={size:=3,bytes:=40,agg:=true,zero:=[.map none,.int .i64 0,.vs 1 [] .nil],kind:=.struct [(0,138,1),(1,3,1),(2,81,1)],id:=140}
@[simp] theorem kK:JF.size=3:=rfl
@[simp] theorem nW:JF.agg=true∧JF.zero=[.map none,.int .i64 0,.vs 1 [] .nil]∧JF.kind= .struct [(0,138,1),(1,3,1),(2,81,1)]:=⟨rfl,rfl,rfl⟩
def Aw:TI:={size:=7,bytes:=72,agg:=true,zero:=[.nil,.map none,.int .i64 0,.vs 1 [] .nil,.nil,.nil,.map none],kind:=.struct [(0,79,1),(1,140,3),(4,134,1),(5,136,1),(6,31,1)],id:=141}
@[simp] theorem Hj:Aw.size=7:=rfl
@[simp] theorem IL:Aw.agg=true∧Aw.zero=[.nil,.map none,.int .i64 0,.vs 1 [] .nil,.nil,.nil,.map none]∧Aw.kind= .struct [(0,79,1),(1,140,3),(4,134,1),(5,136,1),(6,31,1)]:=⟨rfl,rfl,rfl⟩
def Ft:TI:={size:=7,bytes:=72,agg:=true,zero:=[.nil,.map none,.int .i64 0,.vs 1 [] .nil,.nil,.nil,.map none],kind:=.struct [(0,79,1),(1,140,3),(4,134,1),(5,136,1),(6,31,1)],id:=142}
@[simp] theorem dZ:Ft.size=7:=rfl
@[simp] theorem jd:Ft.agg=true∧Ft.zero=[.nil,.map none,.int .i64 0,.vs 1 [] .nil,.nil,.nil,.map none]∧Ft.kind= .struct [(0,79,1),(1,140,3),(4,134,1),(5,136,1),(6,31,1)]:=⟨rfl,rfl,rfl⟩
def Fo:TI:={size:=1,bytes:=8,agg:=false,zero:=[.nil],kind:=.ptr 240,id:=145}
@[simp] theorem eD:Fo.size=1:=rfl
@[simp] theorem ji:Fo.agg=false∧Fo.zero=[.nil]∧Fo.kind= .ptr 240:=⟨rfl,rfl,rfl⟩
def EO:TI:={size:=1,bytes:=8,agg:=false,zero:=[.nil],kind:=.ptr 288,id:=154}
@[simp] theorem ap:EO.size=1:=rfl
@[simp] theorem fY:EO.agg=false∧EO.zero=[.nil]∧EO.kind= .ptr 288:=⟨rfl,rfl,rfl⟩
def BL:TI:={size:=3,bytes:=56,agg:=true,zero:=[.vs 1 [] .nil,.vs 7 [] .nil,.int .i64 0],kind:=.struct [(0,42,1),(1,40,1),(2,3,1)],id:=157}
@[simp] theorem Jt:BL.size=3:=rfl
@[simp] theorem Ky:BL.agg=true∧BL.zero=[.vs 1 [] .nil,.vs 7 [] .nil,.int .i64 0]∧BL.kind= .struct [(0,42,1),(1,40,1),(2,3,1)]:=⟨rfl,rfl,rfl⟩
def BA:TI:={size:=3,bytes:=56,agg:=true,zero:=[.vs 1 [] .nil,.vs 7 [] .nil,.int .i64 0],kind:=.struct [(0,42,1),(1,40,1),(2,3,1)],id:=158}
@[simp] theorem cy:BA.size=3:=rfl
@[simp] theorem iS:BA.agg=true∧BA.zero=[.vs 1 [] .nil,.vs 7 [] .nil,.int .i64 0]∧BA.kind= .struct [(0,42,1),(1,40,1),(2,3,1)]:=⟨rfl,rfl,rfl⟩
def EE:TI:={size:=1,bytes:=8,agg:=false,zero:=[.nilfn],kind:=.func,id:=164}
@[simp] theorem Yi:EE.size=1:=rfl
@[simp] theorem bB:EE.agg=false∧EE.zero=[.nilfn]∧EE.kind= .func:=⟨rfl,rfl,rfl⟩
def DJ:TI:={size:=1,bytes:=8,agg:=false,zero:=[.nilfn],kind:=.func,id:=168}
@[simp] theorem Uf:DJ.size=1:=rfl
@[simp] theorem Wd:DJ.agg=false∧DJ.zero=[.nilfn]∧DJ.kind= .func:=⟨rfl,rfl,rfl⟩
def BN:TI:={size:=4,bytes:=48,agg:=true,zero:=[.int .i64 0,.int .i64 0,.vs 1 [] .nil,.int .i64 0],kind:=.struct [(0,3,1),(1,3,1),(2,42,1),(3,3,1)],id:=170}
@[simp] theorem KC:BN.size=4:=rfl
@[simp] theorem LI:BN.agg=true∧BN.zero=[.int .i64 0,.int .i64 0,.vs 1 [] .nil,.int .i64 0]∧BN.kind= .struct [(0,3,1),(1,3,1),(2,42,1),(3,3,1)]:=⟨rfl,rfl,rfl⟩
def AY:TI:={size:=4,bytes:=48,agg:=true,zero:=[.int .i64 0,.int .i64 0,.vs 1 [] .nil,.int .i64 0],kind:=.struct [(0,3,1),(1,3,1),(2,42,1),(3,3,1)],id:=171}
@[simp] theorem aJ:AY.size=4:=rfl
@[simp] theorem de:AY.agg=true∧AY.zero=[.int .i64 0,.int .i64 0,.vs 1 [] .nil,.int .i64 0]∧AY.kind= .struct [(0,3,1),(1,3,1),(2,42,1),(3,3,1)]:=⟨rfl,rfl,rfl⟩
def Be:TI:={size:=1,bytes:=8,agg:=false,zero:=[.nilfn],kind:=.func,id:=176}
@[simp] theorem L7:Be.size=1:=rfl
@[simp] theorem M7:Be.agg=false∧Be.zero=[.nilfn]∧Be.kind= .func:=⟨rfl,rfl,rfl⟩
def BT:TI:={size:=1,bytes:=8,agg:=false,zero:=[.map none],kind:=.map 3 105,id:=184}
@[simp] theorem V9:BT.size=1:=rfl
@[simp] theorem Yf:BT.agg=false∧BT.zero=[.map none]∧BT.kind= .map 3 105:=⟨rfl,rfl,rfl⟩
def BB:TI:={size:=3,bytes:=24,agg:=true,zero:=[.int .i64 0,.int .i64 0,.map none],kind:=.struct [(0,3,1),(1,3,1),(2,184,1)],id:=185}
@[simp] theorem Ik:BB.size=3:=rfl
@[simp] theorem Jd:BB.agg=true∧BB.zero=[.int .i64 0,.int .i64 0,.map none]∧BB.kind= .struct [(0,3,1),(1,3,1),(2,184,1)]:=⟨rfl,rfl,rfl⟩
def Eq:TI:={size:=3,bytes:=24,agg:=true,zero:=[.int .i64 0,.int .i64 0,.map none],kind:=.struct [(0,3,1),(1,3,1),(2,184,1)],id:=186}
@[simp] theorem fj:Eq.size=3:=rfl
@[simp] theorem lB:Eq.agg=true∧Eq.zero=[.int .i64 0,.int .i64 0,.map none]∧Eq.kind= .struct [(0,3,1),(1,3,1),(2,184,1)]:=⟨rfl,rfl,rfl⟩
@[simp] theorem jK:Eq.id=EJ:=rfl
def B4:TI:={size:=1,bytes:=8,agg:=false,zero:=[.nilfn],kind:=.func,id:=192}
@[simp] theorem OH:B4.size=1:=rfl
@[simp] theorem PU:B4.agg=false∧B4.zero=[.nilfn]∧B4.kind= .func:=⟨rfl,rfl,rfl⟩
def CO:TI:={size:=1,bytes:=16,agg:=false,zero:=[.nilifc],kind:=.iface,id:=193}
@[simp] theorem Py:CO.size=1:=rfl
@[simp] theorem Rr:CO.agg=false∧CO.zero=[.nilifc]∧CO.kind= .iface:=⟨rfl,rfl,rfl⟩
def JZ:TI:={size:=1,bytes:=16,agg:=false,zero:=[.nilifc],kind:=.iface,id:=194}
@[simp] theorem lM:JZ.size=1:=rfl
@[simp] theorem nq:JZ.agg=false∧JZ.zero=[.nilifc]∧JZ.kind= .iface:=⟨rfl,rfl,rfl⟩
def ET:TI:={size:=1,bytes:=8,agg:=false,zero:=[.nil],kind:=.ptr 197,id:=195}
@[simp] theorem Yj:ET.size=1:=rfl
@[simp] theorem cu:ET.agg=false∧ET.zero=[.nil]∧ET.kind= .ptr 197:=⟨rfl,rfl,rfl⟩
def BX:TI:={size:=2,bytes:=32,agg:=true,zero:=[.nil,.vs 1 [] .nil],kind:=.struct [(0,195,1),(1,98,1)],id:=196}
@[simp] theorem LL:BX.size=2:=rfl
@[simp] theorem MV:BX.agg=true∧BX.zero=[.nil,.vs 1 [] .nil]∧BX.kind= .struct [(0,195,1),(1,98,1)]:=⟨rfl,rfl,rfl⟩
def DM:TI:={size:=2,bytes:=32,agg:=true,zero:=[.nil,.vs 1 [] .nil],kind:=.struct [(0,195,1),(1,98,1)],id:=197}
@[simp] theorem bm:DM.size=2:=rfl
@[simp] theorem fu:DM.agg=true∧DM.zero=[.nil,.vs 1 [] .nil]∧DM.kind= .struct [(0,195,1),(1,98,1)]:=⟨rfl,rfl,rfl⟩
@[simp] theorem fJ:DM.id=DL:=rfl
def DR:TI:={size:=1,bytes:=16,agg:=false,zero:=[.nilifc],kind:=.iface,id:=198}
@[simp] theorem Vc:DR.size=1:=rfl
@[simp] theorem Xk:DR.agg=false∧DR.zero=[.nilifc]∧DR.kind= .iface:=⟨rfl,rfl,rfl⟩
def SS:TI:={size:=1,bytes:=16,agg:=false,zero:=[.nilifc],kind:=.iface,id:=199}
@[simp] theorem oQ:SS.size=1:=rfl
@[simp] theorem rL:SS.agg=false∧SS.zero=[.nilifc]∧SS.kind= .iface:=⟨rfl,rfl,rfl⟩
def XC:TI:={size:=1,bytes:=8,agg:=false,zero:=[.int .u64 0],kind:=.int .u64,id:=201}
@[simp] theorem pg:XC.size=1:=rfl
@[simp] theorem si:XC.agg=false∧XC.zero=[.int .u64 0]∧XC.kind= .int .u64:=⟨rfl,rfl,rfl⟩
def JM:TI:={size:=10,bytes:=160,agg:=true,zero:=[.str [],.str [],.str [],.str [],.str [],.str [],.str [],.str [],.str [],.str []],kind:=.array 10 9,id:=206}
@[simp] theorem kC:JM.size=10:=rfl
@[simp] theorem ng:JM.agg=true∧JM.zero=[.str [],.str [],.str [],.str [],.str [],.str [],.str [],.str [],.str [],.str []]∧JM.kind= .array 10 9:=⟨rfl,rfl,rfl⟩
def Cm:TI:={size:=1,bytes:=8,agg:=false,zero:=[.nil],kind:=.ptr 294,id:=221}
@[simp] theorem RO:Cm.size=1:=rfl
@[simp] theorem UO:Cm.agg=false∧Cm.zero=[.nil]∧Cm.kind= .ptr 294:=⟨rfl,rfl,rfl⟩
def A6:TI:={size:=3,bytes:=24,agg:=true,zero:=[.nil,.int .i64 0,.int .i64 0],kind:=.struct [(0,221,1),(1,3,1),(2,3,1)],id:=223}
@[simp] theorem IS:A6.size=3:=rfl
@[simp] theorem Is:A6.agg=true∧A6.zero=[.nil,.int .i64 0,.int .i64 0]∧A6.kind= .struct [(0,221,1),(1,3,1),(2,3,1)]:=⟨rfl,rfl,rfl⟩
def GN:TI:={size:=3,bytes:=24,agg:=true,zero:=[.nil,.int .i64 0,.int .i64 0],kind:=.struct [(0,221,1),(1,3,1),(2,3,1)],id:=224}
@[simp] theorem fZ:GN.size=3:=rfl
@[simp] theorem kP:GN.agg=true∧GN.zero=[.nil,.int .i64 0,.int .i64 0]∧GN.kind= .struct [(0,221,1),(1,3,1),(2,3,1)]:=⟨rfl,rfl,rfl⟩
def Cx:TI:={size:=1,bytes:=8,agg:=false,zero:=[.nil],kind:=.ptr 299,id:=225}
@[simp] theorem SD:Cx.size=1:=rfl
@[simp] theorem Ue:Cx.agg=false∧Cx.zero=[.nil]∧Cx.kind= .ptr 299:=⟨rfl,rfl,rfl⟩
def CD:TI:={size:=2,bytes:=32,agg:=true,zero:=[.int .i64 0,.vs 2 [] .nil],kind:=.struct [(0,3,1),(1,67,1)],id:=227}
@[simp] theorem Ob:CD.size=2:=rfl
@[simp] theorem QN:CD.agg=true∧CD.zero=[.int .i64 0,.vs 2 [] .nil]∧CD.kind= .struct [(0,3,1),(1,67,1)]:=⟨rfl,rfl,rfl⟩
def G4:TI:={size:=2,bytes:=32,agg:=true,zero:=[.int .i64 0,.vs 2 [] .nil],kind:=.struct [(0,3,1),(1,67,1)],id:=228}
@[simp] theorem iZ:G4.size=2:=rfl
@[simp] theorem lm:G4.agg=true∧G4.zero=[.int .i64 0,.vs 2 [] .nil]∧G4.kind= .struct [(0,3,1),(1,67,1)]:=⟨rfl,rfl,rfl⟩
def BS:TI:={size:=2,bytes:=16,agg:=true,zero:=[.nil,.int .i64 0],kind:=.struct [(0,225,1),(1,3,1)],id:=229}
@[simp] theorem LH:BS.size=2:=rfl
@[simp] theorem MA:BS.agg=true∧BS.zero=[.nil,.int .i64 0]∧BS.kind= .struct [(0,225,1),(1,3,1)]:=⟨rfl,rfl,rfl⟩
def GR:TI:={size:=2,bytes:=16,agg:=true,zero:=[.nil,.int .i64 0],kind:=.struct [(0,225,1),(1,3,1)],id:=230}
@[simp] theorem ft:GR.size=2:=rfl
@[simp] theorem jy:GR.agg=true∧GR.zero=[.nil,.int .i64 0]∧GR.kind= .struct [(0,225,1),(1,3,1)]:=⟨rfl,rfl,rfl⟩
def SQ:TI:={size:=1,bytes:=8,agg:=false,zero:=[.nil],kind:=.ptr 3,id:=232}
@[simp] theorem pJ:SQ.size=1:=rfl
@[simp] theorem sB:SQ.agg=false∧SQ.zero=[.nil]∧SQ.kind= .ptr 3:=⟨rfl,rfl,rfl⟩
def CY:TI:={size:=2,bytes:=40,agg:=true,zero:=[.str [],.vs 2 [] .nil],kind:=.struct [(0,9,1),(1,49,1)],id:=235}
@[simp] theorem QA:CY.size=2:=rfl
@[simp] theorem R9:CY.agg=true∧CY.zero=[.str [],.vs 2 [] .nil]∧CY.kind= .struct [(0,9,1),(1,49,1)]:=⟨rfl,rfl,rfl⟩
def Cs:TI:={size:=2,bytes:=40,agg:=true,zero:=[.str [],.vs 2 [] .nil],kind:=.struct [(0,9,1),(1,49,1)],id:=236}
@[simp] theorem lq:Cs.size=2:=rfl
@[simp] theorem pG:Cs.agg=true∧Cs.zero=[.str [],.vs 2 [] .nil]∧Cs.kind= .struct [(0,9,1),(1,49,1)]:=⟨rfl,rfl,rfl⟩
def Bd:TI:={size:=1,bytes:=24,agg:=false,zero:=[.vs 2 [] .nil],kind:=.slice 236,id:=237}
@[simp] theorem jH:Bd.size=1:=rfl
@[simp] theorem mF:Bd.agg=false∧Bd.zero=[.vs 2 [] .nil]∧Bd.kind= .slice 236:=⟨rfl,rfl,rfl⟩
def Cy:TI:={size:=1,bytes:=8,agg:=false,zero:=[.nil],kind:=.ptr 53,id:=238}
@[simp] theorem dN:Cy.size=1:=rfl
@[simp] theorem iz:Cy.agg=false∧Cy.zero=[.nil]∧Cy.kind= .ptr 53:=⟨rfl,rfl,rfl⟩
def An:TI:={size:=5,bytes:=72,agg:=true,zero:=[.vs 1 [] .nil,.vs 2 [] .nil,.bool false,.int .i64 0,.nil],kind:=.struct [(0,42,1),(1,237,1),(2,4,1),(3,3,1),(4,238,1)],id:=239}
@[simp] theorem Hi:An.size=5:=rfl
@[simp] theorem IK:An.agg=true∧An.zero=[.vs 1 [] .nil,.vs 2 [] .nil,.bool false,.int .i64 0,.nil]∧An.kind= .struct [(0,42,1),(1,237,1),(2,4,1),(3,3,1),(4,238,1)]:=⟨rfl,rfl,rfl⟩
def Eh:TI:={size:=5,bytes:=72,agg:=true,zero:=[.vs 1 [] .nil,.vs 2 [] .nil,.bool false,.int .i64 0,.nil],kind:=.struct [(0,42,1),(1,237,1),(2,4,1),(3,3,1),(4,238,1)],id:=240}
@[simp] theorem iq:Eh.size=5:=rfl
@[simp] theorem la:Eh.agg=true∧Eh.zero=[.vs 1 [] .nil,.vs 2 [] .nil,.bool false,.int .i64 0,.nil]∧Eh.kind= .struct [(0,42,1),(1,237,1),(2,4,1),(3,3,1),(4,238,1)]:=⟨rfl,rfl,rfl⟩
@[simp] theorem lQ:Eh.id=Ck:=rfl
def CW:TI:={size:=2,bytes:=16,agg:=true,zero:=[.int .i64 0,.nil],kind:=.struct [(0,3,1),(1,154,1)],id:=246}
@[simp] theorem P9:CW.size=2:=rfl
@[simp] theorem SE:CW.agg=true∧CW.zero=[.int .i64 0,.nil]∧CW.kind= .struct [(0,3,1),(1,154,1)]:=⟨rfl,rfl,rfl⟩
def C0:TI:={size:=2,bytes:=16,agg:=true,zero:=[.int .i64 0,.nil],kind:=.struct [(0,3,1),(1,154,1)],id:=247}
@[simp] theorem iK:C0.size=2:=rfl
@[simp] theorem lg:C0.agg=true∧C0.zero=[.int .i64 0,.nil]∧C0.kind= .struct [(0,3,1),(1,154,1)]:=⟨rfl,rfl,rfl⟩
@[simp] theorem lE:C0.id=JB:=rfl
def C2:TI:={size:=8,bytes:=136,agg:=true,zero:=[.int .i64 0,.bool false,.vs 1 [] .nil,.vs 7 [] .nil,.int .i64 0,.vs 2 [] .nil,.str [],.vs 1 [] .nil],kind:=.struct [(0,127,7),(7,81,1)],id:=248}
@[simp] theorem Sd:C2.size=8:=rfl
@[simp] theorem VL:C2.agg=true∧C2.zero=[.int .i64 0,.bool false,.vs 1 [] .nil,.vs 7 [] .nil,.int .i64 0,.vs 2 [] .nil,.str [],.vs 1 [] .nil]∧C2.kind= .struct [(0,127,7),(7,81,1)]:=⟨rfl,rfl,rfl⟩
def A4:TI:={size:=8,bytes:=136,agg:=true,zero:=[.int .i64 0,.bool false,.vs 1 [] .nil,.vs 7 [] .nil,.int .i64 0,.vs 2 [] .nil,.str [],.vs 1 [] .nil],kind:=.struct [(0,127,7),(7,81,1)],id:=249}
@[simp] theorem fk:A4.size=8:=rfl
@[simp] theorem ke:A4.agg=true∧A4.zero=[.int .i64 0,.bool false,.vs 1 [] .nil,.vs 7 [] .nil,.int .i64 0,.vs 2 [] .nil,.str [],.vs 1 [] .nil]∧A4.kind= .struct [(0,127,7),(7,81,1)]:=⟨rfl,rfl,rfl⟩
def Cd:TI:={size:=8,bytes:=120,agg:=true,zero:=[.int .i64 0,.bool false,.vs 1 [] .nil,.vs 7 [] .nil,.int .i64 0,.vs 2 [] .nil,.str [],.int .i64 0],kind:=.struct [(0,127,7),(7,3,1)],id:=261}
@[simp] theorem Qb:Cd.size=8:=rfl
@[simp] theorem Tg:Cd.agg=true∧Cd.zero=[.int .i64 0,.bool false,.vs 1 [] .nil,.vs 7 [] .nil,.int .i64 0,.vs 2 [] .nil,.str [],.int .i64 0]∧Cd.kind= .struct [(0,127,7),(7,3,1)]:=⟨rfl,rfl,rfl⟩
def Ag:TI:={size:=8,bytes:=120,agg:=true,zero:=[.int .i64 0,.bool false,.vs 1 [] .nil,.vs 7 [] .nil,.int .i64 0,.vs 2 [] .nil,.str [],.int .i64 0],kind:=.struct [(0,127,7),(7,3,1)],id:=262}
@[simp] theorem cV:Ag.size=8:=rfl
@[simp] theorem ff:Ag.agg=true∧Ag.zero=[.int .i64 0,.bool false,.vs 1 [] .nil,.vs 7 [] .nil,.int .i64 0,.vs 2 [] .nil,.str [],.int .i64 0]∧Ag.kind= .struct [(0,127,7),(7,3,1)]:=⟨rfl,rfl,rfl⟩
def DW:TI:={size:=1,bytes:=8,agg:=false,zero:=[.nilfn],kind:=.func,id:=274}
@[simp] theorem WQ:DW.size=1:=rfl
@[simp] theorem Yg:DW.agg=false∧DW.zero=[.nilfn]∧DW.kind= .func:=⟨rfl,rfl,rfl⟩
def Mx:TI:={size:=1,bytes:=8,agg:=false,zero:=[.nil],kind:=.ptr 5,id:=280}
@[simp] theorem nI:Mx.size=1:=rfl
@[simp] theorem pS:Mx.agg=false∧Mx.zero=[.nil]∧Mx.kind= .ptr 5:=⟨rfl,rfl,rfl⟩
def Bw:TI:={size:=1,bytes:=24,agg:=false,zero:=[.vs 8 [] .nil],kind:=.slice 249,id:=286}
@[simp] theorem cw:Bw.size=1:=rfl
@[simp] theorem ga:Bw.agg=false∧Bw.zero=[.vs 8 [] .nil]∧Bw.kind= .slice 249:=⟨rfl,rfl,rfl⟩
def Cq:TI:={size:=1,bytes:=24,agg:=true,zero:=[.vs 8 [] .nil],kind:=.struct [(0,286,1)],id:=287}
@[simp] theorem RM:Cq.size=1:=rfl
@[simp] theorem UQ:Cq.agg=true∧Cq.zero=[.vs 8 [] .nil]∧Cq.kind= .struct [(0,286,1)]:=⟨rfl,rfl,rfl⟩
def EP:TI:={size:=1,bytes:=24,agg:=true,zero:=[.vs 8 [] .nil],kind:=.struct [(0,286,1)],id:=288}
@[simp] theorem dV:EP.size=1:=rfl
@[simp] theorem jV:EP.agg=true∧EP.zero=[.vs 8 [] .nil]∧EP.kind= .struct [(0,286,1)]:=⟨rfl,rfl,rfl⟩
@[simp] theorem iO:EP.id=DA:=rfl
def B8:TI:={size:=1,bytes:=24,agg:=false,zero:=[.vs 1 [] .nil],kind:=.slice 295,id:=292}
@[simp] theorem OP:B8.size=1:=rfl
@[simp] theorem Pr:B8.agg=false∧B8.zero=[.vs 1 [] .nil]∧B8.kind= .slice 295:=⟨rfl,rfl,rfl⟩
def BR:TI:={size:=1,bytes:=24,agg:=true,zero:=[.vs 1 [] .nil],kind:=.struct [(0,292,1)],id:=293}
@[simp] theorem LJ:BR.size=1:=rfl
@[simp] theorem MN:BR.agg=true∧BR.zero=[.vs 1 [] .nil]∧BR.kind= .struct [(0,292,1)]:=⟨rfl,rfl,rfl⟩
def C4:TI:={size:=1,bytes:=24,agg:=true,zero:=[.vs 1 [] .nil],kind:=.struct [(0,292,1)],id:=294}
@[simp] theorem Ts:C4.size=1:=rfl
@[simp] theorem Vt:C4.agg=true∧C4.zero=[.vs 1 [] .nil]∧C4.kind= .struct [(0,292,1)]:=⟨rfl,rfl,rfl⟩
def CK:TI:={size:=1,bytes:=8,agg:=false,zero:=[.nil],kind:=.ptr 340,id:=295}
@[simp] theorem Pk:CK.size=1:=rfl
@[simp] theorem QZ:CK.agg=false∧CK.zero=[.nil]∧CK.kind= .ptr 340:=⟨rfl,rfl,rfl⟩
def CB:TI:={size:=1,bytes:=24,agg:=false,zero:=[.vs 1 [] .nil],kind:=.slice 300,id:=297}
@[simp] theorem OZ:CB.size=1:=rfl
@[simp] theorem QF:CB.agg=false∧CB.zero=[.vs 1 [] .nil]∧CB.kind= .slice 300:=⟨rfl,rfl,rfl⟩
def BZ:TI:={size:=1,bytes:=24,agg:=true,zero:=[.vs 1 [] .nil],kind:=.struct [(0,297,1)],id:=298}
@[simp] theorem LP:BZ.size=1:=rfl
@[simp] theorem MU:BZ.agg=true∧BZ.zero=[.vs 1 [] .nil]∧BZ.kind= .struct [(0,297,1)]:=⟨rfl,rfl,rfl⟩
def C6:TI:={size:=1,bytes:=24,agg:=true,zero:=[.vs 1 [] .nil],kind:=.struct [(0,297,1)],id:=299}
@[simp] theorem UP:C6.size=1:=rfl
@[simp] theorem V3:C6.agg=true∧C6.zero=[.vs 1 [] .nil]∧C6.kind= .struct [(0,297,1)]:=⟨rfl,rfl,rfl⟩
def CP:TI:={size:=1,bytes:=8,agg:=false,zero:=[.nil],kind:=.ptr 343,id:=300}
@[simp] theorem Pu:CP.size=1:=rfl
@[simp] theorem RN:CP.agg=false∧CP.zero=[.nil]∧CP.kind= .ptr 343:=⟨rfl,rfl,rfl⟩
def Cu:TI:={size:=2,bytes:=24,agg:=true,zero:=[.int .i64 0,.str []],kind:=.struct [(0,3,1),(1,9,1)],id:=302}
@[simp] theorem SC:Cu.size=2:=rfl
@[simp] theorem UT:Cu.agg=true∧Cu.zero=[.int .i64 0,.str []]∧Cu.kind= .struct [(0,3,1),(1,9,1)]:=⟨rfl,rfl,rfl⟩
def Ae:TI:={size:=2,bytes:=24,agg:=true,zero:=[.int .i64 0,.str []],kind:=.struct [(0,3,1),(1,9,1)],id:=303}
@[simp] theorem jA:Ae.size=2:=rfl
@[simp] theorem nO:Ae.agg=true∧Ae.zero=[.int .i64 0,.str []]∧Ae.kind= .struct [(0,3,1),(1,9,1)]:=⟨rfl,rfl,rfl⟩
@[simp] theorem lX:Ae.id=Hs:=rfl
def H8:TI:={size:=1,bytes:=24,agg:=false,zero:=[.vs 1 [] .nil],kind:=.slice 42,id:=311}
@[simp] theorem jN:H8.size=1:=rfl
@[simp] theorem l5:H8.agg=false∧H8.zero=[.vs 1 [] .nil]∧H8.kind= .slice 42:=⟨rfl,rfl,rfl⟩
def Gx:TI:={size:=1,bytes:=24,agg:=false,zero:=[.vs 2 [] .nil],kind:=.slice 317,id:=313}
@[simp] theorem ii:Gx.size=1:=rfl
@[simp] theorem ld:Gx.agg=false∧Gx.zero=[.vs 2 [] .nil]∧Gx.kind= .slice 317:=⟨rfl,rfl,rfl⟩
def Cv:TI:={size:=2,bytes:=24,agg:=true,zero:=[.str [],.int .i64 0],kind:=.struct [(0,9,1),(1,3,1)],id:=316}
@[simp] theorem R5:Cv.size=2:=rfl
@[simp] theorem Us:Cv.agg=true∧Cv.zero=[.str [],.int .i64 0]∧Cv.kind= .struct [(0,9,1),(1,3,1)]:=⟨rfl,rfl,rfl⟩
def BO:TI:={size:=2,bytes:=24,agg:=true,zero:=[.str [],.int .i64 0],kind:=.struct [(0,9,1),(1,3,1)],id:=317}
@[simp] theorem kB:BO.size=2:=rfl
@[simp] theorem n7:BO.agg=true∧BO.zero=[.str [],.int .i64 0]∧BO.kind= .struct [(0,9,1),(1,3,1)]:=⟨rfl,rfl,rfl⟩
@[simp] theorem mr:BO.id=Vn:=rfl
def PJ:TI:={size:=1,bytes:=4,agg:=false,zero:=[.int .u32 0],kind:=.int .u32,id:=318}
@[simp] theorem nh:PJ.size=1:=rfl
@[simp] theorem qg:PJ.agg=false∧PJ.zero=[.int .u32 0]∧PJ.kind= .int .u32:=⟨rfl,rfl,rfl⟩
def FW:TI:={size:=1,bytes:=8,agg:=false,zero:=[.nil],kind:=.ptr 327,id:=323}
@[simp] theorem dE:FW.size=1:=rfl
@[simp] theorem hU:FW.agg=false∧FW.zero=[.nil]∧FW.kind= .ptr 327:=⟨rfl,rfl,rfl⟩
def Dp:TI:={size:=1,bytes:=8,agg:=false,zero:=[.nil],kind:=.ptr 358,id:=324}
@[simp] theorem dw:Dp.size=1:=rfl
@[simp] theorem jX:Dp.agg=false∧Dp.zero=[.nil]∧Dp.kind= .ptr 358:=⟨rfl,rfl,rfl⟩
def Bk:TI:={size:=3,bytes:=24,agg:=true,zero:=[.nil,.bool false,.int .i64 0],kind:=.struct [(0,324,1),(1,4,1),(2,3,1)],id:=326}
@[simp] theorem MX:Bk.size=3:=rfl
@[simp] theorem Nb:Bk.agg=true∧Bk.zero=[.nil,.bool false,.int .i64 0]∧Bk.kind= .struct [(0,324,1),(1,4,1),(2,3,1)]:=⟨rfl,rfl,rfl⟩
def EG:TI:={size:=3,bytes:=24,agg:=true,zero:=[.nil,.bool false,.int .i64 0],kind:=.struct [(0,324,1),(1,4,1),(2,3,1)],id:=327}
@[simp] theorem fc:EG.size=3:=rfl
@[simp] theorem kE:EG.agg=true∧EG.zero=[.nil,.bool false,.int .i64 0]∧EG.kind= .struct [(0,324,1),(1,4,1),(2,3,1)]:=⟨rfl,rfl,rfl⟩
@[simp] theorem jY:EG.id=Bj:=rfl
def CQ:TI:={size:=1,bytes:=24,agg:=false,zero:=[.vs 8 [] .nil],kind:=.slice 374,id:=338}
@[simp] theorem Px:CQ.size=1:=rfl
@[simp] theorem Rh:CQ.agg=false∧CQ.zero=[.vs 8 [] .nil]∧CQ.kind= .slice 374:=⟨rfl,rfl,rfl⟩
def BH:TI:={size:=2,bytes:=32,agg:=true,zero:=[.int .i64 0,.vs 8 [] .nil],kind:=.struct [(0,3,1),(1,338,1)],id:=339}
@[simp] theorem Jb:BH.size=2:=rfl
@[simp] theorem J9:BH.agg=true∧BH.zero=[.int .i64 0,.vs 8 [] .nil]∧BH.kind= .struct [(0,3,1),(1,338,1)]:=⟨rfl,rfl,rfl⟩
def CZ:TI:={size:=2,bytes:=32,agg:=true,zero:=[.int .i64 0,.vs 8 [] .nil],kind:=.struct [(0,3,1),(1,338,1)],id:=340}
@[simp] theorem QG:CZ.size=2:=rfl
@[simp] theorem R8:CZ.agg=true∧CZ.zero=[.int .i64 0,.vs 8 [] .nil]∧CZ.kind= .struct [(0,3,1),(1,338,1)]:=⟨rfl,rfl,rfl⟩
def CV:TI:={size:=1,bytes:=24,agg:=false,zero:=[.vs 3 [] .nil],kind:=.slice 377,id:=341}
@[simp] theorem P5:CV.size=1:=rfl
@[simp] theorem R6:CV.agg=false∧CV.zero=[.vs 3 [] .nil]∧CV.kind= .slice 377:=⟨rfl,rfl,rfl⟩
def BI:TI:={size:=2,bytes:=32,agg:=true,zero:=[.int .i64 0,.vs 3 [] .nil],kind:=.struct [(0,3,1),(1,341,1)],id:=342}
@[simp] theorem Jn:BI.size=2:=rfl
@[simp] theorem KP:BI.agg=true∧BI.zero=[.int .i64 0,.vs 3 [] .nil]∧BI.kind= .struct [(0,3,1),(1,341,1)]:=⟨rfl,rfl,rfl⟩
def Cj:TI:={size:=2,bytes:=32,agg:=true,zero:=[.int .i64 0,.vs 3 [] .nil],kind:=.struct [(0,3,1),(1,341,1)],id:=343}
@[simp] theorem Qj:Cj.size=2:=rfl
@[simp] theorem Te:Cj.agg=true∧Cj.zero=[.int .i64 0,.vs 3 [] .nil]∧Cj.kind= .struct [(0,3,1),(1,341,1)]:=⟨rfl,rfl,rfl⟩
def Df:TI:={size:=1,bytes:=8,agg:=false,zero:=[.nil],kind:=.ptr 350,id:=345}
@[simp] theorem fd:Df.size=1:=rfl
@[simp] theorem jp:Df.agg=false∧Df.zero=[.nil]∧Df.kind= .ptr 350:=⟨rfl,rfl,rfl⟩
@[simp] theorem jT:Df.id=Cw:=rfl
def B5:TI:={size:=1,bytes:=8,agg:=false,zero:=[.nilfn],kind:=.func,id:=346}
@[simp] theorem QL:B5.size=1:=rfl
@[simp] theorem SA:B5.agg=false∧B5.zero=[.nilfn]∧B5.kind= .func:=⟨rfl,rfl,rfl⟩
def Bh:TI:={size:=1,bytes:=24,agg:=false,zero:=[.vs 3 [] .nil],kind:=.slice 352,id:=348}
@[simp] theorem gS:Bh.size=1:=rfl
@[simp] theorem ly:Bh.agg=false∧Bh.zero=[.vs 3 [] .nil]∧Bh.kind= .slice 352:=⟨rfl,rfl,rfl⟩
def A2:TI:={size:=2,bytes:=32,agg:=true,zero:=[.vs 3 [] .nil,.nilfn],kind:=.struct [(0,348,1),(1,346,1)],id:=349}
@[simp] theorem IE:A2.size=2:=rfl
@[simp] theorem IX:A2.agg=true∧A2.zero=[.vs 3 [] .nil,.nilfn]∧A2.kind= .struct [(0,348,1),(1,346,1)]:=⟨rfl,rfl,rfl⟩
def Fg:TI:={size:=2,bytes:=32,agg:=true,zero:=[.vs 3 [] .nil,.nilfn],kind:=.struct [(0,348,1),(1,346,1)],id:=350}
@[simp] theorem i9:Fg.size=2:=rfl
@[simp] theorem mn:Fg.agg=true∧Fg.zero=[.vs 3 [] .nil,.nilfn]∧Fg.kind= .struct [(0,348,1),(1,346,1)]:=⟨rfl,rfl,rfl⟩
@[simp] theorem lW:Fg.id=Dh:=rfl
def CS:TI:={size:=3,bytes:=48,agg:=true,zero:=[.str [],.int .i64 0,.vs 1 [] .nil],kind:=.struct [(0,317,2),(2,42,1)],id:=351}
@[simp] theorem Pp:CS.size=3:=rfl
@[simp] theorem Rp:CS.agg=true∧CS.zero=[.str [],.int .i64 0,.vs 1 [] .nil]∧CS.kind= .struct [(0,317,2),(2,42,1)]:=⟨rfl,rfl,rfl⟩
def BE:TI:={size:=3,bytes:=48,agg:=true,zero:=[.str [],.int .i64 0,.vs 1 [] .nil],kind:=.struct [(0,317,2),(2,42,1)],id:=352}
@[simp] theorem UR:BE.size=3:=rfl
@[simp] theorem n5:BE.agg=true∧BE.zero=[.str [],.int .i64 0,.vs 1 [] .nil]∧BE.kind= .struct [(0,317,2),(2,42,1)]:=⟨rfl,rfl,rfl⟩
@[simp] theorem m4:BE.id=Vl:=rfl
def HB:TI:={size:=1,bytes:=8,agg:=false,zero:=[.nil],kind:=.ptr 352,id:=354}
@[simp] theorem gP:HB.size=1:=rfl
@[simp] theorem l0:HB.agg=false∧HB.zero=[.nil]∧HB.kind= .ptr 352:=⟨rfl,rfl,rfl⟩
def E2:TI:={size:=1,bytes:=16,agg:=true,zero:=[.str []],kind:=.struct [(0,9,1)],id:=357}
@[simp] theorem cB:E2.size=1:=rfl
@[simp] theorem fW:E2.agg=true∧E2.zero=[.str []]∧E2.kind= .struct [(0,9,1)]:=⟨rfl,rfl,rfl⟩
def FC:TI:={size:=1,bytes:=16,agg:=true,zero:=[.str []],kind:=.struct [(0,9,1)],id:=358}
@[simp] theorem fy:FC.size=1:=rfl
@[simp] theorem lb:FC.agg=true∧FC.zero=[.str []]∧FC.kind= .struct [(0,9,1)]:=⟨rfl,rfl,rfl⟩
@[simp] theorem jq:FC.id=DQ:=rfl
def Bp:TI:={size:=8,bytes:=96,agg:=true,zero:=[.str [],.int .i64 0,.bool false,.int .i64 0,.int .i64 0,.int .i64 0,.vs 2 [] .nil,.str []],kind:=.struct [(0,9,1),(1,131,7)],id:=373}
@[simp] theorem M8:Bp.size=8:=rfl
@[simp] theorem OU:Bp.agg=true∧Bp.zero=[.str [],.int .i64 0,.bool false,.int .i64 0,.int .i64 0,.int .i64 0,.vs 2 [] .nil,.str []]∧Bp.kind= .struct [(0,9,1),(1,131,7)]:=⟨rfl,rfl,rfl⟩
def Ci:TI:={size:=8,bytes:=96,agg:=true,zero:=[.str [],.int .i64 0,.bool false,.int .i64 0,.int .i64 0,.int .i64 0,.vs 2 [] .nil,.str []],kind:=.struct [(0,9,1),(1,131,7)],id:=374}
@[simp] theorem Qw:Ci.size=8:=rfl
@[simp] theorem Tb:Ci.agg=true∧Ci.zero=[.str [],.int .i64 0,.bool false,.int .i64 0,.int .i64 0,.int .i64 0,.vs 2 [] .nil,.str []]∧Ci.kind= .struct [(0,9,1),(1,131,7)]:=⟨rfl,rfl,rfl⟩
def Bv:TI:={size:=3,bytes:=48,agg:=true,zero:=[.str [],.int .i64 0,.vs 2 [] .nil],kind:=.struct [(0,9,1),(1,228,2)],id:=376}
@[simp] theorem NA:Bv.size=3:=rfl
@[simp] theorem Oa:Bv.agg=true∧Bv.zero=[.str [],.int .i64 0,.vs 2 [] .nil]∧Bv.kind= .struct [(0,9,1),(1,228,2)]:=⟨rfl,rfl,rfl⟩
def Cl:TI:={size:=3,bytes:=48,agg:=true,zero:=[.str [],.int .i64 0,.vs 2 [] .nil],kind:=.struct [(0,9,1),(1,228,2)],id:=377}
@[simp] theorem Rf:Cl.size=3:=rfl
@[simp] theorem UM:Cl.agg=true∧Cl.zero=[.str [],.int .i64 0,.vs 2 [] .nil]∧Cl.kind= .struct [(0,9,1),(1,228,2)]:=⟨rfl,rfl,rfl⟩
def Ax:TI:={size:=1,bytes:=16,agg:=false,zero:=[.nilifc],kind:=.iface,id:=379}
@[simp] theorem Hc:Ax.size=1:=rfl
@[simp] theorem IF:Ax.agg=false∧Ax.zero=[.nilifc]∧Ax.kind= .iface:=⟨rfl,rfl,rfl⟩
def FT:TI:={size:=1,bytes:=16,agg:=false,zero:=[.nilifc],kind:=.iface,id:=380}
@[simp] theorem dA:FT.size=1:=rfl
@[simp] theorem iA:FT.agg=false∧FT.zero=[.nilifc]∧FT.kind= .iface:=⟨rfl,rfl,rfl⟩
def C3:TI:={size:=0,bytes:=0,agg:=true,zero:=[],kind:=.array 0 16,id:=429}
@[simp] theorem Tv:C3.size=0:=rfl
@[simp] theorem VK:C3.agg=true∧C3.zero=[]∧C3.kind= .array 0 16:=⟨rfl,rfl,rfl⟩
def CC:TI:={size:=0,bytes:=0,agg:=true,zero:=[],kind:=.struct [(0,429,0)],id:=430}
@[simp] theorem Oc:CC.size=0:=rfl
@[simp] theorem P4:CC.agg=true∧CC.zero=[]∧CC.kind= .struct [(0,429,0)]:=⟨rfl,rfl,rfl⟩
def DX:TI:={size:=0,bytes:=0,agg:=true,zero:=[],kind:=.struct [(0,429,0)],id:=431}
@[simp] theorem V2:DX.size=0:=rfl
@[simp] theorem Yh:DX.agg=true∧DX.zero=[]∧DX.kind= .struct [(0,429,0)]:=⟨rfl,rfl,rfl⟩
def JX:TI:={size:=1,bytes:=1,agg:=false,zero:=[.int .u8 0],kind:=.int .u8,id:=432}
@[simp] theorem jt:JX.size=1:=rfl
@[simp] theorem ni:JX.agg=false∧JX.zero=[.int .u8 0]∧JX.kind= .int .u8:=⟨rfl,rfl,rfl⟩
def Kl:TI:={size:=1,bytes:=1,agg:=false,zero:=[.int .u8 0],kind:=.int .u8,id:=433}
@[simp] theorem lz:Kl.size=1:=rfl
@[simp] theorem oP:Kl.agg=false∧Kl.zero=[.int .u8 0]∧Kl.kind= .int .u8:=⟨rfl,rfl,rfl⟩
def Bg:TI:={size:=1,bytes:=8,agg:=false,zero:=[.nilfn],kind:=.func,id:=434}
@[simp] theorem MB:Bg.size=1:=rfl
@[simp] theorem M6:Bg.agg=false∧Bg.zero=[.nilfn]∧Bg.kind= .func:=⟨rfl,rfl,rfl⟩
def HD:TI:={size:=1,bytes:=4,agg:=false,zero:=[.int .i32 0],kind:=.int .i32,id:=435}
@[simp] theorem gc:HD.size=1:=rfl
@[simp] theorem lj:HD.agg=false∧HD.zero=[.int .i32 0]∧HD.kind= .int .i32:=⟨rfl,rfl,rfl⟩
def Gu:TI:={size:=1,bytes:=4,agg:=false,zero:=[.int .i32 0],kind:=.int .i32,id:=436}
@[simp] theorem gm:Gu.size=1:=rfl
@[simp] theorem lY:Gu.agg=false∧Gu.zero=[.int .i32 0]∧Gu.kind= .int .i32:=⟨rfl,rfl,rfl⟩
def Au:TI:={size:=11,bytes:=48,agg:=true,zero:=[.int .u64 0,.int .u64 0,.int .u32 0,.int .u8 0,.int .u8 0,.int .u8 0,.int .u8 0,.nilfn,.nil,.int .i32 0,.int .i32 0],kind:=.struct [(0,12,1),(1,12,1),(2,318,1),(3,432,1),(4,5,1),(5,5,1),(6,433,1),(7,434,1),(8,280,1),(9,435,1),(10,436,1)],id:=437}
@[simp] theorem Hf:Au.size=11:=rfl
@[simp] theorem IR:Au.agg=true∧Au.zero=[.int .u64 0,.int .u64 0,.int .u32 0,.int .u8 0,.int .u8 0,.int .u8 0,.int .u8 0,.nilfn,.nil,.int .i32 0,.int .i32 0]∧Au.kind= .struct [(0,12,1),(1,12,1),(2,318,1),(3,432,1),(4,5,1),(5,5,1),(6,433,1),(7,434,1),(8,280,1),(9,435,1),(10,436,1)]:=⟨rfl,rfl,rfl⟩
def Kt:TI:={size:=11,bytes:=48,agg:=true,zero:=[.int .u64 0,.int .u64 0,.int .u32 0,.int .u8 0,.int .u8 0,.int .u8 0,.int .u8 0,.nilfn,.nil,.int .i32 0,.int .i32 0],kind:=.struct [(0,12,1),(1,12,1),(2,318,1),(3,432,1),(4,5,1),(5,5,1),(6,433,1),(7,434,1),(8,280,1),(9,435,1),(10,436,1)],id:=438}
@[simp] theorem lV:Kt.size=11:=rfl
@[simp] theorem oI:Kt.agg=true∧Kt.zero=[.int .u64 0,.int .u64 0,.int .u32 0,.int .u8 0,.int .u8 0,.int .u8 0,.int .u8 0,.nilfn,.nil,.int .i32 0,.int .i32 0]∧Kt.kind= .struct [(0,12,1),(1,12,1),(2,318,1),(3,432,1),(4,5,1),(5,5,1),(6,433,1),(7,434,1),(8,280,1),(9,435,1),(10,436,1)]:=⟨rfl,rfl,rfl⟩
def qZ:Nat→TI
 |1=>YF
 |2=>Th
 |3=>AN
 |4=>Dg
 |5=>HG
 |6=>Dv
 |7=>A0
 |8=>Dw
 |9=>AG
 |10=>Du
 |12=>M2
 |16=>DG
 |17=>Hn
 |18=>DY
 |20=>JS
 |21=>Tx
 |22=>Eb
 |23=>JL
 |24=>CA
 |25=>CH
 |26=>AK
 |27=>E5
 |29=>Bi
 |30=>Fu
 |31=>Dy
 |32=>BG
 |33=>E1
 |34=>Cn
 |35=>Gv
 |40=>Ad
 |41=>GY
 |42=>AX
 |46=>Cz
 |47=>Bf
 |48=>Gy
 |49=>DD
 |50=>Ba
 |51=>Bu
 |52=>CX
 |53=>Aj
 |54=>C1
 |56=>Ap
 |61=>BJ
 |62=>Et
 |63=>Dx
 |67=>Fp
 |69=>Cp
 |70=>Bn
 |71=>Bm
 |77=>Iy
 |79=>GV
 |80=>B7
 |81=>Fh
 |82=>As
 |83=>Ay
 |84=>AE
 |86=>Ao
 |87=>BQ
 |88=>Ar
 |89=>AB
 |94=>Bl
 |95=>BF
 |96=>E3
 |98=>Gi
 |104=>B3
 |105=>A3
 |109=>FS
 |112=>Az
 |113=>Gc
 |125=>Bc
 |126=>Aq
 |127=>AF
 |130=>Am
 |131=>GK
 |134=>FQ
 |136=>FO
 |138=>FX
 |139=>A5
 |140=>JF
 |141=>Aw
 |142=>Ft
 |145=>Fo
 |154=>EO
 |157=>BL
 |158=>BA
 |164=>EE
 |168=>DJ
 |170=>BN
 |171=>AY
 |176=>Be
 |184=>BT
 |185=>BB
 |186=>Eq
 |192=>B4
 |193=>CO
 |194=>JZ
 |195=>ET
 |196=>BX
 |197=>DM
 |198=>DR
 |199=>SS
 |201=>XC
 |206=>JM
 |221=>Cm
 |223=>A6
 |224=>GN
 |225=>Cx
 |227=>CD
 |228=>G4
 |229=>BS
 |230=>GR
 |232=>SQ
 |235=>CY
 |236=>Cs
 |237=>Bd
 |238=>Cy
 |239=>An
 |240=>Eh
 |246=>CW
 |247=>C0
 |248=>C2
 |249=>A4
 |261=>Cd
 |262=>Ag
 |274=>DW
 |280=>Mx
 |286=>Bw
 |287=>Cq
 |288=>EP
 |292=>B8
 |293=>BR
 |294=>C4
 |295=>CK
 |297=>CB
 |298=>BZ
 |299=>C6
 |300=>CP
 |302=>Cu
 |303=>Ae
 |311=>H8
 |313=>Gx
 |316=>Cv
 |317=>BO
 |318=>PJ
 |323=>FW
 |324=>Dp
 |326=>Bk
 |327=>EG
 |338=>CQ
 |339=>BH
 |340=>CZ
 |341=>CV
 |342=>BI
 |343=>Cj
 |345=>Df
 |346=>B5
 |348=>Bh
 |349=>A2
 |350=>Fg
 |351=>CS
 |352=>BE
 |354=>HB
 |357=>E2
 |358=>FC
 |373=>Bp
 |374=>Ci
 |376=>Bv
 |377=>Cl
 |379=>Ax
 |380=>FT
 |429=>C3
 |430=>CC
 |431=>DX
 |432=>JX
 |433=>Kl
 |434=>Bg
 |435=>HD
 |436=>Gu
 |437=>Au
 |438=>Kt
 |n=>{size:=0,bytes:=0,agg:=false,zero:=[],kind:=match n with|0|36|44|55|58|64|72|90|106|119|123|146|148|152|162|173|180|189|203|208|211|214|217|233|251|256|269|277|282|308|361|370|387|389|391|403|407|418=>.tuple|_=>.other}
def sW:Nat→Nat→Bool
 |3,3=>true
 |3,7=>true
 |3,8=>true
 |4,3=>true
 |4,4=>true
 |4,7=>true
 |4,13=>true
 |4,15=>true
 |4,17=>true
 |5,2=>true
 |5,5=>true
 |5,7=>true
 |5,15=>true
 |6,7=>true
 |6,10=>true
 |6,12=>true
 |6,13=>true
 |6,14=>true
 |7,7=>true
 |7,13=>true
 |7,14=>true
 |7,18=>true
 |8,5=>true
 |8,9=>true
 |8,11=>true
 |8,12=>true
 |8,13=>true
 |8,14=>true
 |8,18=>true
 |8,20=>true
 |9,7=>true
 |9,11=>true
 |9,15=>true
 |9,16=>true
 |9,17=>true
 |10,5=>true
 |10,10=>true
 |10,11=>true
 |10,13=>true
 |10,14=>true
 |11,1=>true
 |11,4=>true
 |11,5=>true
 |11,9=>true
 |13,4=>true
 |14,4=>true
 |16,4=>true
 |17,2=>true
 |17,5=>true
 |17,6=>true
 |18,6=>true
 |18,10=>true
 |18,18=>true
 |19,3=>true
 |19,6=>true
 |19,14=>true
 |21,7=>true
 |25,6=>true
 |26,4=>true
 |27,1=>true
 |27,4=>true
 |27,5=>true
 |27,6=>true
 |27,7=>true
 |28,6=>true
 |29,2=>true
 |30,4=>true
 |30,5=>true
 |31,2=>true
 |31,3=>true
 |31,4=>true
 |31,5=>true
 |31,10=>true
 |32,2=>true
 |32,3=>true
 |33,3=>true
 |33,4=>true
 |33,9=>true
 |35,1=>true
 |37,4=>true
 |37,5=>true
 |38,4=>true
 |40,4=>true
 |40,6=>true
 |41,1=>true
 |41,2=>true
 |41,3=>true
 |41,4=>true
 |42,4=>true
 |44,5=>true
 |45,2=>true
 |45,3=>true
 |46,3=>true
 |46,10=>true
 |47,1=>true
 |49,1=>true
 |50,2=>true
 |51,1=>true
 |52,3=>true
 |53,3=>true
 |54,2=>true
 |54,4=>true
 |54,6=>true
 |55,4=>true
 |56,2=>true
 |57,7=>true
 |57,12=>true
 |57,13=>true
 |57,15=>true
 |57,17=>true
 |58,1=>true
 |61,1=>true
 |62,1=>true
 |65,2=>true
 |65,3=>true
 |65,4=>true
 |66,5=>true
 |67,3=>true
 |67,6=>true
 |67,8=>true
 |67,10=>true
 |68,2=>true
 |72,6=>true
 |76,2=>true
 |76,7=>true
 |81,2=>true
 |82,0=>true
 |84,2=>true
 |84,3=>true
 |84,4=>true
 |85,2=>true
 |86,2=>true
 |86,3=>true
 |86,4=>true
 |86,5=>true
 |86,7=>true
 |86,11=>true
 |88,2=>true
 |88,4=>true
 |90,5=>true
 |90,6=>true
 |90,7=>true
 |90,10=>true
 |91,1=>true
 |92,4=>true
 |92,6=>true
 |92,7=>true
 |93,5=>true
 |94,4=>true
 |95,4=>true
 |95,5=>true
 |96,2=>true
 |96,3=>true
 |96,4=>true
 |96,6=>true
 |97,2=>true
 |97,4=>true
 |98,5=>true
 |98,8=>true
 |100,4=>true
 |100,6=>true
 |101,2=>true
 |101,3=>true
 |102,4=>true
 |102,6=>true
 |105,2=>true
 |105,3=>true
 |106,2=>true
 |106,3=>true
 |111,0=>true
 |118,1=>true
 |119,2=>true
 |119,4=>true
 |122,8=>true
 |122,10=>true
 |123,7=>true
 |123,10=>true
 |127,3=>true
 |127,8=>true
 |127,10=>true
 |128,1=>true
 |129,1=>true
 |130,1=>true
 |132,2=>true
 |135,8=>true
 |137,4=>true
 |141,10=>true
 |144,8=>true
 |145,9=>true
 |146,2=>true
 |146,7=>true
 |146,11=>true
 |150,4=>true
 |150,5=>true
 |150,6=>true
 |150,15=>true
 |151,2=>true
 |152,6=>true
 |155,7=>true
 |156,5=>true
 |157,2=>true
 |157,5=>true
 |159,2=>true
 |161,3=>true
 |161,4=>true
 |161,5=>true
 |161,6=>true
 |163,2=>true
 |176,1=>true
 |177,3=>true
 |177,6=>true
 |177,8=>true
 |178,4=>true
 |179,1=>true
 |179,2=>true
 |180,5=>true
 |183,1=>true
 |194,4=>true
 |195,5=>true
 |197,5=>true
 |201,2=>true
 |204,4=>true
 |204,5=>true
 |206,2=>true
 |208,9=>true
 |218,3=>true
 |218,11=>true
 |220,4=>true
 |220,7=>true
 |220,8=>true
 |221,5=>true
 |223,1=>true
 |227,4=>true
 |227,7=>true
 |227,8=>true
 |228,5=>true
 |229,2=>true
 |229,3=>true
 |237,11=>true
 |254,1=>true
 |255,7=>true
 |256,1=>true
 |257,6=>true
 |258,4=>true
 |261,6=>true
 |262,4=>true
 |329,4=>true
 |_,_=>false
def qV:Nat→Nat→List Nat×List Nat
 |3,8=>([22],[])
 |4,8=>([44],[3,4])
 |4,23=>([129],[15,17])
 |5,14=>([70],[7])
 |5,19=>([83],[])
 |6,10=>([40],[10])
 |7,18=>([15,82],[13,14])
 |8,11=>([47],[9])
 |9,14=>([12,13,49],[11])
 |10,10=>([42],[])
 |16,4=>([10],[])
 |17,4=>([14],[2])
 |18,5=>([36],[6,10])
 |19,4=>([],[3,6])
 |22,3=>([3,7],[])
 |28,4=>([13],[])
 |30,7=>([6],[5])
 |31,31=>([13],[2,3,4,5])
 |32,4=>([5],[2,3])
 |36,2=>([9],[])
 |39,3=>([3,4],[])
 |42,4=>([10],[])
 |44,3=>([3,9],[])
 |44,6=>([6],[5])
 |46,4=>([8,18],[])
 |48,5=>([9],[])
 |49,2=>([3],[1])
 |50,5=>([24],[2])
 |52,19=>([5,69],[])
 |53,19=>([5,6],[3])
 |54,3=>([11],[2,4])
 |58,3=>([3,7],[1])
 |64,1=>([],[])
 |67,3=>([17],[3,8])
 |73,3=>([3,4],[])
 |73,6=>([3,5],[])
 |73,11=>([6,7],[])
 |86,9=>([],[3,7,11])
 |87,2=>([5],[])
 |102,2=>([0,9],[])
 |102,5=>([19],[4])
 |112,9=>([11,31],[])
 |114,5=>([4,5],[])
 |117,5=>([3,4],[])
 |125,3=>([11],[])
 |126,3=>([11],[])
 |127,3=>([27],[])
 |127,11=>([59],[])
 |128,2=>([3],[1])
 |129,3=>([3,4],[1])
 |130,3=>([3,4],[1])
 |131,4=>([2,17],[])
 |138,3=>([3,11],[])
 |139,3=>([3,11],[])
 |140,6=>([0,4,5,6],[])
 |142,4=>([5,6,7],[])
 |143,7=>([6],[])
 |146,3=>([22],[2])
 |146,11=>([9,45],[2])
 |149,3=>([0,3,4],[])
 |149,5=>([5],[])
 |150,13=>([0,7,9],[4,5,6])
 |150,28=>([0,7,13],[4,5,6])
 |152,2=>([5],[])
 |152,7=>([7,8],[6])
 |153,5=>([9,10],[])
 |156,3=>([3,11],[])
 |162,2=>([8],[])
 |166,2=>([7,8],[])
 |166,7=>([6],[])
 |166,9=>([7,8],[])
 |167,4=>([13],[])
 |177,5=>([29],[6])
 |186,3=>([7,8],[])
 |189,4=>([3],[])
 |190,3=>([5,6],[])
 |191,2=>([5],[])
 |192,3=>([5,6],[])
 |193,3=>([3,4],[])
 |197,3=>([3,8],[])
 |198,4=>([4,13],[])
 |198,12=>([7],[])
 |199,3=>([3,7],[])
 |201,2=>([5],[2])
 |202,2=>([5],[])
 |204,11=>([6],[5])
 |204,19=>([9],[5])
 |209,1=>([8],[])
 |209,4=>([9],[])
 |210,3=>([10,11],[])
 |210,9=>([13],[])
 |210,15=>([14,15],[])
 |210,21=>([17],[])
 |210,33=>([20,21],[])
 |218,16=>([66],[])
 |222,4=>([5],[])
 |223,4=>([3],[1])
 |230,2=>([3],[])
 |234,3=>([3,4],[])
 |237,6=>([32],[])
 |238,2=>([10,11],[])
 |255,3=>([5,10],[])
 |256,2=>([8],[1])
 |257,2=>([12],[])
 |261,2=>([12],[])
 |263,2=>([7],[])
 |264,0=>([1],[])
 |265,5=>([6,24],[])
 |270,1=>([10],[])
 |_,_=>([],[])
def pL:List Nat:=[1,2,3,4,5,6,7,8,9,10,12,16,17,18,20,21,22,23,24,25,26,27,29,30,31,32,33,34,35,40,41,42,46,47,48,49,50,51,52,53,54,56,61,62,63,67,69,70,71,77,79,80,81,82,83,84,86,87,88,89,94,95,96,98,104,105,109,112,113,125,126,127,130,131,134,136,138,139,140,141,142,145,154,157,158,164,168,170,171,176,184,185,186,192,193,194,195,196,197,198,199,201,206,221,223,224,225,227,228,229,230,232,235,236,237,238,239,240,246,247,248,249,261,262,274,280,286,287,288,292,293,294,295,297,298,299,300,302,303,311,313,316,317,318,323,324,326,327,338,339,340,341,342,343,345,346,348,349,350,351,352,354,357,358,373,374,376,377,379,380,429,430,431,432,433,434,435,436,437,438]
def uB:Nat:=1418220548542796804887757914153769876355014649239139100936136702304076702074087791713769874817009103945720409459995047702617793173502
def jB(t:Nat):Bool:=Nat.testBit uB t
def qq:List Nat:=[7,8,29,30,32,33,34,35,46,47,69,70,71,86,87,104,105,302,303,316,317,357,358]
def l7:Nat→Bool
 |7=>true
 |8=>true
 |29=>true
 |30=>true
 |32=>true
 |33=>true
 |34=>true
 |35=>true
 |46=>true
 |47=>true
 |69=>true
 |70=>true
 |71=>true
 |86=>true
 |87=>true
 |104=>true
 |105=>true
 |302=>true
 |303=>true
 |316=>true
 |317=>true
 |357=>true
 |358=>true
 |_=>false
def pB:Nat→Bool
 |249=>true
 |295=>true
 |300=>true
 |352=>true
 |374=>true
 |377=>true
 |_=>false
def Ji(t:Nat)(m:String):Option Nat:=
 match t with
 |79=>if m= "Add" then some Gl else if m= "Begin" then some Ep else if m= "Do" then some BW else if m= "Page" then some E6 else if m= "Remove" then some EZ else if m= "Stale" then some DV else if m= "socage/spec.change" then some EU else none
 |345=>if m= "Len" then some FL else if m= "Less" then some GC else if m= "Pop" then some Gf else if m= "Swap" then some GF else none
 |_=>none
@[simp] theorem dG:Ji Cw "Len" =some FL:=by simp[Ji]
@[simp] theorem bu:Ji Cw "Less" =some GC:=by simp[Ji]
@[simp] theorem dC:Ji Cw "Pop" =some Gf:=by simp[Ji]
@[simp] theorem az:Ji Cw "Swap" =some GF:=by simp[Ji]
def uD:Nat→Nat→Bool
 |131,2=>true
 |131,3=>true
 |131,4=>true
 |131,38=>true
 |131,40=>true
 |131,43=>true
 |_,_=>false
def C:Ctx:={ty:=qZ,has:=jB,eqk:=l7,loc:=sW,byref:=pB,meth:=Ji,live:=qV,tk:=uD}
@[simp] theorem nH:C.meth=Ji:=rfl
noncomputable def En(w0:World):Env:=⟨Tryz.prog,C,w0⟩
theorem da{m n t:Nat}(h:Nat.ble (m.log2+1) n=true)(c:¬t < n):m.testBit t=false:=by
 by_cases h0:m=0
 ·rw[h0];exact Nat.zero_testBit t
 ·exact Nat.testBit_lt_two_pow (Nat.lt_of_lt_of_le ((Nat.log2_lt h0).1 (Nat.le_of_ble_eq_true h)) (Nat.pow_le_pow_right (by decide) (Nat.le_of_not_lt c)))
theorem kp:∀t,jB t=true→pL.elem t=true:=by
 intro t h
 by_cases c:t < 439
 ·have h2:=List.all_eq_true.1 (show (List.range 439).all (fun t=>!(jB t)||pL.elem t)=true by kernel_rfl) t (List.mem_range.2 c)
  rw[h] at h2;simpa using h2
 ·unfold jB at h;rw[da (n:=439) (by kernel_rfl) c] at h
  cases h
theorem kq:∀t,l7 t=true→qq.elem t=true:=by
 intro t h;unfold l7 at h;split at h<;>first|rfl|cases h
theorem sT:pL.all (fun t=>Wf Tryz.prog t (qZ t))=true:=by kernel_rfl
theorem sS:qq.all (fun t=>Pj Tryz.prog t (qZ t).zero)=true:=by kernel_rfl
theorem sH(v:Value)(w:World):(method (Tryz.prog.types.size+Made.depth) 79 v "Add").run Tryz.prog w= .ok (95,v) w:=by kernel_rfl
theorem sv(v:Value)(w:World):(method (Tryz.prog.types.size+Made.depth) 79 v "Begin").run Tryz.prog w= .ok (38,v) w:=by kernel_rfl
theorem tV(v:Value)(w:World):(method (Tryz.prog.types.size+Made.depth) 79 v "Do").run Tryz.prog w= .ok (33,v) w:=by kernel_rfl
theorem sc(v:Value)(w:World):(method (Tryz.prog.types.size+Made.depth) 79 v "Page").run Tryz.prog w= .ok (92,v) w:=by kernel_rfl
theorem su(v:Value)(w:World):(method (Tryz.prog.types.size+Made.depth) 79 v "Remove").run Tryz.prog w= .ok (37,v) w:=by kernel_rfl
theorem sP(v:Value)(w:World):(method (Tryz.prog.types.size+Made.depth) 79 v "Stale").run Tryz.prog w= .ok (40,v) w:=by kernel_rfl
theorem tU(v:Value)(w:World):(method (Tryz.prog.types.size+Made.depth) 79 v "socage/spec.change").run Tryz.prog w= .ok (98,v) w:=by kernel_rfl
theorem tQ(v:Value)(w:World):(method (Tryz.prog.types.size+Made.depth) 345 v "Len").run Tryz.prog w= .ok (231,v) w:=by kernel_rfl
theorem sL(v:Value)(w:World):(method (Tryz.prog.types.size+Made.depth) 345 v "Less").run Tryz.prog w= .ok (328,v) w:=by kernel_rfl
theorem sV(v:Value)(w:World):(method (Tryz.prog.types.size+Made.depth) 345 v "Pop").run Tryz.prog w= .ok (329,v) w:=by kernel_rfl
theorem rD(v:Value)(w:World):(method (Tryz.prog.types.size+Made.depth) 345 v "Swap").run Tryz.prog w= .ok (330,v) w:=by kernel_rfl
theorem qp:∀t m g,Ji t m=some g→∀v w,(method (Tryz.prog.types.size+Made.depth) t v m).run Tryz.prog w= .ok (g,v) w:=by
 intro t m g h v w;unfold Ji at h;split at h
 ·split at h
  ·rename_i e;subst e;cases h;exact sH v w
  split at h
  ·rename_i e;subst e;cases h;exact sv v w
  split at h
  ·rename_i e;subst e;cases h;exact tV v w
  split at h
  ·rename_i e;subst e;cases h;exact sc v w
  split at h
  ·rename_i e;subst e;cases h;exact su v w
  split at h
  ·rename_i e;subst e;cases h;exact sP v w
  split at h
  ·rename_i e;subst e;cases h;exact tU v w
  cases h
 ·split at h
  ·rename_i e;subst e;cases h;exact tQ v w
  split at h
  ·rename_i e;subst e;cases h;exact sL v w
  split at h
  ·rename_i e;subst e;cases h;exact sV v w
  split at h
  ·rename_i e;subst e;cases h;exact rD v w
  cases h
 ·cases h
theorem agree(w0:World):Agree (En w0):=mb (En w0) pL qq kp kq sT sS qp
theorem mixed:Tryz.prog.follows .mixedOrders=true:=by kernel_rfl
theorem dl(w0:World):Lf (En w0) (AP (En w0)):=fun _ _ _ _ h=>h
theorem Wc(w0:World):ER (AP (En w0)):=fun g xs S Q Q' h hq=>⟨h.1,fun G w hr hro args' hl ha=>(h.2 G w hr hro args' hl ha).mono fun e w' ⟨v,r,S',G',h1,h2,h3⟩=>⟨v,r,S',G',h1,hq _ _ h2,h3⟩⟩
theorem sN(w0:World){n:Nat}{fn:Func}(hf:Tryz.prog.funcs[n]? =some fn)(hname:(fn.name== "runtime.NumGoroutine")=false) {args:List AV} {S:St} {Q:AV→St→Prop}
  (h:WF C (AP (En w0)) n (Drw C (AP (En w0)) n) fn args S Q):AP (En w0) n args S Q:=
 mZ (E:=En w0) (agree w0) (dl w0) (Wc w0) (kL (agree w0) (dl w0) (Wc w0) mixed) (mH (Wc w0)) hf hname h
abbrev AC(w0:World):=AP (En w0)
abbrev CaT:=Nat→List AV→St→(AV→St→Prop)→Prop
abbrev QT:=AV→St→Prop
theorem Ac(w0:World){n:Nat}{fn:Func}(hf:Tryz.prog.funcs[n]? =some fn)(hname:(fn.name== "runtime.NumGoroutine")=false) {args:List AV} {S:St} {Q:QT} {P:Prop} (e:WF C (AP (En w0)) n (Drw C (AP (En w0)) n) fn args S Q=P) (h:P):AP (En w0) n args S Q:=sN w0 hf hname (by rw[e];exact h)
theorem bZ{w0:World}{g:Nat}{xs:List AV}{S:St}{Q Q':AV→St→Prop}(h:AC w0 g xs S Q)(hq:∀r S',Q r S'→Q' r S'):AC w0 g xs S Q':=Wc w0 g xs S Q Q' h hq
abbrev NT:=@Tryz.underlying3
abbrev pH:=@Tryz.underlying4
abbrev eJ:=@Tryz.underlying5
abbrev l8:=@Tryz.isAgg5
abbrev nQ:=@Tryz.sizeOf5
abbrev mq:=@Tryz.zeroValue5
abbrev KS:=@Tryz.underlying9
abbrev Dd:=@Tryz.underlying40
abbrev dM:=@Tryz.underlying42
abbrev VD:=@Tryz.underlying77
abbrev js:=@Tryz.underlying87
abbrev V1:=@Tryz.underlying125
abbrev Fc:=@Tryz.underlying127
abbrev Y8:=@Tryz.underlying303
theorem ku:Tryz.prog.cellsOf Dj=1:=by kernel_rfl
theorem aD:Tryz.prog.cellsOf Xm=6:=by kernel_rfl
theorem Om:Tryz.prog.cellsOf Nt=7:=by kernel_rfl
theorem Zo:Tryz.prog.cellsOf Hs=2:=by kernel_rfl
abbrev fn_strings_Cut:=@Tryz.func109
abbrev fn_strings_Contains:=@Tryz.func110
abbrev fn_strconv_Itoa:=@Tryz.func115
abbrev IU:=@Tryz.func120
abbrev Fk:=@Tryz.func164
abbrev Fw:=@Tryz.func165
abbrev fn_strings_SplitN:=@Tryz.func171
abbrev fn_strconv_Atoi:=@Tryz.func172
abbrev fn_strings_IndexByte:=@Tryz.func173
abbrev UV:=@Tryz.func184
abbrev NM:=@Tryz.func224
abbrev Sj:=@Tryz.func269
set_option maxHeartbeats 2000000
open Go.Proofs
def G_top_WholeCalls(Ca:CaT)(a0:List (List AV))(a0r:Rt)(a1:List (List AV))(a1r:Rt)(S0:St)(Q:QT):Prop:=
 Ca F_top_one [] S0 fun t15 S=>
 AA (unA .not t15) fun t16=>
 AL (fun (x19:AV) (S_3:St)=>
 AA (AZ (AV.strip t16) (.bool true) x19) fun t20=>
 ifK (AV.strip t20)
 (Q (.bool false) S_3)
 (Ca JU [(.vs 7 a0 (Rt.strip (Rt.strip a0r)))] S_3 fun t22 S_4=>
 AA (AJ .eql t22 (.int .i64 0)) fun t23=>
 AL (fun (x27:AV) (S_6:St)=>
 AA (AZ (AV.strip t23) (.bool true) x27) fun t28=>
 ifK (AV.strip t28)
 (Q (.bool true) S_6)
 (Ca G6 [(.vs 7 a0 (Rt.strip (Rt.strip a0r)))] S_6 fun t31 S_7=>
 AA (AM t31 0) fun t32=>
 AA (AM (AS t31 0) 1) fun t33=>
 AA (AI AK (some [(.vs 2 [] .nil),(.int .i64 0)]) 0 t32) fun b5=>
 AA (unA .not (AV.strip t33)) fun t35=>
 ifK t35
 (Q (.bool false) S_7)
 (AA (AD AK (some b5) 0) fun t36=>
 AA (AD AK (some b5) 0) fun t38=>
 AU Ca HR [(AV.strip t36),(.int .i64 3)] S_7 fun t37 S_8=>
 AU Ca HR [(AV.strip t38),(.int .i64 3)] S_8 fun t39 S_9=>
 AL (fun (S_21:St)=>
 Q (.bool true) S_21) fun j_5=>
 Bo ([(.int .i64 0)],[]) (fun v bx=>([v 42],[])) (fun nx v bx S_10=>
 AA (AJ .lss (v 42) (.int .i64 (List.length a1:Int))) fun t43=>
 ifK t43
 (AA (Aa BQ (.vs 6 a1 (Rt.strip a1r)) (v 42)) fun t44=>
 AA (AO BQ S_10 t44) fun t45=>
 AA (AI BQ (some BQ.zero) 0 (AV.strip t45)) fun b10=>
 AA (AD BQ (some b10) 0) fun t46=>
 AU Ca F_ref19_Only [(AV.strip t46)] S_10 fun t47 S_11=>
 AA (unA .not t47) fun t48=>
 ifK t48
 (Q (.bool true) S_11)
 (AA (AD BQ (some b10) 0) fun t50=>
 AU Ca F_call_Text [(AV.strip t50)] S_11 fun t51 S_12=>
 AU Ca F_call_Parse [t51] S_12 fun t52 S_13=>
 AA (AM t52 0) fun t53=>
 AA (AM (AS t52 0) 1) fun t54=>
 AA (AI BQ (some BQ.zero) 0 t53) fun b11=>
 AA (AD BQ (some b10) 0) fun t56=>
 AA (AD BQ (some b11) 0) fun t59=>
 AU Ca BW [(AV.strip t37),(AV.strip t56)] S_13 fun t57 S_14=>
 AU Ca BW [(AV.strip t39),(AV.strip t59)] S_14 fun t60 S_15=>
 AA (AI AB (some AB.zero) 0 t57) fun b13=>
 AA (AI AB (some AB.zero) 0 t60) fun b14=>
 AA (unA .not (AV.strip t54)) fun t62=>
 AL (fun (x67:AV) (S_17:St)=>
 AA (AZ (AV.strip t62) (.bool true) x67) fun t68=>
 AL (fun (x78:AV) (S_20:St)=>
 AA (AZ (AV.strip (AV.strip t68)) (.bool true) x78) fun t79=>
 ifK (AV.strip t79)
 (Q (.bool false) S_20)
 (AA (AJ .add (v 42) (.int .i64 1)) fun t80=>
 nx ([(AV.strip t80)],[]) S_20)) fun j_3=>
 ifK (AV.strip (AV.strip t68))
 (j_3 (.tup []) S_17)
 (AA (some b10) fun _=>
 AA (AD AN (some b10) 0) fun t71=>
 AA (AD AB (some b13) 0) fun t72=>
 AA (some b10) fun _=>
 AA (AD AN (some b10) 0) fun t75=>
 AA (AD AB (some b14) 0) fun t76=>
 AU Ca F_call_Show [(AV.strip t71),(AV.strip t72)] S_17 fun t73 S_18=>
 AU Ca F_ref19_Show [(AV.strip t75),(AV.strip t76)] S_18 fun t77 S_19=>
 AA (AJ .neq t73 t77) fun t78=>
 j_3 t78 S_19)) fun j_4=>
 ifK (AV.strip t62)
 (j_4 (.tup []) S_15)
 (AA (AD AB (some b13) 0) fun t64=>
 AA (AD AB (some b14) 0) fun t65=>
 AU Ca Hm [(AV.strip t64),(AV.strip t65)] S_15 fun t66 S_16=>
 AA (unA .not t66) fun t67=>
 j_4 t67 S_16)))
 (j_5 S_10)) S_9))) fun j_2=>
 ifK (AV.strip t23)
 (j_2 (.tup []) S_4)
 (Ca Ld [(.vs 6 a1 (Rt.strip (Rt.strip a1r))),(.int .i64 40)] S_4 fun t26 S_5=>
 AA (AJ .eql t26 (.int .i64 0)) fun t27=>
 j_2 t27 S_5))) fun j=>
 ifK (AV.strip t16)
 (j (.tup []) S)
 (Ca F_call_Hex [(.str [97])] S fun t18 S_2=>
 AA (AJ .neq t18 (.str [54,49])) fun t19=>
 j t19 S_2)
theorem top_WholeCalls_ok{w0 a0 a0r a1 a1r S0 Q}(h:G_top_WholeCalls (AP (En w0)) a0 a0r a1 a1r S0 Q):AC w0 F_top_WholeCalls [(.vs 7 a0 a0r),(.vs 6 a1 a1r)] S0 Q:=Ac w0 Tryz.func10 (by kernel_rfl) (by kernel_rfl) h
def VU(Ca:CaT)(a0:List (List AV))(a0r:Rt)(S0:St)(Q:QT):Prop:=
 ifK (.bool (decide ((List.length a0:Int) > 8)))
 (Q (.int .i64 0) S0)
 (AL (fun (S_5:St)=>
 Q (.int .i64 1) S_5) fun j_2=>
 Bo ([(.int .i64 0)],[]) (fun v bx=>([v 10],[])) (fun nx v bx S=>
 AA (AJ .lss (v 10) (.int .i64 (List.length a0:Int))) fun t11=>
 ifK t11
 (AA (Aa AF (.vs 7 a0 (Rt.strip a0r)) (v 10)) fun t12=>
 AA (AO AF S t12) fun t13=>
 AA (AI AF (some AF.zero) 0 (AV.strip t13)) fun b4=>
 AA (AD AF (some b4) 0) fun t14=>
 AU Ca I4 [(AV.strip t14)] S fun t15 S_2=>
 AA (AJ .eql t15 (.int .i64 0)) fun t16=>
 AL (fun (x20:AV) (S_4:St)=>
 AA (AZ (AV.strip t16) (.bool true) x20) fun t21=>
 ifK (AV.strip t21)
 (Q (.int .i64 0) S_4)
 (AA (AJ .add (v 10) (.int .i64 1)) fun t22=>
 nx ([(AV.strip t22)],[]) S_4)) fun j=>
 ifK (AV.strip t16)
 (j (.tup []) S_2)
 (AA (AD AF (some b4) 0) fun t18=>
 AU Ca G9 [(AV.strip t18)] S_2 fun t19 S_3=>
 AA (unA .not t19) fun t20=>
 j t20 S_3))
 (j_2 S)) S0)
theorem bo{w0 a0 a0r S0 Q}(h:VU (AP (En w0)) a0 a0r S0 Q):AC w0 JU [(.vs 7 a0 a0r)] S0 Q:=Ac w0 Tryz.func16 (by kernel_rfl) (by kernel_rfl) h
def Qu(Ca:CaT)(a0:List (List AV))(a0r:Rt)(S0:St)(Q:QT):Prop:=
 ifK (.bool (decide ((List.length a0:Int) > 8)))
 (Q (.tup [(.agg [(.vs 2 [] .nil),(.int .i64 0)]),(.bool false)]) S0)
 (AL (fun (y2:Option (List AV)) (S_5:St)=>
 Ca Nq [(.vs 7 a0 (Rt.strip (Rt.strip a0r)))] S_5 fun t30 S_6=>
 AA (AM t30 0) fun t31=>
 AA (AM (AS t30 0) 1) fun t32=>
 AA (AI AK (some [(.vs 2 [] .nil),(.int .i64 0)]) 0 t31) fun b6=>
 AA (AD AK (some b6) 0) fun t33=>
 AA (AJ .eql (AV.strip t32) (.int .i64 0)) fun t35=>
 AL (fun (x41:AV) (S_8:St)=>
 AA (AZ (AV.strip t35) x41 (.bool false)) fun t42=>
 AA (AI AK y2 0 (AV.strip t33)) fun b2_2=>
 AA ((AD AK (some b2_2) 0).map AV.strip) fun r2_2=>
 Q (.tup [(AV.flat r2_2),(AV.flat (AV.strip t42))]) S_8) fun j_2=>
 ifK (AV.strip t35)
 (AA (AD AK (some b6) 0) fun t37=>
 AU Ca EN [(AV.strip t37)] S_6 fun t38 S_7=>
 AA (AJ .eql t38 (.int .i64 (List.length a0:Int))) fun t41=>
 j_2 t41 S_7)
 (j_2 (.tup []) S_6)) fun j_3=>
 Bo ([(.int .i64 0)],[(some [(.vs 2 [] .nil),(.int .i64 0)])]) (fun v bx=>([v 14],[bx 2])) (fun nx v bx S=>
 AA (AJ .lss (v 14) (.int .i64 (List.length a0:Int))) fun t15=>
 ifK t15
 (AA (Aa AF (.vs 7 a0 (Rt.strip a0r)) (v 14)) fun t16=>
 AA (AO AF S t16) fun t17=>
 AA (AI AF (some AF.zero) 0 (AV.strip t17)) fun b5=>
 AA (AD AF (some b5) 0) fun t18=>
 AU Ca I4 [(AV.strip t18)] S fun t19 S_2=>
 AA (AJ .eql t19 (.int .i64 0)) fun t20=>
 AL (fun (x24:AV) (S_4:St)=>
 AA (AZ (AV.strip t20) (.bool true) x24) fun t25=>
 ifK (AV.strip t25)
 (AA (AI AK (bx 2) 0 (.agg [(.vs 2 [] .nil),(.int .i64 0)])) fun b2=>
 AA ((AD AK (some b2) 0).map AV.strip) fun r2=>
 Q (.tup [(AV.flat r2),(.bool false)]) S_4)
 (AA (AJ .add (v 14) (.int .i64 1)) fun t27=>
 nx ([(AV.strip t27)],[(bx 2)]) S_4)) fun j=>
 ifK (AV.strip t20)
 (j (.tup []) S_2)
 (AA (AD AF (some b5) 0) fun t22=>
 AU Ca G9 [(AV.strip t22)] S_2 fun t23 S_3=>
 AA (unA .not t23) fun t24=>
 j t24 S_3))
 (j_3 (bx 2) S)) S0)
theorem YU{w0 a0 a0r S0 Q}(h:Qu (AP (En w0)) a0 a0r S0 Q):AC w0 G6 [(.vs 7 a0 a0r)] S0 Q:=Ac w0 Tryz.func17 (by kernel_rfl) (by kernel_rfl) h
def Va(Ca:CaT)(a0a:List (List AV))(a0ar:Rt)(a0b:Int)(a1:List UInt8)(a2:Bool)(S0:St)(Q:QT):Prop:=
 AA (DT AK (.agg [(.vs 2 a0a a0ar),(.int .i64 a0b)])) fun c3=>
 AA (AD AK (some c3) 0) fun t19=>
 AU Ca Pc [(AV.strip t19)] S0 fun t20 S=>
 AU Ca Rl [t20,(.str a1),(.bool a2)] S fun t23 S_2=>
 AA (AM t23 0) fun t24=>
 AA (AM (AS t23 0) 1) fun t25=>
 AA (AJ .neq (AV.strip t25) (.int .i64 0)) fun t27=>
 ifK t27
 (Q (.tup [(.agg Aj.zero),(AV.flat (AV.strip t25))]) S_2)
 (Bo ([],[(some c3),(some Aj.zero)]) (fun v bx=>([],[bx 3,bx 6])) (fun nx v bx S_3=>
 AU Ca F8 [(AV.strip t24)] S_3 fun t32 S_4=>
 AA (AM t32 0) fun t33=>
 AA (AM (AS t32 0) 1) fun t34=>
 AA (AM (AS (AS t32 0) 1) 2) fun t35=>
 AA (AM (AS (AS (AS t32 0) 1) 2) 3) fun t36=>
 AA (unA .not (AV.strip t36)) fun t38=>
 ifK t38
 (AU Ca GP [(AV.strip t24)] S_4 fun t40 S_5=>
 AA (AI Aj (bx 6) 0 t40) fun b6=>
 AA ((AD Aj (some b6) 0).map AV.strip) fun r6=>
 Q (.tup [(AV.flat r6),(.int .i64 0)]) S_5)
 (AA (AD AK (bx 3) 0) fun t42=>
 AU Ca Ok [(AV.strip t42),(AV.strip t34),(AV.strip t35)] S_4 fun t45 S_6=>
 AA (AM t45 0) fun t46=>
 AA (AM (AS t45 0) 1) fun t47=>
 AA (AI Bu (some Bu.zero) 0 t46) fun b14=>
 AL (fun (x16:AV) (S_9:St)=>
 AA (AD Bu (some b14) 0) fun t64=>
 AU Ca Fi [(AV.strip t24),(AV.strip t64),(AV.strip t47),(AV.strip x16)] S_9 fun t67 S_10=>
 AA (AJ .neq (AV.strip t67) (.int .i64 0)) fun t69=>
 ifK t69
 (AA (AI Aj (bx 6) 0 (.agg Aj.zero)) fun b6_2=>
 AA ((AD Aj (some b6_2) 0).map AV.strip) fun r6_2=>
 Q (.tup [(AV.flat r6_2),(AV.flat (AV.strip t67))]) S_10)
 (nx ([],[(bx 3),(bx 6)]) S_10)) fun j_2=>
 AL (fun (x52:AV)=>
 AA (AZ (AV.strip (AV.strip t47)) x52 (.bool false)) fun t53=>
 ifK (AV.strip t53)
 (AA (AD AK (bx 3) 0) fun t54=>
 AA (some b14) fun _=>
 AA (some b14) fun _=>
 AA (AD AN (some b14) 1) fun t57=>
 AA (some b14) fun _=>
 AA (some b14) fun _=>
 AA (AD AN (some b14) 2) fun t61=>
 AU Ca Da [(AV.strip t54),(AV.strip t57)] S_6 fun t58 S_7=>
 AU Ca Ec [t58,(AV.strip t61)] S_7 fun t62 S_8=>
 j_2 t62 S_8)
 (j_2 (.str []) S_6)) fun j=>
 ifK (AV.strip (AV.strip t47))
 (AA (some b14) fun _=>
 AA (AD AN (some b14) 0) fun t51=>
 AA (AJ .eql (AV.strip t51) (.int .i64 3)) fun t52=>
 j t52)
 (j (.tup [])))) S_2)
theorem bP{w0 a0a a0ar a0b a1 a2 S0 Q}(h:Va (AP (En w0)) a0a a0ar a0b a1 a2 S0 Q):AC w0 Lw [(.agg [(.vs 2 a0a a0ar),(.int .i64 a0b)]),(.str a1),(.bool a2)] S0 Q:=Ac w0 Tryz.func19 (by kernel_rfl) (by kernel_rfl) h
def Vi(Ca:CaT)(a0:List (List AV))(a0r:Rt)(a1:Int)(S0:St)(Q:QT):Prop:=
 ifK (.bool (decide ((List.length a0:Int) > a1)))
 (Q (.int .i64 0) S0)
 (AL (fun (S_2:St)=>
 Q (.int .i64 1) S_2) fun j_3=>
 Bo ([(.int .i64 0)],[]) (fun v bx=>([v 13],[])) (fun nx v bx S=>
 AA (AJ .lss (v 13) (.int .i64 (List.length a0:Int))) fun t14=>
 ifK t14
 (AA (Aa BQ (.vs 6 a0 (Rt.strip a0r)) (v 13)) fun t15=>
 AA (AO BQ S t15) fun t16=>
 AA (AI BQ (some BQ.zero) 0 (AV.strip t16)) fun b6=>
 AA (some b6) fun _=>
 AA (AD AG (some b6) 1) fun t18=>
 AA (DN (AV.strip t18)) fun t19=>
 AA (AJ .gtr t19 (.int .i64 1100)) fun t20=>
 AL (fun (x25:AV)=>
 AA (AZ (AV.strip t20) (.bool true) x25) fun t26=>
 AL (fun (x30:AV)=>
 AA (AZ (AV.strip (AV.strip t26)) (.bool true) x30) fun t31=>
 ifK (AV.strip t31)
 (Q (.int .i64 0) S)
 (AA (AJ .add (v 13) (.int .i64 1)) fun t32=>
 nx ([(AV.strip t32)],[]) S)) fun j=>
 ifK (AV.strip (AV.strip t26))
 (j (.tup []))
 (AA (some b6) fun _=>
 AA (AD AN (some b6) 3) fun t29=>
 AA (AJ .gtr (AV.strip t29) (.int .i64 3000)) fun t30=>
 j t30)) fun j_2=>
 ifK (AV.strip t20)
 (j_2 (.tup []))
 (AA (some b6) fun _=>
 AA (AD AG (some b6) 5) fun t23=>
 AA (DN (AV.strip t23)) fun t24=>
 AA (AJ .gtr t24 (.int .i64 2000)) fun t25=>
 j_2 t25))
 (j_3 S)) S0)
theorem bL{w0 a0 a0r a1 S0 Q}(h:Vi (AP (En w0)) a0 a0r a1 S0 Q):AC w0 Ld [(.vs 6 a0 a0r),(.int .i64 a1)] S0 Q:=Ac w0 Tryz.func28 (by kernel_rfl) (by kernel_rfl) h
def XN(Ca:CaT)(a0a:List (List AV))(a0ar:Rt)(a0b a1:Int)(S0:St)(Q:QT):Prop:=
 AA (DT AK (.agg [(.vs 2 a0a a0ar),(.int .i64 a0b)])) fun c2=>
 AA (AD AK (some c2) 0) fun t5=>
 Ca Nv [(.int .i64 a1)] S0 fun t7 S=>
 AA (BV E3 1 [(0,(AV.strip t5)),(1,(.int .i64 0)),(2,t7)]) fun t8=>
 AA (DT E3 t8) fun c9=>
 Q (.ptr S.length 0) (S++[Obj.cells c9 ID])
theorem eQ{w0 a0a a0ar a0b a1 S0 Q}(h:XN (AP (En w0)) a0a a0ar a0b a1 S0 Q):AC w0 HR [(.agg [(.vs 2 a0a a0ar),(.int .i64 a0b)]),(.int .i64 a1)] S0 Q:=Ac w0 Tryz.func29 (by kernel_rfl) (by kernel_rfl) h
def Tu(Ca:CaT)(a0a a0b a0c a0d a0e:Int)(a0f:List UInt8)(a0g:List (List AV))(a0gr:Rt)(a0h:Bool)(a1a a1b a1c a1d a1e:Int)(a1f:List UInt8)(a1g:List (List AV))(a1gr:Rt)(a1h:Bool)(S0:St)(Q:QT):Prop:=
 AA (DT AB (.agg [(.int .i64 a0a),(.int .i64 a0b),(.int .i64 a0c),(.int .i64 a0d),(.int .i64 a0e),(.str a0f),(.vs 1 a0g a0gr),(.bool a0h)])) fun c2=>
 AA (DT AB (.agg [(.int .i64 a1a),(.int .i64 a1b),(.int .i64 a1c),(.int .i64 a1d),(.int .i64 a1e),(.str a1f),(.vs 1 a1g a1gr),(.bool a1h)])) fun c3=>
 AA (some c2) fun _=>
 AA (AD C1 (some c2) 0) fun t7=>
 AA (some c3) fun _=>
 AA (AD C1 (some c3) 0) fun t9=>
 AA (AJ .neq (AV.strip t7) (AV.strip t9)) fun t10=>
 AL (fun (x16:AV)=>
 AA (AZ (AV.strip t10) (.bool true) x16) fun t17=>
 AL (fun (x23:AV)=>
 AA (AZ (AV.strip (AV.strip t17)) (.bool true) x23) fun t24=>
 AL (fun (x30:AV)=>
 AA (AZ (AV.strip (AV.strip t24)) (.bool true) x30) fun t31=>
 AL (fun (x37:AV)=>
 AA (AZ (AV.strip (AV.strip t31)) (.bool true) x37) fun t38=>
 AL (fun (x44:AV)=>
 AA (AZ (AV.strip (AV.strip t38)) (.bool true) x44) fun t45=>
 AL (fun (x51:AV)=>
 AA (AZ (AV.strip (AV.strip t45)) (.bool true) x51) fun t52=>
 AL (fun (x60:AV)=>
 AA (AZ (AV.strip (AV.strip t52)) (.bool true) x60) fun t61=>
 ifK (AV.strip t61)
 (Q (.bool false) S0)
 (AL (fun (S_2:St)=>
 Q (.bool true) S_2) fun j_8=>
 Bo ([(.int .i64 0)],[(some c2),(some c3)]) (fun v bx=>([v 5],[bx 2,bx 3])) (fun nx v bx S=>
 AA (bx 2) fun _=>
 AA (AD AX (bx 2) 6) fun t64=>
 AA (A9 (AV.strip t64)) fun t65=>
 AA (AJ .lss (AV.strip (v 5)) t65) fun t66=>
 ifK t66
 (AA (bx 2) fun _=>
 AA (AD AX (bx 2) 6) fun t70=>
 AA (Aa AG (AV.strip t70) (AV.strip (v 5))) fun t72=>
 AA (AO AG S t72) fun t73=>
 AA (bx 3) fun _=>
 AA (AD AX (bx 3) 6) fun t75=>
 AA (Aa AG (AV.strip t75) (AV.strip (v 5))) fun t77=>
 AA (AO AG S t77) fun t78=>
 AA (AJ .neq (AV.strip t73) (AV.strip t78)) fun t79=>
 ifK t79
 (Q (.bool false) S)
 (AA (AJ .add (AV.strip (v 5)) (.int .i64 1)) fun t68=>
 nx ([t68],[(bx 2),(bx 3)]) S))
 (j_8 S)) S0)) fun j=>
 ifK (AV.strip (AV.strip t52))
 (j (.tup []))
 (AA (some c2) fun _=>
 AA (AD AX (some c2) 6) fun t55=>
 AA (A9 (AV.strip t55)) fun t56=>
 AA (some c3) fun _=>
 AA (AD AX (some c3) 6) fun t58=>
 AA (A9 (AV.strip t58)) fun t59=>
 AA (AJ .neq t56 t59) fun t60=>
 j t60)) fun j_2=>
 ifK (AV.strip (AV.strip t45))
 (j_2 (.tup []))
 (AA (some c2) fun _=>
 AA (AD Dg (some c2) 7) fun t48=>
 AA (some c3) fun _=>
 AA (AD Dg (some c3) 7) fun t50=>
 AA (Gw .bool .neq (AV.strip t48) (AV.strip t50)) fun t51=>
 j_2 t51)) fun j_3=>
 ifK (AV.strip (AV.strip t38))
 (j_3 (.tup []))
 (AA (some c2) fun _=>
 AA (AD AG (some c2) 5) fun t41=>
 AA (some c3) fun _=>
 AA (AD AG (some c3) 5) fun t43=>
 AA (AJ .neq (AV.strip t41) (AV.strip t43)) fun t44=>
 j_3 t44)) fun j_4=>
 ifK (AV.strip (AV.strip t31))
 (j_4 (.tup []))
 (AA (some c2) fun _=>
 AA (AD AN (some c2) 4) fun t34=>
 AA (some c3) fun _=>
 AA (AD AN (some c3) 4) fun t36=>
 AA (AJ .neq (AV.strip t34) (AV.strip t36)) fun t37=>
 j_4 t37)) fun j_5=>
 ifK (AV.strip (AV.strip t24))
 (j_5 (.tup []))
 (AA (some c2) fun _=>
 AA (AD AN (some c2) 3) fun t27=>
 AA (some c3) fun _=>
 AA (AD AN (some c3) 3) fun t29=>
 AA (AJ .neq (AV.strip t27) (AV.strip t29)) fun t30=>
 j_5 t30)) fun j_6=>
 ifK (AV.strip (AV.strip t17))
 (j_6 (.tup []))
 (AA (some c2) fun _=>
 AA (AD AN (some c2) 2) fun t20=>
 AA (some c3) fun _=>
 AA (AD AN (some c3) 2) fun t22=>
 AA (AJ .neq (AV.strip t20) (AV.strip t22)) fun t23=>
 j_6 t23)) fun j_7=>
 ifK (AV.strip t10)
 (j_7 (.tup []))
 (AA (some c2) fun _=>
 AA (AD AN (some c2) 1) fun t13=>
 AA (some c3) fun _=>
 AA (AD AN (some c3) 1) fun t15=>
 AA (AJ .neq (AV.strip t13) (AV.strip t15)) fun t16=>
 j_7 t16)
theorem Yl{w0 a0a a0b a0c a0d a0e a0f a0g a0gr a0h a1a a1b a1c a1d a1e a1f a1g a1gr a1h S0 Q}(h:Tu (AP (En w0)) a0a a0b a0c a0d a0e a0f a0g a0gr a0h a1a a1b a1c a1d a1e a1f a1g a1gr a1h S0 Q):AC w0 Hm [(.agg [(.int .i64 a0a),(.int .i64 a0b),(.int .i64 a0c),(.int .i64 a0d),(.int .i64 a0e),(.str a0f),(.vs 1 a0g a0gr),(.bool a0h)]),(.agg [(.int .i64 a1a),(.int .i64 a1b),(.int .i64 a1c),(.int .i64 a1d),(.int .i64 a1e),(.str a1f),(.vs 1 a1g a1gr),(.bool a1h)])] S0 Q:=Ac w0 Tryz.func32 (by kernel_rfl) (by kernel_rfl) h
set_option maxHeartbeats 2000000
open Go.Proofs
def N9(Ca:CaT)(a0 a0o:Nat)(a1a:Int)(a1b:List UInt8)(a1c a1d a1e:Int)(a1f:List UInt8)(S0:St)(Q:QT):Prop:=
 AA (DT BQ (.agg [(.int .i64 a1a),(.str a1b),(.int .i64 a1c),(.int .i64 a1d),(.int .i64 a1e),(.str a1f)])) fun c3=>
 AA (AD BQ (some c3) 0) fun t16=>
 AU Ca JE [(AV.strip t16)] S0 fun t17 S=>
 AA (AJ .neq (AV.strip t17) (.int .i64 0)) fun t19=>
 ifK t19
 (AA (BV AB 1 [(0,(AV.strip t17))]) fun t21=>
 AA (AI AB (some AB.zero) 0 t21) fun b4=>
 AA ((AD AB (some b4) 0).map AV.strip) fun r4=>
 Q r4 S)
 (AA (some c3) fun _=>
 AA (AD AN (some c3) 0) fun t23=>
 AA (AJ .eql (AV.strip t23) (.int .i64 5)) fun t25=>
 ifK t25
 (AA (AO AK S (.ptr a0 (a0o+0))) fun t30=>
 AA (some c3) fun _=>
 AA (AD AG (some c3) 1) fun t32=>
 AU Ca KD [(AV.strip t30),(AV.strip t32)] S fun t33 S_2=>
 AA (AM t33 0) fun t34=>
 AA (AM (AS t33 0) 1) fun t35=>
 AA (AM (AS (AS t33 0) 1) 2) fun t36=>
 AA (AJ .neq (AV.strip t36) (.int .i64 0)) fun t38=>
 ifK t38
 (AA (BV AB 1 [(0,(AV.strip t36))]) fun t40=>
 AA (AI AB (some AB.zero) 0 t40) fun b4_2=>
 AA ((AD AB (some b4_2) 0).map AV.strip) fun r4_2=>
 Q r4_2 S_2)
 (AU Ca Ep [(.ptr a0 a0o),(AV.strip t34)] S_2 fun t43 S_3=>
 AA (AI AB (some AB.zero) 0 t43) fun b4_3=>
 AA ((AD AB (some b4_3) 0).map AV.strip) fun r4_3=>
 Q r4_3 S_3))
 (AA (AJ .eql (AV.strip t23) (.int .i64 6)) fun t45=>
 ifK t45
 (AA (some c3) fun _=>
 AA (AD AN (some c3) 4) fun t49=>
 AU Ca DV [(.ptr a0 a0o),(AV.strip t49)] S fun t50 S_4=>
 AA (AM t50 0) fun t51=>
 AA (AM (AS t50 0) 1) fun t52=>
 AA (AI A3 (some [(.int .i64 0),(.str []),(.int .i64 0)]) 0 t51) fun b9=>
 AA (AJ .neq (AV.strip t52) (.int .i64 0)) fun t54=>
 ifK t54
 (AA (BV AB 1 [(0,(AV.strip t52))]) fun t56=>
 AA (AI AB (some AB.zero) 0 t56) fun b4_4=>
 AA ((AD AB (some b4_4) 0).map AV.strip) fun r4_4=>
 Q r4_4 S_4)
 (AA (AO AK S_4 (.ptr a0 (a0o+0))) fun t61=>
 AA (some b9) fun _=>
 AA (AD AG (some b9) 1) fun t63=>
 AU Ca KD [(AV.strip t61),(AV.strip t63)] S_4 fun t64 S_5=>
 AA (AM t64 0) fun t65=>
 AA (AM (AS t64 0) 1) fun t66=>
 AA (AM (AS (AS t64 0) 1) 2) fun t67=>
 AA (AD BQ (some c3) 0) fun t69=>
 AU Ca E6 [(.ptr a0 a0o),(AV.strip t69),(AV.strip t66)] S_5 fun t71 S_6=>
 AA (AI AB (some AB.zero) 0 t71) fun b4_5=>
 AA ((AD AB (some b4_5) 0).map AV.strip) fun r4_5=>
 Q r4_5 S_6))
 (AA (AJ .eql (AV.strip t23) (.int .i64 7)) fun t73=>
 ifK t73
 (AA (AO Bl S (.ptr a0 (a0o+3))) fun t77=>
 AA (some c3) fun _=>
 AA (AD AN (some c3) 4) fun t79=>
 AU Ca GQ [(AV.strip t77),(AV.strip t79)] S fun t80 S_7=>
 AA (BV AB 1 [(0,t80)]) fun t81=>
 AA (AI AB (some AB.zero) 0 t81) fun b4_6=>
 AA ((AD AB (some b4_6) 0).map AV.strip) fun r4_6=>
 Q r4_6 S_7)
 (AA (AJ .eql (AV.strip t23) (.int .i64 8)) fun t83=>
 ifK t83
 (AA (some c3) fun _=>
 AA (AD AG (some c3) 5) fun t86=>
 AU Ca MD [(AV.strip t86)] S fun t87 S_8=>
 AA (AM t87 0) fun t88=>
 AA (AM (AS t87 0) 1) fun t89=>
 AA (AJ .neq (AV.strip t89) (.int .i64 0)) fun t91=>
 ifK t91
 (AA (BV AB 1 [(0,(AV.strip t89))]) fun t93=>
 AA (AI AB (some AB.zero) 0 t93) fun b4_7=>
 AA ((AD AB (some b4_7) 0).map AV.strip) fun r4_7=>
 Q r4_7 S_8)
 (AU Ca Gl [(.ptr a0 a0o),(AV.strip t88)] S_8 fun t96 S_9=>
 AA (AI AB (some AB.zero) 0 t96) fun b4_8=>
 AA ((AD AB (some b4_8) 0).map AV.strip) fun r4_8=>
 Q r4_8 S_9))
 (AA (AJ .eql (AV.strip t23) (.int .i64 9)) fun t98=>
 ifK t98
 (AA (some c3) fun _=>
 AA (AD AN (some c3) 4) fun t101=>
 AU Ca EZ [(.ptr a0 a0o),(AV.strip t101)] S fun t102 S_10=>
 AA (AI AB (some AB.zero) 0 t102) fun b4_9=>
 AA ((AD AB (some b4_9) 0).map AV.strip) fun r4_9=>
 Q r4_9 S_10)
 (AA (AO AK S (.ptr a0 (a0o+0))) fun t106=>
 AA (AD BQ (some c3) 0) fun t107=>
 AU Ca RD [(AV.strip t106),(AV.strip t107)] S fun t108 S_11=>
 AA (AI AB (some AB.zero) 0 t108) fun b4_10=>
 AA ((AD AB (some b4_10) 0).map AV.strip) fun r4_10=>
 Q r4_10 S_11))))))
theorem UU{w0 a0 a0o a1a a1b a1c a1d a1e a1f S0 Q}(h:N9 (AP (En w0)) a0 a0o a1a a1b a1c a1d a1e a1f S0 Q):AC w0 BW [(.ptr a0 a0o),(.agg [(.int .i64 a1a),(.str a1b),(.int .i64 a1c),(.int .i64 a1d),(.int .i64 a1e),(.str a1f)])] S0 Q:=Ac w0 Tryz.func33 (by kernel_rfl) (by kernel_rfl) h
def Li(Ca:CaT)(a0a:List (List AV))(a0ar:Rt)(a0b:Int)(S0:St)(Q:QT):Prop:=
 AA (DT AK (.agg [(.vs 2 a0a a0ar),(.int .i64 a0b)])) fun c1=>
 AA (some c1) fun _=>
 AA (AD CA (some c1) 0) fun t4=>
 AA (A9 (AV.strip t4)) fun t5=>
 Q t5 S0
theorem Q7{w0 a0a a0ar a0b S0 Q}(h:Li (AP (En w0)) a0a a0ar a0b S0 Q):AC w0 EN [(.agg [(.vs 2 a0a a0ar),(.int .i64 a0b)])] S0 Q:=Ac w0 Tryz.func35 (by kernel_rfl) (by kernel_rfl) h
def Jo(Ca:CaT)(a0 a0o:Nat)(a1:Int)(S0:St)(Q:QT):Prop:=
 AA (AO AK S0 (.ptr a0 (a0o+0))) fun t11=>
 AU Ca GL [(AV.strip t11),(.int .i64 a1)] S0 fun t13 S=>
 AA (AM t13 0) fun t14=>
 AA (AM (AS t13 0) 1) fun t15=>
 AA (AI AK (some [(.vs 2 [] .nil),(.int .i64 0)]) 0 t14) fun b5=>
 AA (AD AK (some b5) 0) fun t17=>
 AU Ca EU [(.ptr a0 a0o),(AV.strip t17),(.int .i64 0),(AV.strip t15)] S fun t19 S_2=>
 AA (AI AB (some AB.zero) 0 t19) fun b4=>
 AA ((AD AB (some b4) 0).map AV.strip) fun r4=>
 Q r4 S_2
theorem PN{w0 a0 a0o a1 S0 Q}(h:Jo (AP (En w0)) a0 a0o a1 S0 Q):AC w0 EZ [(.ptr a0 a0o),(.int .i64 a1)] S0 Q:=Ac w0 Tryz.func37 (by kernel_rfl) (by kernel_rfl) h
def K0(Ca:CaT)(a0 a0o:Nat)(a1:List UInt8)(S0:St)(Q:QT):Prop:=
 AA (AO Bl S0 (.ptr a0 (a0o+3))) fun t11=>
 AA (AO AN S0 (.ptr a0 (a0o+2))) fun t15=>
 AU Ca Gp [(AV.strip t11),(AV.strip t15),(.str a1)] S0 fun t17 S=>
 AA (AM t17 0) fun t18=>
 AA (AM (AS t17 0) 1) fun t19=>
 AA (BV AB 1 [(0,(AV.strip t19)),(4,(AV.strip t18))]) fun t22=>
 AA (AI AB (some AB.zero) 0 t22) fun b4=>
 AA ((AD AB (some b4) 0).map AV.strip) fun r4=>
 Q r4 S
theorem QI{w0 a0 a0o a1 S0 Q}(h:K0 (AP (En w0)) a0 a0o a1 S0 Q):AC w0 Ep [(.ptr a0 a0o),(.str a1)] S0 Q:=Ac w0 Tryz.func38 (by kernel_rfl) (by kernel_rfl) h
def K3(Ca:CaT)(a0 a0o:Nat)(a1:Int)(S0:St)(Q:QT):Prop:=
 AA (AO Bl S0 (.ptr a0 (a0o+3))) fun t12=>
 AU Ca Eu [(AV.strip t12),(.int .i64 a1)] S0 fun t14 S=>
 AA (AM t14 0) fun t15=>
 AA (AM (AS t14 0) 1) fun t16=>
 AA (AI A3 (some [(.int .i64 0),(.str []),(.int .i64 0)]) 0 t15) fun b6=>
 AA (AJ .neq (AV.strip t16) (.int .i64 0)) fun t19=>
 ifK t19
 (Q (.tup [(.agg [(.int .i64 0),(.str []),(.int .i64 0)]),(AV.flat (AV.strip t16))]) S)
 (AA (some b6) fun _=>
 AA (AD AN (some b6) 0) fun t24=>
 AA (AO AN S (.ptr a0 (a0o+2))) fun t28=>
 AA (AJ .neq (AV.strip t24) (AV.strip t28)) fun t29=>
 ifK t29
 (Q (.tup [(.agg [(.int .i64 0),(.str []),(.int .i64 0)]),(.int .i64 8)]) S)
 (AA (AD A3 (some b6) 0) fun t31=>
 AA (AI A3 (some [(.int .i64 0),(.str []),(.int .i64 0)]) 0 (AV.strip t31)) fun b4=>
 AA ((AD A3 (some b4) 0).map AV.strip) fun r4=>
 Q (.tup [(AV.flat r4),(.int .i64 0)]) S))
theorem QQ{w0 a0 a0o a1 S0 Q}(h:K3 (AP (En w0)) a0 a0o a1 S0 Q):AC w0 DV [(.ptr a0 a0o),(.int .i64 a1)] S0 Q:=Ac w0 Tryz.func40 (by kernel_rfl) (by kernel_rfl) h
def G_top_one(Ca:CaT)(S0:St)(Q:QT):Prop:=
 Ca PL [(.str [120])] S0 fun t5 S=>
 AA (BY 7 [t5]) fun e6=>
 Ca Rn [(.vs 1 [[(.str [97])]] .full),(.vs 7 e6 .full)] S fun t7 S_2=>
 AA (BY 7 [t7]) fun e8=>
 Ca Nq [(.vs 7 e8 .full)] S_2 fun t9 S_3=>
 AA (AM t9 0) fun t10=>
 AA (AM (AS t9 0) 1) fun t11=>
 AA (AI AK (some [(.vs 2 [] .nil),(.int .i64 0)]) 0 t10) fun b1=>
 AA (AJ .eql (AV.strip t11) (.int .i64 0)) fun t13=>
 AL (fun (x17:AV) (S_5:St)=>
 AA (AZ (AV.strip t13) x17 (.bool false)) fun t18=>
 Q (AV.strip t18) S_5) fun j=>
 ifK (AV.strip t13)
 (AA (AD AK (some b1) 0) fun t15=>
 AU Ca EN [(AV.strip t15)] S_3 fun t16 S_4=>
 AA (AJ .eql t16 (.int .i64 1)) fun t17=>
 j t17 S_4)
 (j (.tup []) S_3)
theorem top_one_ok{w0  S0 Q}(h:G_top_one (AP (En w0))  S0 Q):AC w0 F_top_one [] S0 Q:=Ac w0 Tryz.func47 (by kernel_rfl) (by kernel_rfl) h
def G_call_Hex(Ca:CaT)(a0:List UInt8)(S0:St)(Q:QT):Prop:=
 ifK (.bool (a0==[]))
 (Q (.str [45]) S0)
 (AL (fun (S_4:St)=>
 Ca G8 [(.ptr S0.length 0)] S_4 fun t25 S_5=>
 Q t25 S_5) fun j=>
 Bo ([(.int .i64 0)],[]) (fun v bx=>([v 9],[])) (fun nx v bx S=>
 AA (AJ .lss (v 9) (.int .i64 (List.length a0:Int))) fun t10=>
 ifK t10
 (AA (Fd (.str a0) (AV.strip (AV.strip (v 9)))) fun t14=>
 AA (AJ .shr t14 (.int .u64 4)) fun t15=>
 AA (Fd (.str [48,49,50,51,52,53,54,55,56,57,97,98,99,100,101,102]) t15) fun t16=>
 AU Ca F_strings_Builder_WriteByte [(.ptr S0.length 0),t16] S fun t17 S_2=>
 AA (Fd (.str a0) (AV.strip (AV.strip (v 9)))) fun t20=>
 AA (AJ .and t20 (.int .u8 15)) fun t21=>
 AA (Fd (.str [48,49,50,51,52,53,54,55,56,57,97,98,99,100,101,102]) t21) fun t22=>
 AU Ca F_strings_Builder_WriteByte [(.ptr S0.length 0),t22] S_2 fun t23 S_3=>
 AA (AJ .add (v 9) (.int .i64 1)) fun t24=>
 nx ([(AV.strip t24)],[]) S_3)
 (j S)) (S0++[Obj.cells DM.zero DL]))
theorem call_Hex_ok{w0 a0 S0 Q}(h:G_call_Hex (AP (En w0)) a0 S0 Q):AC w0 F_call_Hex [(.str a0)] S0 Q:=Ac w0 Tryz.func48 (by kernel_rfl) (by kernel_rfl) h
def G_ref19_Only(Ca:CaT)(a0a:Int)(a0b:List UInt8)(a0c a0d a0e:Int)(a0f:List UInt8)(S0:St)(Q:QT):Prop:=
 AA (DT BQ (.agg [(.int .i64 a0a),(.str a0b),(.int .i64 a0c),(.int .i64 a0d),(.int .i64 a0e),(.str a0f)])) fun c1=>
 AL (fun (y1:Option (List AV)) (S_2:St)=>
 AA y1 fun _=>
 AA (AD AG y1 1) fun t22=>
 AA (AJ .eql (AV.strip t22) (.str [])) fun t23=>
 AA y1 fun _=>
 AA (AD AN y1 2) fun t25=>
 AA (AJ .eql (AV.strip t25) (.int .i64 0)) fun t26=>
 AA y1 fun _=>
 AA (AD AN y1 3) fun t28=>
 AA (AJ .eql (AV.strip t28) (.int .i64 0)) fun t29=>
 AA y1 fun _=>
 AA (AD AN y1 4) fun t31=>
 AA (AJ .eql (AV.strip t31) (.int .i64 0)) fun t32=>
 AA y1 fun _=>
 AA (AD AG y1 5) fun t34=>
 AA (AJ .eql (AV.strip t34) (.str [])) fun t35=>
 AA y1 fun _=>
 AA (AD AN y1 0) fun t37=>
 AL (fun (x38:AV)=>
 ifK x38
 (AL (fun (x45:AV)=>
 AA (AZ (AV.strip (AV.strip t26)) x45 (.bool false)) fun t46=>
 AL (fun (x48:AV)=>
 AA (AZ (AV.strip (AV.strip t46)) x48 (.bool false)) fun t49=>
 AL (fun (x51:AV)=>
 AA (AZ (AV.strip (AV.strip t49)) x51 (.bool false)) fun t52=>
 Q (AV.strip t52) S_2) fun j=>
 ifK (AV.strip (AV.strip t49))
 (j (AV.strip t35))
 (j (.tup []))) fun j_2=>
 ifK (AV.strip (AV.strip t46))
 (j_2 (AV.strip t32))
 (j_2 (.tup []))) fun j_3=>
 ifK (AV.strip (AV.strip t26))
 (j_3 (AV.strip t29))
 (j_3 (.tup [])))
 (AA (AJ .eql (AV.strip t37) (.int .i64 4)) fun t54=>
 ifK t54
 (AL (fun (x57:AV)=>
 AA (AZ (AV.strip (AV.strip t32)) x57 (.bool false)) fun t58=>
 Q (AV.strip t58) S_2) fun j_4=>
 ifK (AV.strip (AV.strip t32))
 (j_4 (AV.strip t35))
 (j_4 (.tup [])))
 (AA (AJ .eql (AV.strip t37) (.int .i64 6)) fun t60=>
 ifK t60
 (AL (fun (x63:AV)=>
 AA (AZ (AV.strip (AV.strip t23)) x63 (.bool false)) fun t64=>
 AL (fun (x66:AV)=>
 AA (AZ (AV.strip (AV.strip t64)) x66 (.bool false)) fun t67=>
 Q (AV.strip t67) S_2) fun j_5=>
 ifK (AV.strip (AV.strip t64))
 (j_5 (AV.strip t35))
 (j_5 (.tup []))) fun j_6=>
 ifK (AV.strip (AV.strip t23))
 (j_6 (AV.strip t26))
 (j_6 (.tup [])))
 (AL (fun (x68:AV)=>
 ifK x68
 (AL (fun (x73:AV)=>
 AA (AZ (AV.strip (AV.strip t23)) x73 (.bool false)) fun t74=>
 AL (fun (x76:AV)=>
 AA (AZ (AV.strip (AV.strip t74)) x76 (.bool false)) fun t77=>
 AL (fun (x79:AV)=>
 AA (AZ (AV.strip (AV.strip t77)) x79 (.bool false)) fun t80=>
 Q (AV.strip t80) S_2) fun j_7=>
 ifK (AV.strip (AV.strip t77))
 (j_7 (AV.strip t35))
 (j_7 (.tup []))) fun j_8=>
 ifK (AV.strip (AV.strip t74))
 (j_8 (AV.strip t29))
 (j_8 (.tup []))) fun j_9=>
 ifK (AV.strip (AV.strip t23))
 (j_9 (AV.strip t26))
 (j_9 (.tup [])))
 (AA (AJ .eql (AV.strip t37) (.int .i64 8)) fun t82=>
 ifK t82
 (AL (fun (x85:AV)=>
 AA (AZ (AV.strip (AV.strip t23)) x85 (.bool false)) fun t86=>
 AL (fun (x88:AV)=>
 AA (AZ (AV.strip (AV.strip t86)) x88 (.bool false)) fun t89=>
 AL (fun (x91:AV)=>
 AA (AZ (AV.strip (AV.strip t89)) x91 (.bool false)) fun t92=>
 Q (AV.strip t92) S_2) fun j_10=>
 ifK (AV.strip (AV.strip t89))
 (j_10 (AV.strip t32))
 (j_10 (.tup []))) fun j_11=>
 ifK (AV.strip (AV.strip t86))
 (j_11 (AV.strip t29))
 (j_11 (.tup []))) fun j_12=>
 ifK (AV.strip (AV.strip t23))
 (j_12 (AV.strip t26))
 (j_12 (.tup [])))
 (Q (.bool false) S_2))) fun j_13=>
 AA (AJ .eql (AV.strip t37) (.int .i64 7)) fun t69=>
 ifK t69
 (j_13 t69)
 (AA (AJ .eql (AV.strip t37) (.int .i64 9)) fun t70=>
 j_13 t70))))) fun j_14=>
 AA (AJ .eql (AV.strip t37) (.int .i64 1)) fun t39=>
 ifK t39
 (j_14 t39)
 (AA (AJ .eql (AV.strip t37) (.int .i64 2)) fun t40=>
 ifK t40
 (j_14 t40)
 (AA (AJ .eql (AV.strip t37) (.int .i64 3)) fun t41=>
 ifK t41
 (j_14 t41)
 (AA (AJ .eql (AV.strip t37) (.int .i64 5)) fun t42=>
 j_14 t42)))) fun j_15=>
 Bo ([(.int .i64 0)],[(some c1)]) (fun v bx=>([v 3],[bx 1])) (fun nx v bx S=>
 AA (bx 1) fun _=>
 AA (AD AG (bx 1) 1) fun t11=>
 AA (DN (AV.strip t11)) fun t12=>
 AA (AJ .lss (AV.strip (v 3)) t12) fun t13=>
 ifK t13
 (AA (bx 1) fun _=>
 AA (AD AG (bx 1) 1) fun t17=>
 AA (Fd (AV.strip t17) (AV.strip (v 3))) fun t19=>
 AA (AJ .eql t19 (.int .u8 10)) fun t20=>
 ifK t20
 (Q (.bool false) S)
 (AA (AJ .add (AV.strip (v 3)) (.int .i64 1)) fun t15=>
 nx ([t15],[(bx 1)]) S))
 (j_15 (bx 1) S)) S0
theorem ref19_Only_ok{w0 a0a a0b a0c a0d a0e a0f S0 Q}(h:G_ref19_Only (AP (En w0)) a0a a0b a0c a0d a0e a0f S0 Q):AC w0 F_ref19_Only [(.agg [(.int .i64 a0a),(.str a0b),(.int .i64 a0c),(.int .i64 a0d),(.int .i64 a0e),(.str a0f)])] S0 Q:=Ac w0 Tryz.func49 (by kernel_rfl) (by kernel_rfl) h
def G_call_Parse(Ca:CaT)(a0:List UInt8)(S0:St)(Q:QT):Prop:=
 Ca F_strings_Cut [(.str a0),(.str [32])] S0 fun t12 S=>
 AA (AM t12 0) fun t13=>
 AA (AM (AS t12 0) 1) fun t14=>
 AA (AM (AS (AS t12 0) 1) 2) fun t15=>
 AA (unA .not (AV.strip t15)) fun t17=>
 AL (fun (x20:AV) (S_3:St)=>
 AA (AZ (AV.strip t17) (.bool true) x20) fun t21=>
 ifK (AV.strip t21)
 (Q (.tup [(.agg BQ.zero),(.bool false)]) S_3)
 (AL (fun (y2_2:Option (List AV)) (S_6:St)=>
 AL (fun (x3:AV) (y2_3:Option (List AV)) (S_11:St)=>
 AA (unA .not (AV.strip x3)) fun t98=>
 ifK t98
 (AA (AI BQ y2_3 0 (.agg BQ.zero)) fun b2_11=>
 AA ((AD BQ (some b2_11) 0).map AV.strip) fun r2_2=>
 Q (.tup [(AV.flat r2_2),(.bool false)]) S_11)
 (AA (AD BQ y2_3 0) fun t100=>
 AA (AI BQ y2_3 0 (AV.strip t100)) fun b2_12=>
 AA ((AD BQ (some b2_12) 0).map AV.strip) fun r2_3=>
 Q (.tup [(AV.flat r2_3),(.bool true)]) S_11)) fun j_5=>
 AA y2_2 fun _=>
 AA (AD AN y2_2 0) fun t39=>
 AA (AJ .eql (AV.strip t39) (.int .i64 0)) fun t43=>
 ifK t43
 (AA (AI BQ y2_2 0 (.agg BQ.zero)) fun b2_2=>
 AA ((AD BQ (some b2_2) 0).map AV.strip) fun r2=>
 Q (.tup [(AV.flat r2),(.bool false)]) S_6)
 (AA (AJ .eql (AV.strip t39) (.int .i64 4)) fun t46=>
 ifK t46
 (AU Ca F_call_numbers [(AV.strip t14),(.int .i64 2),(.bool true)] S_6 fun t49 S_7=>
 AA (AM t49 0) fun t50=>
 AA (AM (AS t49 0) 1) fun t51=>
 AA (AM (AS (AS t49 0) 1) 2) fun t52=>
 AA y2_2 fun _=>
 AA (AI AG y2_2 1 t51) fun b2_3=>
 ifK (AV.strip t52)
 (AA (Aa AN (AV.strip t50) (.int .i64 0)) fun t56=>
 AA (AO AN S_7 t56) fun t57=>
 AA (Aa AN (AV.strip t50) (.int .i64 1)) fun t59=>
 AA (AO AN S_7 t59) fun t60=>
 AA (some b2_3) fun _=>
 AA (AI AN (some b2_3) 2 (AV.strip t57)) fun b2_4=>
 AA (some b2_4) fun _=>
 AA (AI AN (some b2_4) 3 (AV.strip t60)) fun b2_5=>
 j_5 t52 (some b2_5) S_7)
 (j_5 t52 (some b2_3) S_7))
 (AA (AJ .eql (AV.strip t39) (.int .i64 6)) fun t64=>
 ifK t64
 (AU Ca F_call_numbers [(AV.strip t14),(.int .i64 2),(.bool false)] S_6 fun t67 S_8=>
 AA (AM t67 0) fun t68=>
 AA (AM (AS t67 0) 1) fun t69=>
 AA (AM (AS (AS t67 0) 1) 2) fun t70=>
 ifK (AV.strip t70)
 (AA (Aa AN (AV.strip t68) (.int .i64 0)) fun t73=>
 AA (AO AN S_8 t73) fun t74=>
 AA (Aa AN (AV.strip t68) (.int .i64 1)) fun t76=>
 AA (AO AN S_8 t76) fun t77=>
 AA y2_2 fun _=>
 AA (AI AN y2_2 4 (AV.strip t74)) fun b2_6=>
 AA (some b2_6) fun _=>
 AA (AI AN (some b2_6) 3 (AV.strip t77)) fun b2_7=>
 j_5 t70 (some b2_7) S_8)
 (j_5 t70 y2_2 S_8))
 (AL (fun (x80:AV)=>
 ifK x80
 (AU Ca F_call_Number [(AV.strip t14)] S_6 fun t85 S_9=>
 AA (AM t85 0) fun t86=>
 AA (AM (AS t85 0) 1) fun t87=>
 AA y2_2 fun _=>
 AA (AI AN y2_2 4 t86) fun b2_8=>
 j_5 t87 (some b2_8) S_9)
 (AA (AJ .eql (AV.strip t39) (.int .i64 8)) fun t90=>
 ifK t90
 (AU Ca F_call_Bytes [(AV.strip t14)] S_6 fun t93 S_10=>
 AA (AM t93 0) fun t94=>
 AA (AM (AS t93 0) 1) fun t95=>
 AA y2_2 fun _=>
 AA (AI AG y2_2 5 t94) fun b2_9=>
 j_5 t95 (some b2_9) S_10)
 (AA y2_2 fun _=>
 AA (AI AG y2_2 1 (AV.strip t14)) fun b2_10=>
 j_5 (.bool true) (some b2_10) S_6))) fun j_4=>
 AA (AJ .eql (AV.strip t39) (.int .i64 7)) fun t81=>
 ifK t81
 (j_4 t81)
 (AA (AJ .eql (AV.strip t39) (.int .i64 9)) fun t82=>
 j_4 t82))))) fun j_6=>
 Ca F_call_names [] S_3 fun t23 S_4=>
 Bo ([(.int .i64 0)],[(some BQ.zero)]) (fun v bx=>([v 24],[bx 2])) (fun nx v bx S_5=>
 AA (AJ .lss (v 24) (.int .i64 10)) fun t25=>
 ifK t25
 (AL (fun (y2:Option (List AV))=>
 AA (AJ .add (v 24) (.int .i64 1)) fun t37=>
 nx ([(AV.strip t37)],[y2]) S_5) fun j_3=>
 AA (eM 10 AG t23 (v 24)) fun t27=>
 AA (AJ .gtr (AV.strip (AV.strip (v 24))) (.int .i64 0)) fun t29=>
 AL (fun (x33:AV)=>
 AA (AZ (AV.strip t29) x33 (.bool false)) fun t34=>
 ifK (AV.strip t34)
 (AA (bx 2) fun _=>
 AA (AI AN (bx 2) 0 (AV.strip (AV.strip (v 24)))) fun b2=>
 j_3 (some b2))
 (j_3 (bx 2))) fun j_2=>
 ifK (AV.strip t29)
 (AA (AJ .eql (AV.strip (AV.strip t27)) (AV.strip t13)) fun t33=>
 j_2 t33)
 (j_2 (.tup [])))
 (j_6 (bx 2) S_5)) S_4)) fun j=>
 ifK (AV.strip t17)
 (j (.tup []) S)
 (Ca F_strings_Contains [(.str a0),(.str [10])] S fun t20 S_2=>
 j t20 S_2)
theorem call_Parse_ok{w0 a0 S0 Q}(h:G_call_Parse (AP (En w0)) a0 S0 Q):AC w0 F_call_Parse [(.str a0)] S0 Q:=Ac w0 Tryz.func50 (by kernel_rfl) (by kernel_rfl) h
def G_call_Text(Ca:CaT)(a0a:Int)(a0b:List UInt8)(a0c a0d a0e:Int)(a0f:List UInt8)(S0:St)(Q:QT):Prop:=
 AA (DT BQ (.agg [(.int .i64 a0a),(.str a0b),(.int .i64 a0c),(.int .i64 a0d),(.int .i64 a0e),(.str a0f)])) fun c1=>
 AA (some c1) fun _=>
 AA (AD AN (some c1) 0) fun t5=>
 AA (AJ .lss (AV.strip t5) (.int .i64 1)) fun t6=>
 AL (fun (x10:AV)=>
 AA (AZ (AV.strip t6) (.bool true) x10) fun t11=>
 ifK (AV.strip t11)
 (Q (.str []) S0)
 (AA (some c1) fun _=>
 AA (AD AN (some c1) 0) fun t14=>
 Ca F_call_names [] S0 fun t12 S=>
 AA (eM 10 AG t12 (AV.strip t14)) fun t15=>
 AA (AJ .add (AV.strip t15) (.str [32])) fun t16=>
 AA (some c1) fun _=>
 AA (AD AN (some c1) 0) fun t18=>
 AA (AJ .eql (AV.strip t18) (.int .i64 4)) fun t20=>
 ifK t20
 (AA (some c1) fun _=>
 AA (AD AN (some c1) 2) fun t23=>
 AA (some c1) fun _=>
 AA (AD AN (some c1) 3) fun t28=>
 AA (some c1) fun _=>
 AA (AD AG (some c1) 1) fun t33=>
 AU Ca F_strconv_Itoa [(AV.strip t23)] S fun t24 S_2=>
 AA (AJ .add (AV.strip t16) t24) fun t25=>
 AA (AJ .add t25 (.str [32])) fun t26=>
 AU Ca F_strconv_Itoa [(AV.strip t28)] S_2 fun t29 S_3=>
 AA (AJ .add t26 t29) fun t30=>
 AA (AJ .add t30 (.str [32])) fun t31=>
 AA (AJ .add t31 (AV.strip t33)) fun t34=>
 Q t34 S_3)
 (AA (AJ .eql (AV.strip t18) (.int .i64 6)) fun t36=>
 ifK t36
 (AA (some c1) fun _=>
 AA (AD AN (some c1) 4) fun t39=>
 AA (some c1) fun _=>
 AA (AD AN (some c1) 3) fun t44=>
 AU Ca F_strconv_Itoa [(AV.strip t39)] S fun t40 S_4=>
 AA (AJ .add (AV.strip t16) t40) fun t41=>
 AA (AJ .add t41 (.str [32])) fun t42=>
 AU Ca F_strconv_Itoa [(AV.strip t44)] S_4 fun t45 S_5=>
 AA (AJ .add t42 t45) fun t46=>
 Q t46 S_5)
 (AL (fun (x47:AV)=>
 ifK x47
 (AA (some c1) fun _=>
 AA (AD AN (some c1) 4) fun t52=>
 AU Ca F_strconv_Itoa [(AV.strip t52)] S fun t53 S_6=>
 AA (AJ .add (AV.strip t16) t53) fun t54=>
 Q t54 S_6)
 (AA (AJ .eql (AV.strip t18) (.int .i64 8)) fun t56=>
 ifK t56
 (AA (some c1) fun _=>
 AA (AD AG (some c1) 5) fun t59=>
 AU Ca F_call_Hex [(AV.strip t59)] S fun t60 S_7=>
 AA (AJ .add (AV.strip t16) t60) fun t61=>
 Q t61 S_7)
 (AA (some c1) fun _=>
 AA (AD AG (some c1) 1) fun t64=>
 AA (AJ .add (AV.strip t16) (AV.strip t64)) fun t65=>
 Q t65 S))) fun j_2=>
 AA (AJ .eql (AV.strip t18) (.int .i64 7)) fun t48=>
 ifK t48
 (j_2 t48)
 (AA (AJ .eql (AV.strip t18) (.int .i64 9)) fun t49=>
 j_2 t49))))) fun j=>
 ifK (AV.strip t6)
 (j (.tup []))
 (AA (some c1) fun _=>
 AA (AD AN (some c1) 0) fun t9=>
 AA (AJ .gtr (AV.strip t9) (.int .i64 9)) fun t10=>
 j t10)
theorem call_Text_ok{w0 a0a a0b a0c a0d a0e a0f S0 Q}(h:G_call_Text (AP (En w0)) a0a a0b a0c a0d a0e a0f S0 Q):AC w0 F_call_Text [(.agg [(.int .i64 a0a),(.str a0b),(.int .i64 a0c),(.int .i64 a0d),(.int .i64 a0e),(.str a0f)])] S0 Q:=Ac w0 Tryz.func51 (by kernel_rfl) (by kernel_rfl) h
def G_call_Show(Ca:CaT)(a0 a1a a1b a1c a1d a1e:Int)(a1f:List UInt8)(a1g:List (List AV))(a1gr:Rt)(a1h:Bool)(S0:St)(Q:QT):Prop:=
 AA (DT AB (.agg [(.int .i64 a1a),(.int .i64 a1b),(.int .i64 a1c),(.int .i64 a1d),(.int .i64 a1e),(.str a1f),(.vs 1 a1g a1gr),(.bool a1h)])) fun c3=>
 AA (some c3) fun _=>
 AA (AD C1 (some c3) 0) fun t9=>
 AA (AJ .neq (AV.strip t9) (.int .i64 0)) fun t10=>
 ifK t10
 (AA (some c3) fun _=>
 AA (AD C1 (some c3) 0) fun t12=>
 AU Ca F_strconv_Itoa [(AV.strip t12)] S0 fun t13 S=>
 AA (AJ .add (.str [101,114,114,111,114,32]) t13) fun t14=>
 Q t14 S)
 (AL (fun (x5_2:AV) (S_10:St)=>
 Q (AV.strip x5_2) S_10) fun j_4=>
 ifK (.bool (a0==1))
 (AA (some c3) fun _=>
 AA (AD AN (some c3) 1) fun t20=>
 AA (some c3) fun _=>
 AA (AD AN (some c3) 3) fun t25=>
 AU Ca F_strconv_Itoa [(AV.strip t20)] S0 fun t21 S_2=>
 AA (AJ .add (.str [32]) t21) fun t22=>
 AA (AJ .add t22 (.str [32])) fun t23=>
 AU Ca F_strconv_Itoa [(AV.strip t25)] S_2 fun t26 S_3=>
 AA (AJ .add t23 t26) fun t27=>
 AA (AJ .add (.str [111,107]) t27) fun t28=>
 j_4 t28 S_3)
 (ifK (.bool (a0==2))
 (AA (some c3) fun _=>
 AA (AD AN (some c3) 1) fun t33=>
 AA (some c3) fun _=>
 AA (AD AN (some c3) 2) fun t38=>
 AU Ca F_strconv_Itoa [(AV.strip t33)] S0 fun t34 S_4=>
 AA (AJ .add (.str [32]) t34) fun t35=>
 AA (AJ .add t35 (.str [32])) fun t36=>
 AU Ca F_strconv_Itoa [(AV.strip t38)] S_4 fun t39 S_5=>
 AA (AJ .add t36 t39) fun t40=>
 AA (AJ .add (.str [111,107]) t40) fun t41=>
 j_4 t41 S_5)
 (AL (fun (x42:AV)=>
 ifK x42
 (AA (some c3) fun _=>
 AA (AD AG (some c3) 5) fun t47=>
 AU Ca F_call_Hex [(AV.strip t47)] S0 fun t48 S_6=>
 AA (AJ .add (.str [32]) t48) fun t49=>
 AA (AJ .add (.str [111,107]) t49) fun t50=>
 j_4 t50 S_6)
 (AL (fun (x51:AV)=>
 ifK x51
 (AA (some c3) fun _=>
 AA (AD AN (some c3) 4) fun t56=>
 AU Ca F_strconv_Itoa [(AV.strip t56)] S0 fun t57 S_7=>
 AA (AJ .add (.str [32]) t57) fun t58=>
 AA (AJ .add (.str [111,107]) t58) fun t59=>
 j_4 t59 S_7)
 (ifK (.bool (a0==6))
 (AL (fun (x5:AV)=>
 AA (some c3) fun _=>
 AA (AD AX (some c3) 6) fun t67=>
 AA (A9 (AV.strip t67)) fun t68=>
 Bo ([x5,(.int .i64 0)],[]) (fun v bx=>([v 5,v 69],[])) (fun nx v bx S_8=>
 AA (AJ .lss (v 69) t68) fun t70=>
 ifK t70
 (AA (Aa AG (AV.strip t67) (v 69)) fun t71=>
 AA (AO AG S_8 t71) fun t72=>
 AU Ca F_call_Hex [(AV.strip (AV.strip t72))] S_8 fun t75 S_9=>
 AA (AJ .add (.str [32]) t75) fun t76=>
 AA (AJ .add (AV.strip (v 5)) t76) fun t77=>
 AA (AJ .add (v 69) (.int .i64 1)) fun t78=>
 nx ([t77,(AV.strip t78)],[]) S_9)
 (j_4 (v 5) S_8)) S0) fun j=>
 AA (some c3) fun _=>
 AA (AD Dg (some c3) 7) fun t63=>
 ifK (AV.strip t63)
 (AA (AJ .add (.str [111,107]) (.str [32,101,110,100])) fun t65=>
 j t65)
 (j (.str [111,107])))
 (j_4 (.str [111,107]) S0))) fun j_2=>
 ifK (.bool (a0==5))
 (j_2 (.bool (a0==5)))
 (j_2 (.bool (a0==8))))) fun j_3=>
 ifK (.bool (a0==3))
 (j_3 (.bool (a0==3)))
 (j_3 (.bool (a0==4))))))
theorem call_Show_ok{w0 a0 a1a a1b a1c a1d a1e a1f a1g a1gr a1h S0 Q}(h:G_call_Show (AP (En w0)) a0 a1a a1b a1c a1d a1e a1f a1g a1gr a1h S0 Q):AC w0 F_call_Show [(.int .i64 a0),(.agg [(.int .i64 a1a),(.int .i64 a1b),(.int .i64 a1c),(.int .i64 a1d),(.int .i64 a1e),(.str a1f),(.vs 1 a1g a1gr),(.bool a1h)])] S0 Q:=Ac w0 Tryz.func52 (by kernel_rfl) (by kernel_rfl) h
def G_ref19_Show(Ca:CaT)(a0 a1a a1b a1c a1d a1e:Int)(a1f:List UInt8)(a1g:List (List AV))(a1gr:Rt)(a1h:Bool)(S0:St)(Q:QT):Prop:=
 AA (DT AB (.agg [(.int .i64 a1a),(.int .i64 a1b),(.int .i64 a1c),(.int .i64 a1d),(.int .i64 a1e),(.str a1f),(.vs 1 a1g a1gr),(.bool a1h)])) fun c3=>
 AA (some c3) fun _=>
 AA (AD C1 (some c3) 0) fun t8=>
 AA (AJ .neq (AV.strip t8) (.int .i64 0)) fun t9=>
 ifK t9
 (AA (some c3) fun _=>
 AA (AD C1 (some c3) 0) fun t11=>
 AU Ca F_ref19_Num [(AV.strip t11)] S0 fun t12 S=>
 AA (AJ .add (.str [101,114,114,111,114,32]) t12) fun t13=>
 Q t13 S)
 (AL (
 Q (.str [111,107]) S0) fun j_5=>
 ifK (.bool (a0==1))
 (AA (some c3) fun _=>
 AA (AD AN (some c3) 1) fun t18=>
 AA (some c3) fun _=>
 AA (AD AN (some c3) 3) fun t23=>
 AU Ca F_ref19_Num [(AV.strip t18)] S0 fun t19 S_2=>
 AA (AJ .add (.str [111,107,32]) t19) fun t20=>
 AA (AJ .add t20 (.str [32])) fun t21=>
 AU Ca F_ref19_Num [(AV.strip t23)] S_2 fun t24 S_3=>
 AA (AJ .add t21 t24) fun t25=>
 Q t25 S_3)
 (ifK (.bool (a0==2))
 (AA (some c3) fun _=>
 AA (AD AN (some c3) 1) fun t29=>
 AA (some c3) fun _=>
 AA (AD AN (some c3) 2) fun t34=>
 AU Ca F_ref19_Num [(AV.strip t29)] S0 fun t30 S_4=>
 AA (AJ .add (.str [111,107,32]) t30) fun t31=>
 AA (AJ .add t31 (.str [32])) fun t32=>
 AU Ca F_ref19_Num [(AV.strip t34)] S_4 fun t35 S_5=>
 AA (AJ .add t32 t35) fun t36=>
 Q t36 S_5)
 (AL (fun (x37:AV)=>
 ifK x37
 (AA (some c3) fun _=>
 AA (AD AG (some c3) 5) fun t41=>
 AU Ca F_ref19_Hex [(AV.strip t41)] S0 fun t42 S_6=>
 AA (AJ .add (.str [111,107,32]) t42) fun t43=>
 Q t43 S_6)
 (AL (fun (x44:AV)=>
 ifK x44
 (AA (some c3) fun _=>
 AA (AD AN (some c3) 4) fun t48=>
 AU Ca F_ref19_Num [(AV.strip t48)] S0 fun t49 S_7=>
 AA (AJ .add (.str [111,107,32]) t49) fun t50=>
 Q t50 S_7)
 (ifK (.bool (a0==6))
 (AL (fun (x5:AV)=>
 AL (fun (x5_2:AV) (S_10:St)=>
 Q (AV.strip x5_2) S_10) fun j=>
 Bo ([x5,(.int .i64 0)],[(some c3)]) (fun v bx=>([v 5,v 6],[bx 3])) (fun nx v bx S_8=>
 AA (bx 3) fun _=>
 AA (AD AX (bx 3) 6) fun t57=>
 AA (A9 (AV.strip t57)) fun t58=>
 AA (AJ .lss (AV.strip (v 6)) t58) fun t59=>
 ifK t59
 (AA (AJ .add (AV.strip (v 5)) (.str [32])) fun t63=>
 AA (bx 3) fun _=>
 AA (AD AX (bx 3) 6) fun t65=>
 AA (Aa AG (AV.strip t65) (AV.strip (v 6))) fun t67=>
 AA (AO AG S_8 t67) fun t68=>
 AU Ca F_ref19_Hex [(AV.strip t68)] S_8 fun t69 S_9=>
 AA (AJ .add t63 t69) fun t70=>
 AA (AJ .add (AV.strip (v 6)) (.int .i64 1)) fun t61=>
 nx ([t70,t61],[(bx 3)]) S_9)
 (j (v 5) S_8)) S0) fun j_2=>
 AA (some c3) fun _=>
 AA (AD Dg (some c3) 7) fun t54=>
 ifK (AV.strip t54)
 (j_2 (.str [111,107,32,101,110,100]))
 (j_2 (.str [111,107])))
 (j_5))) fun j_3=>
 ifK (.bool (a0==5))
 (j_3 (.bool (a0==5)))
 (j_3 (.bool (a0==8))))) fun j_4=>
 ifK (.bool (a0==3))
 (j_4 (.bool (a0==3)))
 (j_4 (.bool (a0==4))))))
theorem ref19_Show_ok{w0 a0 a1a a1b a1c a1d a1e a1f a1g a1gr a1h S0 Q}(h:G_ref19_Show (AP (En w0)) a0 a1a a1b a1c a1d a1e a1f a1g a1gr a1h S0 Q):AC w0 F_ref19_Show [(.int .i64 a0),(.agg [(.int .i64 a1a),(.int .i64 a1b),(.int .i64 a1c),(.int .i64 a1d),(.int .i64 a1e),(.str a1f),(.vs 1 a1g a1gr),(.bool a1h)])] S0 Q:=Ac w0 Tryz.func53 (by kernel_rfl) (by kernel_rfl) h
def Wv(Ca:CaT)(a0:List (List AV))(a0r:Rt)(S0:St)(Q:QT):Prop:=
 AL (fun (y2:Option (List AV)) (y4:Option (List AV)) (S_4:St)=>
 AA (AD AK y4 0) fun t36=>
 AA (AI AK y2 0 (AV.strip t36)) fun b2_3=>
 AA ((AD AK (some b2_3) 0).map AV.strip) fun r2_3=>
 Q (.tup [(AV.flat r2_3),(.int .i64 0)]) S_4) fun j=>
 Bo ([(.int .i64 0)],[(some [(.vs 2 [] .nil),(.int .i64 0)]),(some [(.vs 2 [] .nil),(.int .i64 0)])]) (fun v bx=>([v 11],[bx 2,bx 4])) (fun nx v bx S=>
 AA (AJ .lss (v 11) (.int .i64 (List.length a0:Int))) fun t12=>
 ifK t12
 (AA (Aa AF (.vs 7 a0 (Rt.strip a0r)) (v 11)) fun t13=>
 AA (AO AF S t13) fun t14=>
 AA (AI AF (some AF.zero) 0 (AV.strip t14)) fun b6=>
 AA (AD AF (some b6) 0) fun t16=>
 AU Ca KM [(AV.strip t16)] S fun t17 S_2=>
 AA (AM t17 0) fun t18=>
 AA (AM (AS t17 0) 1) fun t19=>
 AA (AJ .neq (AV.strip t19) (.int .i64 0)) fun t21=>
 ifK t21
 (AA (AI AK (bx 2) 0 (.agg [(.vs 2 [] .nil),(.int .i64 0)])) fun b2=>
 AA ((AD AK (some b2) 0).map AV.strip) fun r2=>
 Q (.tup [(AV.flat r2),(AV.flat (AV.strip t19))]) S_2)
 (AA (AD AK (bx 4) 0) fun t25=>
 AU Ca F9 [(AV.strip t25),(AV.strip t18)] S_2 fun t27 S_3=>
 AA (AM t27 0) fun t28=>
 AA (AM (AS t27 0) 1) fun t29=>
 AA (AM (AS (AS t27 0) 1) 2) fun t30=>
 AA (AI AK (bx 4) 0 t28) fun b4=>
 AA (AJ .neq (AV.strip t30) (.int .i64 0)) fun t32=>
 ifK t32
 (AA (AI AK (bx 2) 0 (.agg [(.vs 2 [] .nil),(.int .i64 0)])) fun b2_2=>
 AA ((AD AK (some b2_2) 0).map AV.strip) fun r2_2=>
 Q (.tup [(AV.flat r2_2),(AV.flat (AV.strip t30))]) S_3)
 (AA (AJ .add (v 11) (.int .i64 1)) fun t35=>
 nx ([(AV.strip t35)],[(bx 2),(some b4)]) S_3)))
 (j (bx 2) (bx 4) S)) S0
theorem fR{w0 a0 a0r S0 Q}(h:Wv (AP (En w0)) a0 a0r S0 Q):AC w0 Nq [(.vs 7 a0 a0r)] S0 Q:=Ac w0 Tryz.func54 (by kernel_rfl) (by kernel_rfl) h
def YQ(Ca:CaT)(a0:List (List AV))(a0r:Rt)(a1:List (List AV))(a1r:Rt)(S0:St)(Q:QT):Prop:=
 Ca B9 [(.vs 1 a0 (Rt.strip (Rt.strip a0r)))] S0 fun t6 S=>
 Ca DS [(.vs 7 a1 (Rt.strip (Rt.strip a1r)))] S fun t8 S_2=>
 AA (BV AF 1 [(0,(.int .i64 2)),(2,t6),(3,t8)]) fun t9=>
 AA (AI AF (some AF.zero) 0 t9) fun b4=>
 AA ((AD AF (some b4) 0).map AV.strip) fun r4=>
 Q r4 S_2
theorem dY{w0 a0 a0r a1 a1r S0 Q}(h:YQ (AP (En w0)) a0 a0r a1 a1r S0 Q):AC w0 Rn [(.vs 1 a0 a0r),(.vs 7 a1 a1r)] S0 Q:=Ac w0 Tryz.func55 (by kernel_rfl) (by kernel_rfl) h
def Vg(Ca:CaT)(a0a:List (List AV))(a0ar:Rt)(a0b:Int)(S0:St)(Q:QT):Prop:=
 AA (DT AK (.agg [(.vs 2 a0a a0ar),(.int .i64 a0b)])) fun c1=>
 AL (fun (x3:AV) (S_5:St)=>
 Q (AV.strip x3) S_5) fun j=>
 AA (AD AK (some c1) 0) fun t5=>
 AU Ca EN [(AV.strip t5)] S0 fun t6 S=>
 Bo ([(.vs 2 [] .nil),(.int .i64 0)],[(some c1)]) (fun v bx=>([v 3,v 7],[bx 1])) (fun nx v bx S_2=>
 AA (AJ .lss (v 7) t6) fun t8=>
 ifK t8
 (AA (BV Bf 1 [(0,(AV.strip (AV.strip (v 7)))),(1,(.int .i64 0))]) fun t12=>
 AA (BY 2 [t12]) fun e13=>
 AA (AT Bf S_2 (v 3) (.vs 2 e13 .full)) fun t14=>
 AA (AD AK (bx 1) 0) fun t15=>
 AU Ca Da [(AV.strip t15),(AV.strip (AV.strip (v 7)))] S_2 fun t17 S_3=>
 AU Ca Ee [t17,(.int .i64 0)] S_3 fun t18 S_4=>
 ifK t18
 (j t14 S_4)
 (AA (AJ .add (v 7) (.int .i64 1)) fun t19=>
 nx ([t14,(AV.strip t19)],[(bx 1)]) S_4))
 (j (v 3) S_2)) S
theorem cA{w0 a0a a0ar a0b S0 Q}(h:Vg (AP (En w0)) a0a a0ar a0b S0 Q):AC w0 Pc [(.agg [(.vs 2 a0a a0ar),(.int .i64 a0b)])] S0 Q:=Ac w0 Tryz.func58 (by kernel_rfl) (by kernel_rfl) h
def Qa(Ca:CaT)(a0a:Int)(a0b:Bool)(a0c:List (List AV))(a0cr:Rt)(a0d:List (List AV))(a0dr:Rt)(a0e:Int)(a0f:List (List AV))(a0fr:Rt)(a0g:List UInt8)(S0:St)(Q:QT):Prop:=
 AA (DT AF (.agg [(.int .i64 a0a),(.bool a0b),(.vs 1 a0c a0cr),(.vs 7 a0d a0dr),(.int .i64 a0e),(.vs 2 a0f a0fr),(.str a0g)])) fun c1=>
 AA (Bx AN (S0++[Obj.cells AN.zero EV]) (.ptr S0.length 0) (.int .i64 400)) fun S=>
 AA (AD AF (some c1) 0) fun t4=>
 AU Ca JC [(AV.strip t4),(.int .i64 30),(.ptr S0.length 0)] S fun t5 S_2=>
 AA (unA .not t5) fun t6=>
 ifK t6
 (Q (.int .i64 0) S_2)
 (Q (.int .i64 1) S_2)
theorem Wl{w0 a0a a0b a0c a0cr a0d a0dr a0e a0f a0fr a0g S0 Q}(h:Qa (AP (En w0)) a0a a0b a0c a0cr a0d a0dr a0e a0f a0fr a0g S0 Q):AC w0 I4 [(.agg [(.int .i64 a0a),(.bool a0b),(.vs 1 a0c a0cr),(.vs 7 a0d a0dr),(.int .i64 a0e),(.vs 2 a0f a0fr),(.str a0g)])] S0 Q:=Ac w0 Tryz.func61 (by kernel_rfl) (by kernel_rfl) h
def QX(Ca:CaT)(a0a:Int)(a0b:Bool)(a0c:List (List AV))(a0cr:Rt)(a0d:List (List AV))(a0dr:Rt)(a0e:Int)(a0f:List (List AV))(a0fr:Rt)(a0g:List UInt8)(S0:St)(Q:QT):Prop:=
 AA (DT AF (.agg [(.int .i64 a0a),(.bool a0b),(.vs 1 a0c a0cr),(.vs 7 a0d a0dr),(.int .i64 a0e),(.vs 2 a0f a0fr),(.str a0g)])) fun c1=>
 AA (some c1) fun _=>
 AA (AD AN (some c1) 0) fun t4=>
 AA (AJ .eql (AV.strip t4) (.int .i64 2)) fun t5=>
 AL (fun (x8:AV) (S_2:St)=>
 AA (AZ (AV.strip t5) x8 (.bool false)) fun t9=>
 AL (fun (x13:AV) (S_4:St)=>
 AA (AZ (AV.strip (AV.strip t9)) x13 (.bool false)) fun t14=>
 AL (fun (x18:AV) (S_6:St)=>
 AA (AZ (AV.strip (AV.strip t14)) x18 (.bool false)) fun t19=>
 Q (AV.strip t19) S_6) fun j=>
 ifK (AV.strip (AV.strip t14))
 (AA (AD AF (some c1) 0) fun t16=>
 AU Ca I7 [(AV.strip t16)] S_4 fun t17 S_5=>
 AA (AJ .leq t17 (.int .i64 15)) fun t18=>
 j t18 S_5)
 (j (.tup []) S_4)) fun j_2=>
 ifK (AV.strip (AV.strip t9))
 (AA (AD AF (some c1) 0) fun t11=>
 AU Ca JA [(AV.strip t11)] S_2 fun t12 S_3=>
 AA (AJ .leq t12 (.int .i64 4096)) fun t13=>
 j_2 t13 S_3)
 (j_2 (.tup []) S_2)) fun j_3=>
 ifK (AV.strip t5)
 (AA (AD AF (some c1) 0) fun t7=>
 AU Ca Lr [(AV.strip t7)] S0 fun t8 S=>
 j_3 t8 S)
 (j_3 (.tup []) S0)
theorem XP{w0 a0a a0b a0c a0cr a0d a0dr a0e a0f a0fr a0g S0 Q}(h:QX (AP (En w0)) a0a a0b a0c a0cr a0d a0dr a0e a0f a0fr a0g S0 Q):AC w0 G9 [(.agg [(.int .i64 a0a),(.bool a0b),(.vs 1 a0c a0cr),(.vs 7 a0d a0dr),(.int .i64 a0e),(.vs 2 a0f a0fr),(.str a0g)])] S0 Q:=Ac w0 Tryz.func62 (by kernel_rfl) (by kernel_rfl) h
def Xf(Ca:CaT)(a0:List (List AV))(a0r:Rt)(a1:List UInt8)(a2:Bool)(S0:St)(Q:QT):Prop:=
 Ca H5 [(.str a1)] S0 fun t13 S=>
 AA (AM t13 0) fun t14=>
 AA (AM (AS t13 0) 1) fun t15=>
 AA (AM (AS (AS t13 0) 1) 2) fun t16=>
 AA (AJ .neq (AV.strip t16) (.int .i64 0)) fun t18=>
 ifK t18
 (Q (.tup [.nil,(AV.flat (AV.strip t16))]) S)
 (AA (BV Eh 1 [(0,(AV.strip t14)),(1,(.vs 2 [[(.str [47]),(.vs 2 a0 (Rt.strip (Rt.strip (Rt.strip a0r))))]] .full)),(2,(.bool a2))]) fun t25=>
 AA (DT Eh t25) fun c26=>
 Q (.tup [(.ptr S.length 0),(.int .i64 0)]) (S++[Obj.cells c26 Ck]))
theorem ee{w0 a0 a0r a1 a2 S0 Q}(h:Xf (AP (En w0)) a0 a0r a1 a2 S0 Q):AC w0 Rl [(.vs 2 a0 a0r),(.str a1),(.bool a2)] S0 Q:=Ac w0 Tryz.func63 (by kernel_rfl) (by kernel_rfl) h
def Lg(Ca:CaT)(a0 a0o:Nat)(S0:St)(Q:QT):Prop:=
 AL (fun (S_6:St)=>
 Q (.tup [(.str []),(.vs 2 [] .nil),(.str []),(.bool false)]) S_6) fun j_2=>
 Bo ([],[]) (fun v bx=>([],[])) (fun nx v bx S=>
 AA (AO Cy S (.ptr a0 (a0o+4))) fun t9=>
 AA (Gw .ptr .eql (AV.strip t9) .nil) fun t10=>
 AL (fun (x17:AV)=>
 AA (AZ (AV.strip t10) x17 (.bool false)) fun t18=>
 ifK (AV.strip t18)
 (AA (AO AX S (.ptr a0 (a0o+0))) fun t22=>
 AA (Aa AG (AV.strip t22) (.int .i64 0)) fun t23=>
 AA (AO AG S t23) fun t24=>
 AA (AJ .neq (AV.strip t24) (.str [46,46])) fun t25=>
 ifK t25
 (AA (AO AX S (.ptr a0 (a0o+0))) fun t35=>
 AA (Aa AG (AV.strip t35) (.int .i64 0)) fun t36=>
 AA (AO AG S t36) fun t37=>
 Ca FZ [(.ptr a0 a0o)] S fun t27 S_2=>
 (AA (AO AG S_2 t36) fun t37_2=>
 ((AV.strip t37_2):AV)=(AV.strip t37))∧
 ((AA (AO AX S_2 (.ptr a0 (a0o+0))) fun t35_2=>
 ((AV.strip t35_2):AV)=(AV.strip t35))∧
 (AA (JY AG t27 0) fun t28=>
 Ca FZ [(.ptr a0 a0o)] S_2 fun t30 S_3=>
 (AA (AO AG S_3 t36) fun t37_3=>
 ((AV.strip t37_3):AV)=(AV.strip t37))∧
 ((AA (AO AX S_3 (.ptr a0 (a0o+0))) fun t35_3=>
 ((AV.strip t35_3):AV)=(AV.strip t35))∧
 (AA (JY DD t30 1) fun t31=>
 Q (.tup [(AV.flat (AV.strip t28)),(AV.flat (AV.strip t31)),(AV.flat (AV.strip t37)),(.bool true)]) S_3)))))
 (AA (AO AX S (.ptr a0 (a0o+0))) fun t42=>
 AA (Dk AG (AV.strip0 t42) (some (.int .i64 1)) none none) fun t43=>
 AA (Bx AX (stripMem S (.ptr a0 (a0o+0))) (.ptr a0 (a0o+0)) t43) fun S_4=>
 AA (AO Bd S_4 (.ptr a0 (a0o+1))) fun t49=>
 AA (A9 (AV.strip t49)) fun t50=>
 AA (AJ .gtr t50 (.int .i64 1)) fun t51=>
 ifK t51
 (AA (AO Bd S_4 (.ptr a0 (a0o+1))) fun t56=>
 AA (AO Bd S_4 (.ptr a0 (a0o+1))) fun t60=>
 AA (A9 (AV.strip t60)) fun t61=>
 AA (AJ .sub t61 (.int .i64 1)) fun t62=>
 AA (Dk Cs (AV.strip t56) none (some t62) none) fun t63=>
 AA (Bx Bd S_4 (.ptr a0 (a0o+1)) t63) fun S_5=>
 nx ([],[]) S_5)
 (nx ([],[]) S_4)))
 (j_2 S)) fun j=>
 ifK (AV.strip t10)
 (AA (AO AX S (.ptr a0 (a0o+0))) fun t15=>
 AA (A9 (AV.strip t15)) fun t16=>
 AA (AJ .gtr t16 (.int .i64 0)) fun t17=>
 j t17)
 (j (.tup []))) S0
theorem RI{w0 a0 a0o S0 Q}(h:Lg (AP (En w0)) a0 a0o S0 Q):AC w0 F8 [(.ptr a0 a0o)] S0 Q:=Ac w0 Tryz.func64 (by kernel_rfl) (by kernel_rfl) h
def JJ(Ca:CaT)(a0 a0o:Nat)(S0:St)(Q:QT):Prop:=
 AA (AO Cy S0 (.ptr a0 (a0o+4))) fun t8=>
 AA (Gw .ptr .neq (AV.strip t8) .nil) fun t9=>
 ifK t9
 (AA (AO Cy S0 (.ptr a0 (a0o+4))) fun t13=>
 AA (Hq (AV.strip t13)) fun t14=>
 AA (AO Aj S0 t14) fun t15=>
 AA (AI Aj (some Aj.zero) 0 (AV.strip t15)) fun b2=>
 AA ((AD Aj (some b2) 0).map AV.strip) fun r2=>
 Q r2 S0)
 (Ca FZ [(.ptr a0 a0o)] S0 fun t17 S=>
 AA (AI Cs (some [(.str []),(.vs 2 [] .nil)]) 0 t17) fun b3=>
 AA (some b3) fun _=>
 AA (AD AG (some b3) 0) fun t19=>
 AA (some b3) fun _=>
 AA (AD DD (some b3) 1) fun t21=>
 AA (BV Bu 1 [(0,(.int .i64 2)),(2,(AV.strip t21))]) fun t22=>
 AA (BV Aj 1 [(0,(AV.strip t19)),(1,t22)]) fun t23=>
 AA (AI Aj (some Aj.zero) 0 t23) fun b4=>
 AL (fun (y4:Option (List AV))=>
 AA (AD Aj y4 0) fun t34=>
 AA (AI Aj (some Aj.zero) 0 (AV.strip t34)) fun b2_2=>
 AA ((AD Aj (some b2_2) 0).map AV.strip) fun r2_2=>
 Q r2_2 S) fun j=>
 AA (some b3) fun _=>
 AA (AD DD (some b3) 1) fun t25=>
 AA (A9 (AV.strip t25)) fun t26=>
 AA (AJ .gtr t26 (.int .i64 0)) fun t27=>
 ifK t27
 (AA (some b3) fun _=>
 AA (AD DD (some b3) 1) fun t29=>
 AA (Aa Bf (AV.strip t29) (.int .i64 0)) fun t30=>
 AA (AO Bf S t30) fun t31=>
 AA (some b4) fun _=>
 AA (some b4) fun _=>
 AA (AI Bf (some b4) 2 (AV.strip t31)) fun b4_2=>
 j (some b4_2))
 (j (some b4)))
theorem OQ{w0 a0 a0o S0 Q}(h:JJ (AP (En w0)) a0 a0o S0 Q):AC w0 GP [(.ptr a0 a0o)] S0 Q:=Ac w0 Tryz.func65 (by kernel_rfl) (by kernel_rfl) h
def K4(Ca:CaT)(a0 a0o:Nat)(a1a a1ba a1bb:Int)(a1c:List (List AV))(a1cr:Rt)(a2:Bool)(a3:List UInt8)(S0:St)(Q:QT):Prop:=
 AA (DT Bu (.agg [(.int .i64 a1a),(.int .i64 a1ba),(.int .i64 a1bb),(.vs 2 a1c a1cr)])) fun c5=>
 Ca F8 [(.ptr a0 a0o)] S0 fun t16 S=>
 AA (AM t16 0) fun t17=>
 AA (AM (AS t16 0) 1) fun t18=>
 AA (AM (AS (AS t16 0) 1) 2) fun t19=>
 AA (AM (AS (AS (AS t16 0) 1) 2) 3) fun t20=>
 AA (unA .not (AV.strip t20)) fun t22=>
 ifK t22
 (Q (.int .i64 1) S)
 (ifK (.bool (!a2))
 (Q (.int .i64 2) S)
 (AA (AO AX S (.ptr a0 (a0o+0))) fun t29=>
 AA (Dk AG (AV.strip0 t29) (some (.int .i64 1)) none none) fun t30=>
 AA (Bx AX (stripMem S (.ptr a0 (a0o+0))) (.ptr a0 (a0o+0)) t30) fun S_2=>
 AA (AO AX S_2 (.ptr a0 (a0o+0))) fun t36=>
 AA (A9 (AV.strip t36)) fun t37=>
 AA (AJ .eql t37 (.int .i64 0)) fun t38=>
 AL (fun (S_8:St)=>
 Q (.int .i64 0) S_8) fun j_3=>
 AA (some c5) fun _=>
 AA (AD AN (some c5) 0) fun t50=>
 AA (AJ .eql (AV.strip t50) (.int .i64 3)) fun t51=>
 AL (fun (x60:AV)=>
 AA (AZ (AV.strip t51) x60 (.bool false)) fun t61=>
 ifK (AV.strip t61)
 (Ca HV [(.ptr a0 a0o),(.str a3)] S_2 fun t64 S_3=>
 Q t64 S_3)
 (AA (some c5) fun _=>
 AA (AD AN (some c5) 0) fun t67=>
 AA (AJ .eql (AV.strip t67) (.int .i64 2)) fun t68=>
 ifK t68
 (AA (AO Bd S_2 (.ptr a0 (a0o+1))) fun t73=>
 AA (AO Bd S_2 (.ptr a0 (a0o+1))) fun t77=>
 AA (A9 (AV.strip t77)) fun t78=>
 AA (AO Bd S_2 (.ptr a0 (a0o+1))) fun t82=>
 AA (A9 (AV.strip t82)) fun t83=>
 AA (Dk Cs (AV.strip t73) none (some t78) (some t83)) fun t84=>
 AA (some c5) fun _=>
 AA (AD DD (some c5) 3) fun t89=>
 AU Ca J5 [(AV.strip t17),(AV.strip t19)] S_2 fun t87 S_4=>
 (AA (AO Bd S_4 (.ptr a0 (a0o+1))) fun t82_2=>
 ((AV.strip t82_2):AV)=(AV.strip t82))∧
 ((AA (AO Bd S_4 (.ptr a0 (a0o+1))) fun t77_2=>
 ((AV.strip t77_2):AV)=(AV.strip t77))∧
 ((AA (AO Bd S_4 (.ptr a0 (a0o+1))) fun t73_2=>
 ((AV.strip t73_2):AV)=(AV.strip t73))∧
 (AA (BV Cs 1 [(0,t87),(1,(AV.strip t89))]) fun t90=>
 AA (BY 2 [t90]) fun e91=>
 AA (AT Cs S_4 t84 (.vs 2 e91 .full)) fun t92=>
 AA (Bx Bd S_4 (.ptr a0 (a0o+1)) t92) fun S_5=>
 j_3 S_5))))
 (AA (unA .not (AV.strip t38)) fun t97=>
 ifK t97
 (Q (.int .i64 3) S_2)
 (AA (AD Bu (some c5) 0) fun t43=>
 AU Ca J5 [(AV.strip t17),(AV.strip t19)] S_2 fun t42 S_6=>
 AA (BV Aj 1 [(0,t42),(1,(AV.strip t43))]) fun t44=>
 AA (DT Aj t44) fun c45=>
 AA (Bx Cy (S_6++[Obj.cells c45 I5]) (.ptr a0 (a0o+4)) (.ptr S_6.length 0)) fun S_7=>
 j_3 S_7)))) fun j_2=>
 ifK (AV.strip t51)
 (AA (unA .not (AV.strip t38)) fun t54=>
 AL (fun (x59:AV)=>
 AA (AZ (AV.strip t54) (.bool true) x59) fun t60=>
 j_2 (AV.strip t60)) fun j=>
 gK (AV.strip t54)
 (j (.tup []))
 (AA (AO Dg S_2 (.ptr a0 (a0o+2))) fun t59=>
 j (AV.strip t59))
 (j (.tup [])))
 (j_2 (.tup []))))
theorem P6{w0 a0 a0o a1a a1ba a1bb a1c a1cr a2 a3 S0 Q}(h:K4 (AP (En w0)) a0 a0o a1a a1ba a1bb a1c a1cr a2 a3 S0 Q):AC w0 Fi [(.ptr a0 a0o),(.agg [(.int .i64 a1a),(.int .i64 a1ba),(.int .i64 a1bb),(.vs 2 a1c a1cr)]),(.bool a2),(.str a3)] S0 Q:=Ac w0 Tryz.func66 (by kernel_rfl) (by kernel_rfl) h
def Vp(Ca:CaT)(a0a:List (List AV))(a0ar:Rt)(a0b:Int)(a1:List (List AV))(a1r:Rt)(a2:List UInt8)(S0:St)(Q:QT):Prop:=
 AA (DT AK (.agg [(.vs 2 a0a a0ar),(.int .i64 a0b)])) fun c3=>
 AL (fun (y8_3:Option (List AV)) (S_7:St)=>
 AA (AD Bu y8_3 0) fun t77=>
 AA y8_3 fun _=>
 AA (AD AN y8_3 0) fun t79=>
 AA (AJ .neq (AV.strip t79) (.int .i64 0)) fun t80=>
 AA (AI Bu (some Bu.zero) 0 (AV.strip t77)) fun b6=>
 AA ((AD Bu (some b6) 0).map AV.strip) fun r6=>
 Q (.tup [(AV.flat r6),(AV.flat t80)]) S_7) fun j_4=>
 Bo ([(.int .i64 0)],[(some c3),(some Bu.zero)]) (fun v bx=>([v 17],[bx 3,bx 8])) (fun nx v bx S=>
 AA (AJ .lss (v 17) (.int .i64 (List.length a1:Int))) fun t18=>
 ifK t18
 (AL (fun (y8_2:Option (List AV)) (S_6:St)=>
 AA (AJ .add (v 17) (.int .i64 1)) fun t76=>
 nx ([(AV.strip t76)],[(bx 3),y8_2]) S_6) fun j_3=>
 AA (Aa Bf (.vs 2 a1 (Rt.strip a1r)) (v 17)) fun t19=>
 AA (AO Bf S t19) fun t20=>
 AA (AI Bf (some [(.int .i64 0),(.int .i64 0)]) 0 (AV.strip t20)) fun b10=>
 AA (AD AK (bx 3) 0) fun t21=>
 AA (some b10) fun _=>
 AA (AD AN (some b10) 0) fun t23=>
 AU Ca Da [(AV.strip t21),(AV.strip t23)] S fun t24 S_2=>
 AA (Gw .ptr .eql (AV.strip t24) .nil) fun t26=>
 ifK t26
 (j_3 (bx 8) S_2)
 (AA (some b10) fun _=>
 AA (AD AN (some b10) 1) fun t30=>
 AU Ca E7 [(AV.strip t24),(AV.strip t30),(.str a2)] S_2 fun t32 S_3=>
 AA (AM t32 0) fun t33=>
 AA (AM (AS t32 0) 1) fun t34=>
 AA (unA .not (AV.strip t34)) fun t36=>
 ifK t36
 (j_3 (bx 8) S_3)
 (AU Ca E8 [(AV.strip t24),(AV.strip t33)] S_3 fun t39 S_4=>
 AA (AJ .neq (AV.strip t39) (.int .i64 2)) fun t41=>
 ifK t41
 (AA (bx 8) fun _=>
 AA (AD AN (bx 8) 0) fun t43=>
 AA (AJ .eql (AV.strip t43) (.int .i64 0)) fun t44=>
 AL (fun (x47:AV)=>
 AA (AZ (AV.strip t44) x47 (.bool false)) fun t48=>
 ifK (AV.strip t48)
 (AA (some b10) fun _=>
 AA (AD AN (some b10) 0) fun t51=>
 AA (BV Bf 1 [(0,(AV.strip t51)),(1,(AV.strip t33))]) fun t53=>
 AA (BV Bu 1 [(0,(AV.strip t39)),(1,t53)]) fun t54=>
 AA (AI Bu (bx 8) 0 t54) fun b8=>
 j_4 (some b8) S_4)
 (j_4 (bx 8) S_4)) fun j=>
 ifK (AV.strip t44)
 (AA (AJ .neq (AV.strip t39) (.int .i64 4)) fun t47=>
 j t47)
 (j (.tup [])))
 (AL (fun (y8:Option (List AV))=>
 AA y8 fun _=>
 AA (AD DD y8 3) fun t65=>
 AA (some b10) fun _=>
 AA (AD AN (some b10) 0) fun t67=>
 AA (BV Bf 1 [(0,(AV.strip t67)),(1,(AV.strip t33))]) fun t69=>
 AA (BY 2 [t69]) fun e70=>
 AA (AT Bf S_4 (AV.strip0 t65) (.vs 2 e70 .full)) fun t71=>
 AA (CJ y8 3) fun _=>
 AA (AI DD (CJ y8 3) 3 t71) fun b8_3=>
 AU Ca Ee [(AV.strip t24),(AV.strip t33)] S_4 fun t75 S_5=>
 ifK t75
 (j_4 (some b8_3) S_5)
 (j_3 (some b8_3) S_5)) fun j_2=>
 AA (bx 8) fun _=>
 AA (AD AN (bx 8) 0) fun t56=>
 AA (AJ .eql (AV.strip t56) (.int .i64 0)) fun t57=>
 ifK t57
 (AA (some b10) fun _=>
 AA (AD AN (some b10) 0) fun t60=>
 AA (BV Bf 1 [(0,(AV.strip t60)),(1,(AV.strip t33))]) fun t62=>
 AA (BV Bu 1 [(0,(AV.strip t39)),(1,t62)]) fun t63=>
 AA (AI Bu (bx 8) 0 t63) fun b8_2=>
 j_2 (some b8_2))
 (j_2 (bx 8))))))
 (j_4 (bx 8) S)) S0
theorem cX{w0 a0a a0ar a0b a1 a1r a2 S0 Q}(h:Vp (AP (En w0)) a0a a0ar a0b a1 a1r a2 S0 Q):AC w0 Ok [(.agg [(.vs 2 a0a a0ar),(.int .i64 a0b)]),(.vs 2 a1 a1r),(.str a2)] S0 Q:=Ac w0 Tryz.func67 (by kernel_rfl) (by kernel_rfl) h
def Mm(Ca:CaT)(a0a:List (List AV))(a0ar:Rt)(a0b a1:Int)(S0:St)(Q:QT):Prop:=
 AA (DT AK (.agg [(.vs 2 a0a a0ar),(.int .i64 a0b)])) fun c2=>
 AL (fun (x12:AV)=>
 AA (AZ (.bool (decide (a1 < 0))) (.bool true) x12) fun t13=>
 ifK (AV.strip t13)
 (Q .nil S0)
 (AA (some c2) fun _=>
 AA (AD CA (some c2) 0) fun t15=>
 AA (Aa C0 (AV.strip t15) (.int .i64 a1)) fun t17=>
 AA (BK t17 1) fun t18=>
 AA (AO EO S0 t18) fun t19=>
 Q (AV.strip t19) S0)) fun j=>
 ifK (.bool (decide (a1 < 0)))
 (j (.tup []))
 (AA (some c2) fun _=>
 AA (AD CA (some c2) 0) fun t10=>
 AA (A9 (AV.strip t10)) fun t11=>
 AA (AJ .geq (.int .i64 a1) t11) fun t12=>
 j t12)
theorem T8{w0 a0a a0ar a0b a1 S0 Q}(h:Mm (AP (En w0)) a0a a0ar a0b a1 S0 Q):AC w0 Da [(.agg [(.vs 2 a0a a0ar),(.int .i64 a0b)]),(.int .i64 a1)] S0 Q:=Ac w0 Tryz.func68 (by kernel_rfl) (by kernel_rfl) h
def H9(Ca:CaT)(a0 a0o:Nat)(a1:Int)(S0:St)(Q:QT):Prop:=
 Ca Cr [(.ptr a0 a0o),(.int .i64 a1)] S0 fun t7 S=>
 AA (JY AF t7 0) fun t8=>
 AA (JY AG (AV.strip t8) 6) fun t9=>
 Q (AV.strip t9) S
theorem Mu{w0 a0 a0o a1 S0 Q}(h:H9 (AP (En w0)) a0 a0o a1 S0 Q):AC w0 Ec [(.ptr a0 a0o),(.int .i64 a1)] S0 Q:=Ac w0 Tryz.func69 (by kernel_rfl) (by kernel_rfl) h
def TF(Ca:CaT)(a0a:List (List AV))(a0ar:Rt)(a0b:Int)(a1:List UInt8)(S0:St)(Q:QT):Prop:=
 AA (DT AK (.agg [(.vs 2 a0a a0ar),(.int .i64 a0b)])) fun c2=>
 AA (AD AK (some c2) 0) fun t10=>
 AU Ca Lw [(AV.strip t10),(.str a1),(.bool true)] S0 fun t12 S=>
 AA (AM t12 0) fun t13=>
 AA (AM (AS t12 0) 1) fun t14=>
 AA (AI Aj (some Aj.zero) 0 t13) fun b7=>
 AA (AJ .neq (AV.strip t14) (.int .i64 0)) fun t17=>
 ifK t17
 (Q (.tup [(.str []),(.vs 2 [] .nil),(AV.flat (AV.strip t14))]) S)
 (AA (some b7) fun _=>
 AA (some b7) fun _=>
 AA (AD AN (some b7) 1) fun t22=>
 AA (AJ .neq (AV.strip t22) (.int .i64 2)) fun t23=>
 ifK t23
 (Q (.tup [(.str []),(.vs 2 [] .nil),(.int .i64 3)]) S)
 (AA (some b7) fun _=>
 AA (AD AG (some b7) 0) fun t25=>
 AA (AD AK (some c2) 0) fun t26=>
 AA (some b7) fun _=>
 AA (some b7) fun _=>
 AA (AD DD (some b7) 4) fun t29=>
 AU Ca Nu [(AV.strip t26),(AV.strip t29)] S fun t30 S_2=>
 Q (.tup [(AV.flat (AV.strip t25)),(AV.flat t30),(.int .i64 0)]) S_2))
theorem ZH{w0 a0a a0ar a0b a1 S0 Q}(h:TF (AP (En w0)) a0a a0ar a0b a1 S0 Q):AC w0 KD [(.agg [(.vs 2 a0a a0ar),(.int .i64 a0b)]),(.str a1)] S0 Q:=Ac w0 Tryz.func76 (by kernel_rfl) (by kernel_rfl) h
def VZ(Ca:CaT)(a0:List UInt8)(S0:St)(Q:QT):Prop:=
 Ca PD [(.str a0)] S0 fun t6 S=>
 AA (BV AF 1 [(0,(.int .i64 1)),(4,(.int .i64 (List.length a0:Int))),(5,t6)]) fun t7=>
 AA (AI AF (some AF.zero) 0 t7) fun b2=>
 AA ((AD AF (some b2) 0).map AV.strip) fun r2=>
 Q r2 S
theorem bG{w0 a0 S0 Q}(h:VZ (AP (En w0)) a0 S0 Q):AC w0 PL [(.str a0)] S0 Q:=Ac w0 Tryz.func81 (by kernel_rfl) (by kernel_rfl) h
def UI(Ca:CaT)(a0:Int)(S0:St)(Q:QT):Prop:=
 AA (DT Eq (.agg [(.int .i64 (if 1024 < (if 1 > a0 then 1 else a0) then 1024 else (if 1 > a0 then 1 else a0))),(.int .i64 0),(.map (some S0.length))])) fun c8=>
 Q (.ptr (S0++[Obj.map []]).length 0) ((S0++[Obj.map []])++[Obj.cells c8 EJ])
theorem Yq{w0 a0 S0 Q}(h:UI (AP (En w0)) a0 S0 Q):AC w0 Nv [(.int .i64 a0)] S0 Q:=Ac w0 Tryz.func83 (by kernel_rfl) (by kernel_rfl) h
end Go.Av
