/- Parts of the proofs of this seat: abstract values over the model, and what the functions of the program do. No condition. -/
import Derived.Test.YtgilicomkelmdaaGreatM8
import Derived.Test.YtgilicomkelmdaaGreatM7
import Derived.Test.YtgilicomkelmdaaGreatProg
import Derived.KernelRfl
set_option linter.all false
set_option maxRecDepth 100000
namespace Go.Av
open Go.Proofs
abbrev GC:Nat:=3
abbrev R6:Nat:=5
abbrev Fq:Nat:=9
abbrev KH:Nat:=22
abbrev Kv:Nat:=24
abbrev PA:Nat:=26
abbrev Xm:Nat:=30
abbrev I6:Nat:=32
abbrev CQ:Nat:=49
abbrev GP:Nat:=58
abbrev DT:Nat:=63
abbrev Hl:Nat:=83
abbrev Hi:Nat:=107
abbrev Pq:Nat:=117
abbrev LP:Nat:=120
abbrev RE:Nat:=150
abbrev BK:Nat:=161
abbrev CS:Nat:=166
abbrev Bz:Nat:=180
abbrev CF:Nat:=189
abbrev C3:Nat:=194
abbrev Qh:Nat:=196
abbrev Cr:Nat:=203
abbrev Ki:Nat:=205
abbrev Cm:Nat:=225
abbrev Ja:Nat:=4
abbrev Im:Nat:=5
abbrev L8:Nat:=6
abbrev Hg:Nat:=7
abbrev MC:Nat:=8
abbrev MH:Nat:=9
abbrev LM:Nat:=11
abbrev Ku:Nat:=12
abbrev IN:Nat:=13
abbrev IQ:Nat:=14
abbrev Ln:Nat:=15
abbrev DI:Nat:=16
abbrev C4:Nat:=17
abbrev A9:Nat:=18
abbrev FZ:Nat:=19
abbrev OB:Nat:=20
abbrev By:Nat:=21
abbrev LA:Nat:=22
abbrev BA:Nat:=23
abbrev Aw:Nat:=24
abbrev Cq:Nat:=25
abbrev BP:Nat:=26
abbrev Gi:Nat:=43
abbrev Fv:Nat:=44
abbrev He:Nat:=46
abbrev IP:Nat:=47
abbrev D6:Nat:=48
abbrev DJ:Nat:=49
abbrev Dc:Nat:=50
abbrev Fb:Nat:=51
abbrev Jx:Nat:=52
abbrev Ef:Nat:=53
abbrev Dp:Nat:=54
abbrev Nw:Nat:=55
abbrev JX:Nat:=56
abbrev LJ:Nat:=57
abbrev Fj:Nat:=58
abbrev D9:Nat:=59
abbrev LF:Nat:=60
abbrev Fl:Nat:=61
abbrev Jy:Nat:=62
abbrev I4:Nat:=63
abbrev Kt:Nat:=64
abbrev Gb:Nat:=65
abbrev C5:Nat:=66
abbrev FX:Nat:=67
abbrev Nr:Nat:=68
abbrev EO:Nat:=69
abbrev IE:Nat:=70
abbrev I7:Nat:=71
abbrev N6:Nat:=72
abbrev Ls:Nat:=73
abbrev FH:Nat:=74
abbrev FQ:Nat:=75
abbrev ML:Nat:=76
abbrev Cu:Nat:=77
abbrev Dt:Nat:=78
abbrev Er:Nat:=79
abbrev FD:Nat:=80
abbrev Kw:Nat:=81
abbrev IT:Nat:=82
abbrev EH:Nat:=83
abbrev EJ:Nat:=84
abbrev Q7:Nat:=85
abbrev EV:Nat:=86
abbrev Ii:Nat:=87
abbrev IU:Nat:=88
abbrev EU:Nat:=89
abbrev Bw:Nat:=90
abbrev Dv:Nat:=91
abbrev C7:Nat:=92
abbrev DF:Nat:=93
abbrev HE:Nat:=94
abbrev FP:Nat:=95
abbrev FR:Nat:=96
abbrev Ga:Nat:=97
abbrev Du:Nat:=98
abbrev Ei:Nat:=99
abbrev B7:Nat:=100
abbrev F6:Nat:=101
abbrev Ia:Nat:=102
abbrev Bu:Nat:=103
abbrev Bt:Nat:=104
abbrev K5:Nat:=105
abbrev EW:Nat:=106
abbrev MG:Nat:=107
abbrev MF:Nat:=108
abbrev Cc:Nat:=109
abbrev Bs:Nat:=110
abbrev Dq:Nat:=111
abbrev Ib:Nat:=112
abbrev CP:Nat:=113
abbrev Jv:Nat:=114
abbrev LQ:Nat:=115
abbrev IR:Nat:=116
abbrev Ge:Nat:=117
abbrev SP:Nat:=118
abbrev Gm:Nat:=119
abbrev FE:Nat:=120
abbrev Et:Nat:=121
abbrev F7:Nat:=122
abbrev Lp:Nat:=123
abbrev JC:Nat:=124
abbrev Kf:Nat:=125
abbrev DG:Nat:=126
abbrev B4:Nat:=127
abbrev HK:Nat:=128
abbrev Ft:Nat:=129
abbrev G9:Nat:=131
abbrev F3:Nat:=132
abbrev FM:Nat:=133
abbrev FK:Nat:=167
abbrev Fd:Nat:=168
abbrev FF:Nat:=169
def SM:TI:={size:=1,bytes:=8,agg:=false,zero:=[.nilfn],kind:=.func,id:=1}
@[simp] theorem iJ:SM.size=1:=rfl
@[simp] theorem lL:SM.agg=false∧SM.zero=[.nilfn]∧SM.kind= .func:=⟨rfl,rfl,rfl⟩
def Ps:TI:={size:=1,bytes:=8,agg:=false,zero:=[.int .i64 0],kind:=.int .i64,id:=2}
@[simp] theorem gD:Ps.size=1:=rfl
@[simp] theorem kL:Ps.agg=false∧Ps.zero=[.int .i64 0]∧Ps.kind= .int .i64:=⟨rfl,rfl,rfl⟩
def AU:TI:={size:=1,bytes:=8,agg:=false,zero:=[.int .i64 0],kind:=.int .i64,id:=3}
@[simp] theorem jd:AU.size=1:=rfl
@[simp] theorem mL:AU.agg=false∧AU.zero=[.int .i64 0]∧AU.kind= .int .i64:=⟨rfl,rfl,rfl⟩
@[simp] theorem lI:AU.id=GC:=rfl
def Dh:TI:={size:=1,bytes:=1,agg:=false,zero:=[.bool false],kind:=.bool,id:=4}
@[simp] theorem iM:Dh.size=1:=rfl
@[simp] theorem kz:Dh.agg=false∧Dh.zero=[.bool false]∧Dh.kind= .bool:=⟨rfl,rfl,rfl⟩
def JN:TI:={size:=1,bytes:=1,agg:=false,zero:=[.int .u8 0],kind:=.int .u8,id:=5}
@[simp] theorem gp:JN.size=1:=rfl
@[simp] theorem kK:JN.agg=false∧JN.zero=[.int .u8 0]∧JN.kind= .int .u8:=⟨rfl,rfl,rfl⟩
@[simp] theorem jY:JN.id=R6:=rfl
def DD:TI:={size:=1,bytes:=1,agg:=false,zero:=[.int .u8 0],kind:=.int .u8,id:=6}
@[simp] theorem TH:DD.size=1:=rfl
@[simp] theorem Vn:DD.agg=false∧DD.zero=[.int .u8 0]∧DD.kind= .int .u8:=⟨rfl,rfl,rfl⟩
def Ae:TI:={size:=4,bytes:=24,agg:=true,zero:=[.int .i64 0,.int .i64 0,.bool false,.int .u8 0],kind:=.struct [(0,2,1),(1,3,1),(2,4,1),(3,6,1)],id:=7}
@[simp] theorem GD:Ae.size=4:=rfl
@[simp] theorem Gw:Ae.agg=true∧Ae.zero=[.int .i64 0,.int .i64 0,.bool false,.int .u8 0]∧Ae.kind= .struct [(0,2,1),(1,3,1),(2,4,1),(3,6,1)]:=⟨rfl,rfl,rfl⟩
def DC:TI:={size:=4,bytes:=24,agg:=true,zero:=[.int .i64 0,.int .i64 0,.bool false,.int .u8 0],kind:=.struct [(0,2,1),(1,3,1),(2,4,1),(3,6,1)],id:=8}
@[simp] theorem Tw:DC.size=4:=rfl
@[simp] theorem Vr:DC.agg=true∧DC.zero=[.int .i64 0,.int .i64 0,.bool false,.int .u8 0]∧DC.kind= .struct [(0,2,1),(1,3,1),(2,4,1),(3,6,1)]:=⟨rfl,rfl,rfl⟩
def AK:TI:={size:=1,bytes:=16,agg:=false,zero:=[.str []],kind:=.str,id:=9}
@[simp] theorem fD:AK.size=1:=rfl
@[simp] theorem i9:AK.agg=false∧AK.zero=[.str []]∧AK.kind= .str:=⟨rfl,rfl,rfl⟩
@[simp] theorem iO:AK.id=Fq:=rfl
def DE:TI:={size:=1,bytes:=16,agg:=false,zero:=[.str []],kind:=.str,id:=10}
@[simp] theorem Tr:DE.size=1:=rfl
@[simp] theorem Vc:DE.agg=false∧DE.zero=[.str []]∧DE.kind= .str:=⟨rfl,rfl,rfl⟩
def KF:TI:={size:=1,bytes:=8,agg:=false,zero:=[.int .u64 0],kind:=.int .u64,id:=12}
@[simp] theorem dL:KF.size=1:=rfl
@[simp] theorem iw:KF.agg=false∧KF.zero=[.int .u64 0]∧KF.kind= .int .u64:=⟨rfl,rfl,rfl⟩
def Ci:TI:={size:=1,bytes:=8,agg:=false,zero:=[.nil],kind:=.ptr 70,id:=16}
@[simp] theorem QG:Ci.size=1:=rfl
@[simp] theorem R8:Ci.agg=false∧Ci.zero=[.nil]∧Ci.kind= .ptr 70:=⟨rfl,rfl,rfl⟩
def GM:TI:={size:=1,bytes:=8,agg:=false,zero:=[.nil],kind:=.ptr 80,id:=17}
@[simp] theorem al:GM.size=1:=rfl
@[simp] theorem dQ:GM.agg=false∧GM.zero=[.nil]∧GM.kind= .ptr 80:=⟨rfl,rfl,rfl⟩
def Cv:TI:={size:=1,bytes:=8,agg:=true,zero:=[.nil],kind:=.struct [(0,17,1)],id:=18}
@[simp] theorem Rk:Cv.size=1:=rfl
@[simp] theorem T5:Cv.agg=true∧Cv.zero=[.nil]∧Cv.kind= .struct [(0,17,1)]:=⟨rfl,rfl,rfl⟩
def H3:TI:={size:=1,bytes:=16,agg:=false,zero:=[.nilifc],kind:=.iface,id:=20}
@[simp] theorem bJ:H3.size=1:=rfl
@[simp] theorem fS:H3.agg=false∧H3.zero=[.nilifc]∧H3.kind= .iface:=⟨rfl,rfl,rfl⟩
def O4:TI:={size:=1,bytes:=4,agg:=false,zero:=[.int .i32 0],kind:=.int .i32,id:=21}
@[simp] theorem gl:O4.size=1:=rfl
@[simp] theorem kg:O4.agg=false∧O4.zero=[.int .i32 0]∧O4.kind= .int .i32:=⟨rfl,rfl,rfl⟩
def D3:TI:={size:=1,bytes:=24,agg:=false,zero:=[.vs 19 [] .nil],kind:=.slice 32,id:=22}
@[simp] theorem XO:D3.size=1:=rfl
@[simp] theorem Zf:D3.agg=false∧D3.zero=[.vs 19 [] .nil]∧D3.kind= .slice 32:=⟨rfl,rfl,rfl⟩
@[simp] theorem Yy:D3.id=KH:=rfl
def EM:TI:={size:=1,bytes:=8,agg:=false,zero:=[.int .i64 0],kind:=.int .i64,id:=23}
@[simp] theorem bC:EM.size=1:=rfl
@[simp] theorem fX:EM.agg=false∧EM.zero=[.int .i64 0]∧EM.kind= .int .i64:=⟨rfl,rfl,rfl⟩
def AX:TI:={size:=1,bytes:=24,agg:=false,zero:=[.vs 1 [] .nil],kind:=.slice 9,id:=24}
@[simp] theorem cd:AX.size=1:=rfl
@[simp] theorem fu:AX.agg=false∧AX.zero=[.vs 1 [] .nil]∧AX.kind= .slice 9:=⟨rfl,rfl,rfl⟩
@[simp] theorem fE:AX.id=Kv:=rfl
def Ag:TI:={size:=8,bytes:=88,agg:=true,zero:=[.int .i64 0,.int .i64 0,.int .i64 0,.int .i64 0,.int .i64 0,.str [],.vs 1 [] .nil,.bool false],kind:=.struct [(0,23,1),(1,3,1),(2,3,1),(3,3,1),(4,3,1),(5,9,1),(6,24,1),(7,4,1)],id:=25}
@[simp] theorem GK:Ag.size=8:=rfl
@[simp] theorem Gr:Ag.agg=true∧Ag.zero=[.int .i64 0,.int .i64 0,.int .i64 0,.int .i64 0,.int .i64 0,.str [],.vs 1 [] .nil,.bool false]∧Ag.kind= .struct [(0,23,1),(1,3,1),(2,3,1),(3,3,1),(4,3,1),(5,9,1),(6,24,1),(7,4,1)]:=⟨rfl,rfl,rfl⟩
def AE:TI:={size:=8,bytes:=88,agg:=true,zero:=[.int .i64 0,.int .i64 0,.int .i64 0,.int .i64 0,.int .i64 0,.str [],.vs 1 [] .nil,.bool false],kind:=.struct [(0,23,1),(1,3,1),(2,3,1),(3,3,1),(4,3,1),(5,9,1),(6,24,1),(7,4,1)],id:=26}
@[simp] theorem ag:AE.size=8:=rfl
@[simp] theorem dn:AE.agg=true∧AE.zero=[.int .i64 0,.int .i64 0,.int .i64 0,.int .i64 0,.int .i64 0,.str [],.vs 1 [] .nil,.bool false]∧AE.kind= .struct [(0,23,1),(1,3,1),(2,3,1),(3,3,1),(4,3,1),(5,9,1),(6,24,1),(7,4,1)]:=⟨rfl,rfl,rfl⟩
@[simp] theorem cw:AE.id=PA:=rfl
def Ai:TI:={size:=6,bytes:=64,agg:=true,zero:=[.int .i64 0,.str [],.int .i64 0,.int .i64 0,.int .i64 0,.str []],kind:=.struct [(0,3,1),(1,9,1),(2,3,1),(3,3,1),(4,3,1),(5,9,1)],id:=29}
@[simp] theorem GJ:Ai.size=6:=rfl
@[simp] theorem Gn:Ai.agg=true∧Ai.zero=[.int .i64 0,.str [],.int .i64 0,.int .i64 0,.int .i64 0,.str []]∧Ai.kind= .struct [(0,3,1),(1,9,1),(2,3,1),(3,3,1),(4,3,1),(5,9,1)]:=⟨rfl,rfl,rfl⟩
def Ck:TI:={size:=6,bytes:=64,agg:=true,zero:=[.int .i64 0,.str [],.int .i64 0,.int .i64 0,.int .i64 0,.str []],kind:=.struct [(0,3,1),(1,9,1),(2,3,1),(3,3,1),(4,3,1),(5,9,1)],id:=30}
@[simp] theorem fJ:Ck.size=6:=rfl
@[simp] theorem jx:Ck.agg=true∧Ck.zero=[.int .i64 0,.str [],.int .i64 0,.int .i64 0,.int .i64 0,.str []]∧Ck.kind= .struct [(0,3,1),(1,9,1),(2,3,1),(3,3,1),(4,3,1),(5,9,1)]:=⟨rfl,rfl,rfl⟩
@[simp] theorem iE:Ck.id=Xm:=rfl
def Af:TI:={size:=19,bytes:=192,agg:=true,zero:=[.int .i64 0,.int .i64 0,.int .i64 0,.str [],.int .i64 0,.int .i64 0,.int .i64 0,.str [],.int .i64 0,.int .i64 0,.int .i64 0,.int .i64 0,.int .i64 0,.str [],.vs 1 [] .nil,.bool false,.int .i64 0,.int .i64 0,.int .i64 0],kind:=.struct [(0,3,1),(1,3,1),(2,30,6),(8,26,8),(16,3,1),(17,3,1),(18,3,1)],id:=31}
@[simp] theorem GF:Af.size=19:=rfl
@[simp] theorem Gv:Af.agg=true∧Af.zero=[.int .i64 0,.int .i64 0,.int .i64 0,.str [],.int .i64 0,.int .i64 0,.int .i64 0,.str [],.int .i64 0,.int .i64 0,.int .i64 0,.int .i64 0,.int .i64 0,.str [],.vs 1 [] .nil,.bool false,.int .i64 0,.int .i64 0,.int .i64 0]∧Af.kind= .struct [(0,3,1),(1,3,1),(2,30,6),(8,26,8),(16,3,1),(17,3,1),(18,3,1)]:=⟨rfl,rfl,rfl⟩
def AB:TI:={size:=19,bytes:=192,agg:=true,zero:=[.int .i64 0,.int .i64 0,.int .i64 0,.str [],.int .i64 0,.int .i64 0,.int .i64 0,.str [],.int .i64 0,.int .i64 0,.int .i64 0,.int .i64 0,.int .i64 0,.str [],.vs 1 [] .nil,.bool false,.int .i64 0,.int .i64 0,.int .i64 0],kind:=.struct [(0,3,1),(1,3,1),(2,30,6),(8,26,8),(16,3,1),(17,3,1),(18,3,1)],id:=32}
@[simp] theorem Y7:AB.size=19:=rfl
@[simp] theorem bD:AB.agg=true∧AB.zero=[.int .i64 0,.int .i64 0,.int .i64 0,.str [],.int .i64 0,.int .i64 0,.int .i64 0,.str [],.int .i64 0,.int .i64 0,.int .i64 0,.int .i64 0,.int .i64 0,.str [],.vs 1 [] .nil,.bool false,.int .i64 0,.int .i64 0,.int .i64 0]∧AB.kind= .struct [(0,3,1),(1,3,1),(2,30,6),(8,26,8),(16,3,1),(17,3,1),(18,3,1)]:=⟨rfl,rfl,rfl⟩
@[simp] theorem aJ:AB.id=I6:=rfl
def BZ:TI:={size:=1,bytes:=24,agg:=false,zero:=[.vs 2 [] .nil],kind:=.slice 83,id:=40}
@[simp] theorem X9:BZ.size=1:=rfl
@[simp] theorem aV:BZ.agg=false∧BZ.zero=[.vs 2 [] .nil]∧BZ.kind= .slice 83:=⟨rfl,rfl,rfl⟩
def Bd:TI:={size:=2,bytes:=32,agg:=true,zero:=[.vs 2 [] .nil,.int .i64 0],kind:=.struct [(0,40,1),(1,3,1)],id:=41}
@[simp] theorem Lt:Bd.size=2:=rfl
@[simp] theorem NJ:Bd.agg=true∧Bd.zero=[.vs 2 [] .nil,.int .i64 0]∧Bd.kind= .struct [(0,40,1),(1,3,1)]:=⟨rfl,rfl,rfl⟩
def AI:TI:={size:=2,bytes:=32,agg:=true,zero:=[.vs 2 [] .nil,.int .i64 0],kind:=.struct [(0,40,1),(1,3,1)],id:=42}
@[simp] theorem Zm:AI.size=2:=rfl
@[simp] theorem cy:AI.agg=true∧AI.zero=[.vs 2 [] .nil,.int .i64 0]∧AI.kind= .struct [(0,40,1),(1,3,1)]:=⟨rfl,rfl,rfl⟩
def BF:TI:={size:=1,bytes:=8,agg:=false,zero:=[.nilfn],kind:=.func,id:=44}
@[simp] theorem Jq:BF.size=1:=rfl
@[simp] theorem Ka:BF.agg=false∧BF.zero=[.nilfn]∧BF.kind= .func:=⟨rfl,rfl,rfl⟩
def I5:TI:={size:=1,bytes:=24,agg:=false,zero:=[.vs 6 [] .nil],kind:=.slice 30,id:=46}
@[simp] theorem cW:I5.size=1:=rfl
@[simp] theorem gR:I5.agg=false∧I5.zero=[.vs 6 [] .nil]∧I5.kind= .slice 30:=⟨rfl,rfl,rfl⟩
def BV:TI:={size:=1,bytes:=8,agg:=false,zero:=[.nilfn],kind:=.func,id:=48}
@[simp] theorem LT:BV.size=1:=rfl
@[simp] theorem Lr:BV.agg=false∧BV.zero=[.nilfn]∧BV.kind= .func:=⟨rfl,rfl,rfl⟩
def C2:TI:={size:=1,bytes:=8,agg:=false,zero:=[.nil],kind:=.ptr 58,id:=49}
@[simp] theorem Y0:C2.size=1:=rfl
@[simp] theorem bX:C2.agg=false∧C2.zero=[.nil]∧C2.kind= .ptr 58:=⟨rfl,rfl,rfl⟩
@[simp] theorem aG:C2.id=CQ:=rfl
def Bg:TI:={size:=1,bytes:=16,agg:=false,zero:=[.nilifc],kind:=.iface,id:=51}
@[simp] theorem Mr:Bg.size=1:=rfl
@[simp] theorem Ny:Bg.agg=false∧Bg.zero=[.nilifc]∧Bg.kind= .iface:=⟨rfl,rfl,rfl⟩
def H0:TI:={size:=1,bytes:=16,agg:=false,zero:=[.nilifc],kind:=.iface,id:=52}
@[simp] theorem cQ:H0.size=1:=rfl
@[simp] theorem fM:H0.agg=false∧H0.zero=[.nilifc]∧H0.kind= .iface:=⟨rfl,rfl,rfl⟩
def CY:TI:={size:=1,bytes:=8,agg:=false,zero:=[.nil],kind:=.ptr 63,id:=55}
@[simp] theorem XS:CY.size=1:=rfl
@[simp] theorem Zs:CY.agg=false∧CY.zero=[.nil]∧CY.kind= .ptr 63:=⟨rfl,rfl,rfl⟩
def Ch:TI:={size:=1,bytes:=8,agg:=false,zero:=[.nilfn],kind:=.func,id:=56}
@[simp] theorem Qa:Ch.size=1:=rfl
@[simp] theorem R2:Ch.agg=false∧Ch.zero=[.nilfn]∧Ch.kind= .func:=⟨rfl,rfl,rfl⟩
def A0:TI:={size:=4,bytes:=48,agg:=true,zero:=[.vs 2 [] .nil,.int .i64 0,.int .i64 0,.nil],kind:=.struct [(0,42,2),(2,3,1),(3,55,1)],id:=57}
@[simp] theorem Hu:A0.size=4:=rfl
@[simp] theorem IJ:A0.agg=true∧A0.zero=[.vs 2 [] .nil,.int .i64 0,.int .i64 0,.nil]∧A0.kind= .struct [(0,42,2),(2,3,1),(3,55,1)]:=⟨rfl,rfl,rfl⟩
def EN:TI:={size:=4,bytes:=48,agg:=true,zero:=[.vs 2 [] .nil,.int .i64 0,.int .i64 0,.nil],kind:=.struct [(0,42,2),(2,3,1),(3,55,1)],id:=58}
@[simp] theorem ak:EN.size=4:=rfl
@[simp] theorem eG:EN.agg=true∧EN.zero=[.vs 2 [] .nil,.int .i64 0,.int .i64 0,.nil]∧EN.kind= .struct [(0,42,2),(2,3,1),(3,55,1)]:=⟨rfl,rfl,rfl⟩
@[simp] theorem cz:EN.id=GP:=rfl
def BI:TI:={size:=1,bytes:=8,agg:=false,zero:=[.map none],kind:=.map 3 90,id:=61}
@[simp] theorem Rl:BI.size=1:=rfl
@[simp] theorem T4:BI.agg=false∧BI.zero=[.map none]∧BI.kind= .map 3 90:=⟨rfl,rfl,rfl⟩
def Ax:TI:={size:=3,bytes:=24,agg:=true,zero:=[.int .i64 0,.int .i64 0,.map none],kind:=.struct [(0,3,1),(1,3,1),(2,61,1)],id:=62}
@[simp] theorem HY:Ax.size=3:=rfl
@[simp] theorem H9:Ax.agg=true∧Ax.zero=[.int .i64 0,.int .i64 0,.map none]∧Ax.kind= .struct [(0,3,1),(1,3,1),(2,61,1)]:=⟨rfl,rfl,rfl⟩
def EA:TI:={size:=3,bytes:=24,agg:=true,zero:=[.int .i64 0,.int .i64 0,.map none],kind:=.struct [(0,3,1),(1,3,1),(2,61,1)],id:=63}
@[simp] theorem Y2:EA.size=3:=rfl
@[simp] theorem bB:EA.agg=true∧EA.zero=[.int .i64 0,.int .i64 0,.map none]∧EA.kind= .struct [(0,3,1),(1,3,1),(2,61,1)]:=⟨rfl,rfl,rfl⟩
@[simp] theorem aw:EA.id=DT:=rfl
def Tx:TI:={size:=1,bytes:=8,agg:=false,zero:=[.int .u64 0],kind:=.int .u64,id:=64}
@[simp] theorem ib:Tx.size=1:=rfl
@[simp] theorem lb:Tx.agg=false∧Tx.zero=[.int .u64 0]∧Tx.kind= .int .u64:=⟨rfl,rfl,rfl⟩
def CN:TI:={size:=0,bytes:=0,agg:=true,zero:=[],kind:=.array 0 16,id:=68}
@[simp] theorem Pa:CN.size=0:=rfl
@[simp] theorem Qn:CN.agg=true∧CN.zero=[]∧CN.kind= .array 0 16:=⟨rfl,rfl,rfl⟩
def Ba:TI:={size:=0,bytes:=0,agg:=true,zero:=[],kind:=.struct [(0,68,0)],id:=69}
@[simp] theorem Lm:Ba.size=0:=rfl
@[simp] theorem M0:Ba.agg=true∧Ba.zero=[]∧Ba.kind= .struct [(0,68,0)]:=⟨rfl,rfl,rfl⟩
def Ct:TI:={size:=0,bytes:=0,agg:=true,zero:=[],kind:=.struct [(0,68,0)],id:=70}
@[simp] theorem Rz:Ct.size=0:=rfl
@[simp] theorem T0:Ct.agg=true∧Ct.zero=[]∧Ct.kind= .struct [(0,68,0)]:=⟨rfl,rfl,rfl⟩
def L7:TI:={size:=1,bytes:=4,agg:=false,zero:=[.int .u32 0],kind:=.int .u32,id:=72}
@[simp] theorem fW:L7.size=1:=rfl
@[simp] theorem jz:L7.agg=false∧L7.zero=[.int .u32 0]∧L7.kind= .int .u32:=⟨rfl,rfl,rfl⟩
def Hy:TI:={size:=1,bytes:=1,agg:=false,zero:=[.int .u8 0],kind:=.int .u8,id:=73}
@[simp] theorem bV:Hy.size=1:=rfl
@[simp] theorem fG:Hy.agg=false∧Hy.zero=[.int .u8 0]∧Hy.kind= .int .u8:=⟨rfl,rfl,rfl⟩
def JD:TI:={size:=1,bytes:=1,agg:=false,zero:=[.int .u8 0],kind:=.int .u8,id:=74}
@[simp] theorem cg:JD.size=1:=rfl
@[simp] theorem gO:JD.agg=false∧JD.zero=[.int .u8 0]∧JD.kind= .int .u8:=⟨rfl,rfl,rfl⟩
def BD:TI:={size:=1,bytes:=8,agg:=false,zero:=[.nilfn],kind:=.func,id:=75}
@[simp] theorem Jo:BD.size=1:=rfl
@[simp] theorem Kb:BD.agg=false∧BD.zero=[.nilfn]∧BD.kind= .func:=⟨rfl,rfl,rfl⟩
def J7:TI:={size:=1,bytes:=8,agg:=false,zero:=[.nil],kind:=.ptr 5,id:=76}
@[simp] theorem ey:J7.size=1:=rfl
@[simp] theorem iH:J7.agg=false∧J7.zero=[.nil]∧J7.kind= .ptr 5:=⟨rfl,rfl,rfl⟩
def Fu:TI:={size:=1,bytes:=4,agg:=false,zero:=[.int .i32 0],kind:=.int .i32,id:=77}
@[simp] theorem ZN:Fu.size=1:=rfl
@[simp] theorem cf:Fu.agg=false∧Fu.zero=[.int .i32 0]∧Fu.kind= .int .i32:=⟨rfl,rfl,rfl⟩
def Fm:TI:={size:=1,bytes:=4,agg:=false,zero:=[.int .i32 0],kind:=.int .i32,id:=78}
@[simp] theorem aA:Fm.size=1:=rfl
@[simp] theorem dA:Fm.agg=false∧Fm.zero=[.int .i32 0]∧Fm.kind= .int .i32:=⟨rfl,rfl,rfl⟩
def Ak:TI:={size:=11,bytes:=48,agg:=true,zero:=[.int .u64 0,.int .u64 0,.int .u32 0,.int .u8 0,.int .u8 0,.int .u8 0,.int .u8 0,.nilfn,.nil,.int .i32 0,.int .i32 0],kind:=.struct [(0,12,1),(1,12,1),(2,72,1),(3,73,1),(4,5,1),(5,5,1),(6,74,1),(7,75,1),(8,76,1),(9,77,1),(10,78,1)],id:=79}
@[simp] theorem GL:Ak.size=11:=rfl
@[simp] theorem Gu:Ak.agg=true∧Ak.zero=[.int .u64 0,.int .u64 0,.int .u32 0,.int .u8 0,.int .u8 0,.int .u8 0,.int .u8 0,.nilfn,.nil,.int .i32 0,.int .i32 0]∧Ak.kind= .struct [(0,12,1),(1,12,1),(2,72,1),(3,73,1),(4,5,1),(5,5,1),(6,74,1),(7,75,1),(8,76,1),(9,77,1),(10,78,1)]:=⟨rfl,rfl,rfl⟩
def Iu:TI:={size:=11,bytes:=48,agg:=true,zero:=[.int .u64 0,.int .u64 0,.int .u32 0,.int .u8 0,.int .u8 0,.int .u8 0,.int .u8 0,.nilfn,.nil,.int .i32 0,.int .i32 0],kind:=.struct [(0,12,1),(1,12,1),(2,72,1),(3,73,1),(4,5,1),(5,5,1),(6,74,1),(7,75,1),(8,76,1),(9,77,1),(10,78,1)],id:=80}
@[simp] theorem cj:Iu.size=11:=rfl
@[simp] theorem gI:Iu.agg=true∧Iu.zero=[.int .u64 0,.int .u64 0,.int .u32 0,.int .u8 0,.int .u8 0,.int .u8 0,.int .u8 0,.nilfn,.nil,.int .i32 0,.int .i32 0]∧Iu.kind= .struct [(0,12,1),(1,12,1),(2,72,1),(3,73,1),(4,5,1),(5,5,1),(6,74,1),(7,75,1),(8,76,1),(9,77,1),(10,78,1)]:=⟨rfl,rfl,rfl⟩
def De:TI:={size:=1,bytes:=8,agg:=false,zero:=[.nil],kind:=.ptr 166,id:=81}
@[simp] theorem XC:De.size=1:=rfl
@[simp] theorem Y5:De.agg=false∧De.zero=[.nil]∧De.kind= .ptr 166:=⟨rfl,rfl,rfl⟩
def Bp:TI:={size:=2,bytes:=16,agg:=true,zero:=[.int .i64 0,.nil],kind:=.struct [(0,3,1),(1,81,1)],id:=82}
@[simp] theorem M5:Bp.size=2:=rfl
@[simp] theorem OW:Bp.agg=true∧Bp.zero=[.int .i64 0,.nil]∧Bp.kind= .struct [(0,3,1),(1,81,1)]:=⟨rfl,rfl,rfl⟩
def CI:TI:={size:=2,bytes:=16,agg:=true,zero:=[.int .i64 0,.nil],kind:=.struct [(0,3,1),(1,81,1)],id:=83}
@[simp] theorem Zy:CI.size=2:=rfl
@[simp] theorem ca:CI.agg=true∧CI.zero=[.int .i64 0,.nil]∧CI.kind= .struct [(0,3,1),(1,81,1)]:=⟨rfl,rfl,rfl⟩
@[simp] theorem cN:CI.id=Hl:=rfl
def Ez:TI:={size:=1,bytes:=24,agg:=false,zero:=[.vs 2 [] .nil],kind:=.slice 155,id:=85}
@[simp] theorem Xe:Ez.size=1:=rfl
@[simp] theorem aR:Ez.agg=false∧Ez.zero=[.vs 2 [] .nil]∧Ez.kind= .slice 155:=⟨rfl,rfl,rfl⟩
def BU:TI:={size:=3,bytes:=32,agg:=true,zero:=[.int .i64 0,.str [],.int .i64 0],kind:=.struct [(0,3,1),(1,9,1),(2,3,1)],id:=89}
@[simp] theorem La:BU.size=3:=rfl
@[simp] theorem Me:BU.agg=true∧BU.zero=[.int .i64 0,.str [],.int .i64 0]∧BU.kind= .struct [(0,3,1),(1,9,1),(2,3,1)]:=⟨rfl,rfl,rfl⟩
def A6:TI:={size:=3,bytes:=32,agg:=true,zero:=[.int .i64 0,.str [],.int .i64 0],kind:=.struct [(0,3,1),(1,9,1),(2,3,1)],id:=90}
@[simp] theorem XZ:A6.size=3:=rfl
@[simp] theorem am:A6.agg=true∧A6.zero=[.int .i64 0,.str [],.int .i64 0]∧A6.kind= .struct [(0,3,1),(1,9,1),(2,3,1)]:=⟨rfl,rfl,rfl⟩
def BL:TI:={size:=1,bytes:=8,agg:=false,zero:=[.nilfn],kind:=.func,id:=96}
@[simp] theorem J4:BL.size=1:=rfl
@[simp] theorem LS:BL.agg=false∧BL.zero=[.nilfn]∧BL.kind= .func:=⟨rfl,rfl,rfl⟩
def CA:TI:={size:=2,bytes:=16,agg:=true,zero:=[.int .i64 0,.int .i64 0],kind:=.struct [(0,3,1),(1,3,1)],id:=100}
@[simp] theorem OX:CA.size=2:=rfl
@[simp] theorem QW:CA.agg=true∧CA.zero=[.int .i64 0,.int .i64 0]∧CA.kind= .struct [(0,3,1),(1,3,1)]:=⟨rfl,rfl,rfl⟩
def BE:TI:={size:=2,bytes:=16,agg:=true,zero:=[.int .i64 0,.int .i64 0],kind:=.struct [(0,3,1),(1,3,1)],id:=101}
@[simp] theorem cL:BE.size=2:=rfl
@[simp] theorem fF:BE.agg=true∧BE.zero=[.int .i64 0,.int .i64 0]∧BE.kind= .struct [(0,3,1),(1,3,1)]:=⟨rfl,rfl,rfl⟩
def Fo:TI:={size:=1,bytes:=24,agg:=false,zero:=[.vs 2 [] .nil],kind:=.slice 101,id:=102}
@[simp] theorem Y9:Fo.size=1:=rfl
@[simp] theorem cT:Fo.agg=false∧Fo.zero=[.vs 2 [] .nil]∧Fo.kind= .slice 101:=⟨rfl,rfl,rfl⟩
def CX:TI:={size:=1,bytes:=24,agg:=false,zero:=[.vs 2 [] .nil],kind:=.slice 101,id:=103}
@[simp] theorem ap:CX.size=1:=rfl
@[simp] theorem eR:CX.agg=false∧CX.zero=[.vs 2 [] .nil]∧CX.kind= .slice 101:=⟨rfl,rfl,rfl⟩
def A7:TI:={size:=4,bytes:=48,agg:=true,zero:=[.int .i64 0,.int .i64 0,.int .i64 0,.vs 2 [] .nil],kind:=.struct [(0,3,1),(1,101,2),(3,103,1)],id:=104}
@[simp] theorem JG:A7.size=4:=rfl
@[simp] theorem J1:A7.agg=true∧A7.zero=[.int .i64 0,.int .i64 0,.int .i64 0,.vs 2 [] .nil]∧A7.kind= .struct [(0,3,1),(1,101,2),(3,103,1)]:=⟨rfl,rfl,rfl⟩
def BS:TI:={size:=4,bytes:=48,agg:=true,zero:=[.int .i64 0,.int .i64 0,.int .i64 0,.vs 2 [] .nil],kind:=.struct [(0,3,1),(1,101,2),(3,103,1)],id:=105}
@[simp] theorem aE:BS.size=4:=rfl
@[simp] theorem dX:BS.agg=true∧BS.zero=[.int .i64 0,.int .i64 0,.int .i64 0,.vs 2 [] .nil]∧BS.kind= .struct [(0,3,1),(1,101,2),(3,103,1)]:=⟨rfl,rfl,rfl⟩
def Bq:TI:={size:=5,bytes:=64,agg:=true,zero:=[.str [],.int .i64 0,.int .i64 0,.int .i64 0,.vs 2 [] .nil],kind:=.struct [(0,9,1),(1,105,4)],id:=106}
@[simp] theorem M3:Bq.size=5:=rfl
@[simp] theorem OU:Bq.agg=true∧Bq.zero=[.str [],.int .i64 0,.int .i64 0,.int .i64 0,.vs 2 [] .nil]∧Bq.kind= .struct [(0,9,1),(1,105,4)]:=⟨rfl,rfl,rfl⟩
def Aa:TI:={size:=5,bytes:=64,agg:=true,zero:=[.str [],.int .i64 0,.int .i64 0,.int .i64 0,.vs 2 [] .nil],kind:=.struct [(0,9,1),(1,105,4)],id:=107}
@[simp] theorem ZZ:Aa.size=5:=rfl
@[simp] theorem cZ:Aa.agg=true∧Aa.zero=[.str [],.int .i64 0,.int .i64 0,.int .i64 0,.vs 2 [] .nil]∧Aa.kind= .struct [(0,9,1),(1,105,4)]:=⟨rfl,rfl,rfl⟩
@[simp] theorem bg:Aa.id=Hi:=rfl
def Bn:TI:={size:=1,bytes:=8,agg:=false,zero:=[.nilfn],kind:=.func,id:=112}
@[simp] theorem Mw:Bn.size=1:=rfl
@[simp] theorem OY:Bn.agg=false∧Bn.zero=[.nilfn]∧Bn.kind= .func:=⟨rfl,rfl,rfl⟩
def Cb:TI:={size:=1,bytes:=24,agg:=false,zero:=[.vs 7 [] .nil],kind:=.slice 120,id:=117}
@[simp] theorem av:Cb.size=1:=rfl
@[simp] theorem eo:Cb.agg=false∧Cb.zero=[.vs 7 [] .nil]∧Cb.kind= .slice 120:=⟨rfl,rfl,rfl⟩
@[simp] theorem cU:Cb.id=Pq:=rfl
def CG:TI:={size:=1,bytes:=24,agg:=false,zero:=[.vs 2 [] .nil],kind:=.slice 205,id:=118}
@[simp] theorem Y4:CG.size=1:=rfl
@[simp] theorem bf:CG.agg=false∧CG.zero=[.vs 2 [] .nil]∧CG.kind= .slice 205:=⟨rfl,rfl,rfl⟩
def Ah:TI:={size:=7,bytes:=112,agg:=true,zero:=[.int .i64 0,.bool false,.vs 1 [] .nil,.vs 7 [] .nil,.int .i64 0,.vs 2 [] .nil,.str []],kind:=.struct [(0,3,1),(1,4,1),(2,24,1),(3,117,1),(4,3,1),(5,118,1),(6,9,1)],id:=119}
@[simp] theorem GE:Ah.size=7:=rfl
@[simp] theorem Gp:Ah.agg=true∧Ah.zero=[.int .i64 0,.bool false,.vs 1 [] .nil,.vs 7 [] .nil,.int .i64 0,.vs 2 [] .nil,.str []]∧Ah.kind= .struct [(0,3,1),(1,4,1),(2,24,1),(3,117,1),(4,3,1),(5,118,1),(6,9,1)]:=⟨rfl,rfl,rfl⟩
def AT:TI:={size:=7,bytes:=112,agg:=true,zero:=[.int .i64 0,.bool false,.vs 1 [] .nil,.vs 7 [] .nil,.int .i64 0,.vs 2 [] .nil,.str []],kind:=.struct [(0,3,1),(1,4,1),(2,24,1),(3,117,1),(4,3,1),(5,118,1),(6,9,1)],id:=120}
@[simp] theorem cX:AT.size=7:=rfl
@[simp] theorem gt:AT.agg=true∧AT.zero=[.int .i64 0,.bool false,.vs 1 [] .nil,.vs 7 [] .nil,.int .i64 0,.vs 2 [] .nil,.str []]∧AT.kind= .struct [(0,3,1),(1,4,1),(2,24,1),(3,117,1),(4,3,1),(5,118,1),(6,9,1)]:=⟨rfl,rfl,rfl⟩
@[simp] theorem fV:AT.id=LP:=rfl
def Ey:TI:={size:=1,bytes:=8,agg:=false,zero:=[.nil],kind:=.ptr 180,id:=132}
@[simp] theorem Xh:Ey.size=1:=rfl
@[simp] theorem au:Ey.agg=false∧Ey.zero=[.nil]∧Ey.kind= .ptr 180:=⟨rfl,rfl,rfl⟩
def GQ:TI:={size:=1,bytes:=24,agg:=false,zero:=[.vs 1 [] .nil],kind:=.slice 24,id:=144}
@[simp] theorem aQ:GQ.size=1:=rfl
@[simp] theorem ek:GQ.agg=false∧GQ.zero=[.vs 1 [] .nil]∧GQ.kind= .slice 24:=⟨rfl,rfl,rfl⟩
def Fn:TI:={size:=1,bytes:=24,agg:=false,zero:=[.vs 2 [] .nil],kind:=.slice 150,id:=146}
@[simp] theorem Zc:Fn.size=1:=rfl
@[simp] theorem cV:Fn.agg=false∧Fn.zero=[.vs 2 [] .nil]∧Fn.kind= .slice 150:=⟨rfl,rfl,rfl⟩
def CC:TI:={size:=2,bytes:=24,agg:=true,zero:=[.str [],.int .i64 0],kind:=.struct [(0,9,1),(1,3,1)],id:=149}
@[simp] theorem OV:CC.size=2:=rfl
@[simp] theorem P5:CC.agg=true∧CC.zero=[.str [],.int .i64 0]∧CC.kind= .struct [(0,9,1),(1,3,1)]:=⟨rfl,rfl,rfl⟩
def A4:TI:={size:=2,bytes:=24,agg:=true,zero:=[.str [],.int .i64 0],kind:=.struct [(0,9,1),(1,3,1)],id:=150}
@[simp] theorem bE:A4.size=2:=rfl
@[simp] theorem fN:A4.agg=true∧A4.zero=[.str [],.int .i64 0]∧A4.kind= .struct [(0,9,1),(1,3,1)]:=⟨rfl,rfl,rfl⟩
@[simp] theorem eZ:A4.id=RE:=rfl
def B6:TI:={size:=2,bytes:=24,agg:=true,zero:=[.str [],.int .i64 0],kind:=.struct [(0,9,1),(1,3,1)],id:=154}
@[simp] theorem OQ:B6.size=2:=rfl
@[simp] theorem Pz:B6.agg=true∧B6.zero=[.str [],.int .i64 0]∧B6.kind= .struct [(0,9,1),(1,3,1)]:=⟨rfl,rfl,rfl⟩
def BM:TI:={size:=2,bytes:=24,agg:=true,zero:=[.str [],.int .i64 0],kind:=.struct [(0,9,1),(1,3,1)],id:=155}
@[simp] theorem Zq:BM.size=2:=rfl
@[simp] theorem co:BM.agg=true∧BM.zero=[.str [],.int .i64 0]∧BM.kind= .struct [(0,9,1),(1,3,1)]:=⟨rfl,rfl,rfl⟩
def EY:TI:={size:=1,bytes:=8,agg:=false,zero:=[.nil],kind:=.ptr 161,id:=157}
@[simp] theorem XK:EY.size=1:=rfl
@[simp] theorem ZT:EY.agg=false∧EY.zero=[.nil]∧EY.kind= .ptr 161:=⟨rfl,rfl,rfl⟩
def C8:TI:={size:=1,bytes:=8,agg:=false,zero:=[.nil],kind:=.ptr 203,id:=158}
@[simp] theorem XX:C8.size=1:=rfl
@[simp] theorem aY:C8.agg=false∧C8.zero=[.nil]∧C8.kind= .ptr 203:=⟨rfl,rfl,rfl⟩
def BJ:TI:={size:=3,bytes:=24,agg:=true,zero:=[.nil,.bool false,.int .i64 0],kind:=.struct [(0,158,1),(1,4,1),(2,3,1)],id:=160}
@[simp] theorem J0:BJ.size=3:=rfl
@[simp] theorem Kl:BJ.agg=true∧BJ.zero=[.nil,.bool false,.int .i64 0]∧BJ.kind= .struct [(0,158,1),(1,4,1),(2,3,1)]:=⟨rfl,rfl,rfl⟩
def Da:TI:={size:=3,bytes:=24,agg:=true,zero:=[.nil,.bool false,.int .i64 0],kind:=.struct [(0,158,1),(1,4,1),(2,3,1)],id:=161}
@[simp] theorem Y6:Da.size=3:=rfl
@[simp] theorem bH:Da.agg=true∧Da.zero=[.nil,.bool false,.int .i64 0]∧Da.kind= .struct [(0,158,1),(1,4,1),(2,3,1)]:=⟨rfl,rfl,rfl⟩
@[simp] theorem aT:Da.id=BK:=rfl
def BT:TI:={size:=1,bytes:=24,agg:=false,zero:=[.vs 8 [] .nil],kind:=.slice 184,id:=164}
@[simp] theorem XM:BT.size=1:=rfl
@[simp] theorem Z2:BT.agg=false∧BT.zero=[.vs 8 [] .nil]∧BT.kind= .slice 184:=⟨rfl,rfl,rfl⟩
def B5:TI:={size:=1,bytes:=24,agg:=true,zero:=[.vs 8 [] .nil],kind:=.struct [(0,164,1)],id:=165}
@[simp] theorem N9:B5.size=1:=rfl
@[simp] theorem P0:B5.agg=true∧B5.zero=[.vs 8 [] .nil]∧B5.kind= .struct [(0,164,1)]:=⟨rfl,rfl,rfl⟩
def Dj:TI:={size:=1,bytes:=24,agg:=true,zero:=[.vs 8 [] .nil],kind:=.struct [(0,164,1)],id:=166}
@[simp] theorem YH:Dj.size=1:=rfl
@[simp] theorem aZ:Dj.agg=true∧Dj.zero=[.vs 8 [] .nil]∧Dj.kind= .struct [(0,164,1)]:=⟨rfl,rfl,rfl⟩
@[simp] theorem Z4:Dj.id=CS:=rfl
def A5:TI:={size:=1,bytes:=8,agg:=false,zero:=[.nilfn],kind:=.func,id:=168}
@[simp] theorem Ig:A5.size=1:=rfl
@[simp] theorem JI:A5.agg=false∧A5.zero=[.nilfn]∧A5.kind= .func:=⟨rfl,rfl,rfl⟩
def Cx:TI:={size:=1,bytes:=8,agg:=false,zero:=[.nilfn],kind:=.func,id:=169}
@[simp] theorem Ri:Cx.size=1:=rfl
@[simp] theorem T1:Cx.agg=false∧Cx.zero=[.nilfn]∧Cx.kind= .func:=⟨rfl,rfl,rfl⟩
def Bo:TI:={size:=2,bytes:=40,agg:=true,zero:=[.str [],.vs 2 [] .nil],kind:=.struct [(0,9,1),(1,103,1)],id:=175}
@[simp] theorem M9:Bo.size=2:=rfl
@[simp] theorem OT:Bo.agg=true∧Bo.zero=[.str [],.vs 2 [] .nil]∧Bo.kind= .struct [(0,9,1),(1,103,1)]:=⟨rfl,rfl,rfl⟩
def B8:TI:={size:=2,bytes:=40,agg:=true,zero:=[.str [],.vs 2 [] .nil],kind:=.struct [(0,9,1),(1,103,1)],id:=176}
@[simp] theorem cY:B8.size=2:=rfl
@[simp] theorem fy:B8.agg=true∧B8.zero=[.str [],.vs 2 [] .nil]∧B8.kind= .struct [(0,9,1),(1,103,1)]:=⟨rfl,rfl,rfl⟩
def BB:TI:={size:=1,bytes:=24,agg:=false,zero:=[.vs 2 [] .nil],kind:=.slice 176,id:=177}
@[simp] theorem aO:BB.size=1:=rfl
@[simp] theorem eY:BB.agg=false∧BB.zero=[.vs 2 [] .nil]∧BB.kind= .slice 176:=⟨rfl,rfl,rfl⟩
def CB:TI:={size:=1,bytes:=8,agg:=false,zero:=[.nil],kind:=.ptr 107,id:=178}
@[simp] theorem YA:CB.size=1:=rfl
@[simp] theorem aP:CB.agg=false∧CB.zero=[.nil]∧CB.kind= .ptr 107:=⟨rfl,rfl,rfl⟩
def Aj:TI:={size:=5,bytes:=72,agg:=true,zero:=[.vs 1 [] .nil,.vs 2 [] .nil,.bool false,.int .i64 0,.nil],kind:=.struct [(0,24,1),(1,177,1),(2,4,1),(3,3,1),(4,178,1)],id:=179}
@[simp] theorem GI:Aj.size=5:=rfl
@[simp] theorem Gq:Aj.agg=true∧Aj.zero=[.vs 1 [] .nil,.vs 2 [] .nil,.bool false,.int .i64 0,.nil]∧Aj.kind= .struct [(0,24,1),(1,177,1),(2,4,1),(3,3,1),(4,178,1)]:=⟨rfl,rfl,rfl⟩
def D2:TI:={size:=5,bytes:=72,agg:=true,zero:=[.vs 1 [] .nil,.vs 2 [] .nil,.bool false,.int .i64 0,.nil],kind:=.struct [(0,24,1),(1,177,1),(2,4,1),(3,3,1),(4,178,1)],id:=180}
@[simp] theorem Zo:D2.size=5:=rfl
@[simp] theorem ct:D2.agg=true∧D2.zero=[.vs 1 [] .nil,.vs 2 [] .nil,.bool false,.int .i64 0,.nil]∧D2.kind= .struct [(0,24,1),(1,177,1),(2,4,1),(3,3,1),(4,178,1)]:=⟨rfl,rfl,rfl⟩
@[simp] theorem bz:D2.id=Bz:=rfl
def JO:TI:={size:=1,bytes:=24,agg:=false,zero:=[.vs 1 [] .nil],kind:=.slice 3,id:=182}
@[simp] theorem fk:JO.size=1:=rfl
@[simp] theorem kD:JO.agg=false∧JO.zero=[.vs 1 [] .nil]∧JO.kind= .slice 3:=⟨rfl,rfl,rfl⟩
def CM:TI:={size:=8,bytes:=136,agg:=true,zero:=[.int .i64 0,.bool false,.vs 1 [] .nil,.vs 7 [] .nil,.int .i64 0,.vs 2 [] .nil,.str [],.vs 1 [] .nil],kind:=.struct [(0,120,7),(7,182,1)],id:=183}
@[simp] theorem Oz:CM.size=8:=rfl
@[simp] theorem RD:CM.agg=true∧CM.zero=[.int .i64 0,.bool false,.vs 1 [] .nil,.vs 7 [] .nil,.int .i64 0,.vs 2 [] .nil,.str [],.vs 1 [] .nil]∧CM.kind= .struct [(0,120,7),(7,182,1)]:=⟨rfl,rfl,rfl⟩
def Aq:TI:={size:=8,bytes:=136,agg:=true,zero:=[.int .i64 0,.bool false,.vs 1 [] .nil,.vs 7 [] .nil,.int .i64 0,.vs 2 [] .nil,.str [],.vs 1 [] .nil],kind:=.struct [(0,120,7),(7,182,1)],id:=184}
@[simp] theorem Y8:Aq.size=8:=rfl
@[simp] theorem az:Aq.agg=true∧Aq.zero=[.int .i64 0,.bool false,.vs 1 [] .nil,.vs 7 [] .nil,.int .i64 0,.vs 2 [] .nil,.str [],.vs 1 [] .nil]∧Aq.kind= .struct [(0,120,7),(7,182,1)]:=⟨rfl,rfl,rfl⟩
def C1:TI:={size:=1,bytes:=8,agg:=false,zero:=[.nil],kind:=.ptr 194,id:=189}
@[simp] theorem Y3:C1.size=1:=rfl
@[simp] theorem cJ:C1.agg=false∧C1.zero=[.nil]∧C1.kind= .ptr 194:=⟨rfl,rfl,rfl⟩
@[simp] theorem ai:C1.id=CF:=rfl
def BX:TI:={size:=1,bytes:=8,agg:=false,zero:=[.nilfn],kind:=.func,id:=190}
@[simp] theorem Mx:BX.size=1:=rfl
@[simp] theorem Oa:BX.agg=false∧BX.zero=[.nilfn]∧BX.kind= .func:=⟨rfl,rfl,rfl⟩
def BH:TI:={size:=1,bytes:=24,agg:=false,zero:=[.vs 3 [] .nil],kind:=.slice 196,id:=192}
@[simp] theorem Zh:BH.size=1:=rfl
@[simp] theorem cx:BH.agg=false∧BH.zero=[.vs 3 [] .nil]∧BH.kind= .slice 196:=⟨rfl,rfl,rfl⟩
def Ap:TI:={size:=2,bytes:=32,agg:=true,zero:=[.vs 3 [] .nil,.nilfn],kind:=.struct [(0,192,1),(1,190,1)],id:=193}
@[simp] theorem GT:Ap.size=2:=rfl
@[simp] theorem HB:Ap.agg=true∧Ap.zero=[.vs 3 [] .nil,.nilfn]∧Ap.kind= .struct [(0,192,1),(1,190,1)]:=⟨rfl,rfl,rfl⟩
def Ew:TI:={size:=2,bytes:=32,agg:=true,zero:=[.vs 3 [] .nil,.nilfn],kind:=.struct [(0,192,1),(1,190,1)],id:=194}
@[simp] theorem aS:Ew.size=2:=rfl
@[simp] theorem eW:Ew.agg=true∧Ew.zero=[.vs 3 [] .nil,.nilfn]∧Ew.kind= .struct [(0,192,1),(1,190,1)]:=⟨rfl,rfl,rfl⟩
@[simp] theorem cu:Ew.id=C3:=rfl
def Bi:TI:={size:=3,bytes:=48,agg:=true,zero:=[.str [],.int .i64 0,.vs 1 [] .nil],kind:=.struct [(0,150,2),(2,24,1)],id:=195}
@[simp] theorem Mp:Bi.size=3:=rfl
@[simp] theorem Nv:Bi.agg=true∧Bi.zero=[.str [],.int .i64 0,.vs 1 [] .nil]∧Bi.kind= .struct [(0,150,2),(2,24,1)]:=⟨rfl,rfl,rfl⟩
def Az:TI:={size:=3,bytes:=48,agg:=true,zero:=[.str [],.int .i64 0,.vs 1 [] .nil],kind:=.struct [(0,150,2),(2,24,1)],id:=196}
@[simp] theorem Qe:Az.size=3:=rfl
@[simp] theorem fP:Az.agg=true∧Az.zero=[.str [],.int .i64 0,.vs 1 [] .nil]∧Az.kind= .struct [(0,150,2),(2,24,1)]:=⟨rfl,rfl,rfl⟩
@[simp] theorem dW:Az.id=Qh:=rfl
def Fp:TI:={size:=1,bytes:=8,agg:=false,zero:=[.nil],kind:=.ptr 196,id:=198}
@[simp] theorem ZM:Fp.size=1:=rfl
@[simp] theorem dB:Fp.agg=false∧Fp.zero=[.nil]∧Fp.kind= .ptr 196:=⟨rfl,rfl,rfl⟩
def EL:TI:={size:=1,bytes:=16,agg:=true,zero:=[.str []],kind:=.struct [(0,9,1)],id:=202}
@[simp] theorem Wq:EL.size=1:=rfl
@[simp] theorem Y1:EL.agg=true∧EL.zero=[.str []]∧EL.kind= .struct [(0,9,1)]:=⟨rfl,rfl,rfl⟩
def EP:TI:={size:=1,bytes:=16,agg:=true,zero:=[.str []],kind:=.struct [(0,9,1)],id:=203}
@[simp] theorem ZV:EP.size=1:=rfl
@[simp] theorem cq:EP.agg=true∧EP.zero=[.str []]∧EP.kind= .struct [(0,9,1)]:=⟨rfl,rfl,rfl⟩
@[simp] theorem cK:EP.id=Cr:=rfl
def CH:TI:={size:=2,bytes:=24,agg:=true,zero:=[.int .i64 0,.str []],kind:=.struct [(0,3,1),(1,9,1)],id:=204}
@[simp] theorem OZ:CH.size=2:=rfl
@[simp] theorem QA:CH.agg=true∧CH.zero=[.int .i64 0,.str []]∧CH.kind= .struct [(0,3,1),(1,9,1)]:=⟨rfl,rfl,rfl⟩
def Bj:TI:={size:=2,bytes:=24,agg:=true,zero:=[.int .i64 0,.str []],kind:=.struct [(0,3,1),(1,9,1)],id:=205}
@[simp] theorem aW:Bj.size=2:=rfl
@[simp] theorem eQ:Bj.agg=true∧Bj.zero=[.int .i64 0,.str []]∧Bj.kind= .struct [(0,3,1),(1,9,1)]:=⟨rfl,rfl,rfl⟩
@[simp] theorem ce:Bj.id=Ki:=rfl
def Pw:TI:={size:=1,bytes:=8,agg:=false,zero:=[.nil],kind:=.ptr 3,id:=207}
@[simp] theorem hZ:Pw.size=1:=rfl
@[simp] theorem kx:Pw.agg=false∧Pw.zero=[.nil]∧Pw.kind= .ptr 3:=⟨rfl,rfl,rfl⟩
def Ad:TI:={size:=1,bytes:=16,agg:=false,zero:=[.nilifc],kind:=.iface,id:=212}
@[simp] theorem GH:Ad.size=1:=rfl
@[simp] theorem Gt:Ad.agg=false∧Ad.zero=[.nilifc]∧Ad.kind= .iface:=⟨rfl,rfl,rfl⟩
def Ed:TI:={size:=1,bytes:=16,agg:=false,zero:=[.nilifc],kind:=.iface,id:=213}
@[simp] theorem XQ:Ed.size=1:=rfl
@[simp] theorem ZQ:Ed.agg=false∧Ed.zero=[.nilifc]∧Ed.kind= .iface:=⟨rfl,rfl,rfl⟩
def Do:TI:={size:=1,bytes:=8,agg:=false,zero:=[.nil],kind:=.ptr 225,id:=222}
@[simp] theorem UZ:Do.size=1:=rfl
@[simp] theorem XL:Do.agg=false∧Do.zero=[.nil]∧Do.kind= .ptr 225:=⟨rfl,rfl,rfl⟩
def F9:TI:={size:=1,bytes:=24,agg:=false,zero:=[.vs 1 [] .nil],kind:=.slice 5,id:=223}
@[simp] theorem dN:F9.size=1:=rfl
@[simp] theorem il:F9.agg=false∧F9.zero=[.vs 1 [] .nil]∧F9.kind= .slice 5:=⟨rfl,rfl,rfl⟩
def A8:TI:={size:=2,bytes:=32,agg:=true,zero:=[.nil,.vs 1 [] .nil],kind:=.struct [(0,222,1),(1,223,1)],id:=224}
@[simp] theorem JH:A8.size=2:=rfl
@[simp] theorem Jz:A8.agg=true∧A8.zero=[.nil,.vs 1 [] .nil]∧A8.kind= .struct [(0,222,1),(1,223,1)]:=⟨rfl,rfl,rfl⟩
def Cn:TI:={size:=2,bytes:=32,agg:=true,zero:=[.nil,.vs 1 [] .nil],kind:=.struct [(0,222,1),(1,223,1)],id:=225}
@[simp] theorem Wz:Cn.size=2:=rfl
@[simp] theorem Yz:Cn.agg=true∧Cn.zero=[.nil,.vs 1 [] .nil]∧Cn.kind= .struct [(0,222,1),(1,223,1)]:=⟨rfl,rfl,rfl⟩
@[simp] theorem Xu:Cn.id=Cm:=rfl
def Co:TI:={size:=1,bytes:=16,agg:=false,zero:=[.nilifc],kind:=.iface,id:=226}
@[simp] theorem RG:Co.size=1:=rfl
@[simp] theorem Td:Co.agg=false∧Co.zero=[.nilifc]∧Co.kind= .iface:=⟨rfl,rfl,rfl⟩
def PQ:TI:={size:=1,bytes:=16,agg:=false,zero:=[.nilifc],kind:=.iface,id:=227}
@[simp] theorem gn:PQ.size=1:=rfl
@[simp] theorem kS:PQ.agg=false∧PQ.zero=[.nilifc]∧PQ.kind= .iface:=⟨rfl,rfl,rfl⟩
def fY:Nat→TI
 |1=>SM
 |2=>Ps
 |3=>AU
 |4=>Dh
 |5=>JN
 |6=>DD
 |7=>Ae
 |8=>DC
 |9=>AK
 |10=>DE
 |12=>KF
 |16=>Ci
 |17=>GM
 |18=>Cv
 |20=>H3
 |21=>O4
 |22=>D3
 |23=>EM
 |24=>AX
 |25=>Ag
 |26=>AE
 |29=>Ai
 |30=>Ck
 |31=>Af
 |32=>AB
 |40=>BZ
 |41=>Bd
 |42=>AI
 |44=>BF
 |46=>I5
 |48=>BV
 |49=>C2
 |51=>Bg
 |52=>H0
 |55=>CY
 |56=>Ch
 |57=>A0
 |58=>EN
 |61=>BI
 |62=>Ax
 |63=>EA
 |64=>Tx
 |68=>CN
 |69=>Ba
 |70=>Ct
 |72=>L7
 |73=>Hy
 |74=>JD
 |75=>BD
 |76=>J7
 |77=>Fu
 |78=>Fm
 |79=>Ak
 |80=>Iu
 |81=>De
 |82=>Bp
 |83=>CI
 |85=>Ez
 |89=>BU
 |90=>A6
 |96=>BL
 |100=>CA
 |101=>BE
 |102=>Fo
 |103=>CX
 |104=>A7
 |105=>BS
 |106=>Bq
 |107=>Aa
 |112=>Bn
 |117=>Cb
 |118=>CG
 |119=>Ah
 |120=>AT
 |132=>Ey
 |144=>GQ
 |146=>Fn
 |149=>CC
 |150=>A4
 |154=>B6
 |155=>BM
 |157=>EY
 |158=>C8
 |160=>BJ
 |161=>Da
 |164=>BT
 |165=>B5
 |166=>Dj
 |168=>A5
 |169=>Cx
 |175=>Bo
 |176=>B8
 |177=>BB
 |178=>CB
 |179=>Aj
 |180=>D2
 |182=>JO
 |183=>CM
 |184=>Aq
 |189=>C1
 |190=>BX
 |192=>BH
 |193=>Ap
 |194=>Ew
 |195=>Bi
 |196=>Az
 |198=>Fp
 |202=>EL
 |203=>EP
 |204=>CH
 |205=>Bj
 |207=>Pw
 |212=>Ad
 |213=>Ed
 |222=>Do
 |223=>F9
 |224=>A8
 |225=>Cn
 |226=>Co
 |227=>PQ
 |n=>{size:=0,bytes:=0,agg:=false,zero:=[],kind:=match n with|0|36|86|91|95|108|111|113|121|124|127|133|136|139|151|156|173|219|228|233|240|243|246|252=>.tuple|_=>.other}
def ic:Nat→Nat→Bool
 |3,4=>true
 |3,5=>true
 |3,9=>true
 |3,11=>true
 |4,8=>true
 |5,1=>true
 |5,2=>true
 |5,3=>true
 |5,4=>true
 |6,4=>true
 |7,2=>true
 |7,3=>true
 |8,4=>true
 |8,6=>true
 |9,2=>true
 |9,3=>true
 |10,2=>true
 |10,3=>true
 |11,7=>true
 |14,3=>true
 |14,10=>true
 |15,6=>true
 |19,2=>true
 |19,3=>true
 |20,2=>true
 |43,1=>true
 |44,3=>true
 |44,4=>true
 |44,9=>true
 |46,1=>true
 |47,2=>true
 |47,7=>true
 |48,4=>true
 |49,4=>true
 |49,6=>true
 |50,4=>true
 |50,6=>true
 |50,7=>true
 |51,5=>true
 |52,4=>true
 |53,4=>true
 |53,5=>true
 |54,4=>true
 |54,5=>true
 |55,2=>true
 |55,3=>true
 |55,4=>true
 |55,6=>true
 |56,3=>true
 |56,6=>true
 |56,14=>true
 |57,2=>true
 |57,7=>true
 |57,11=>true
 |59,4=>true
 |59,6=>true
 |61,7=>true
 |62,5=>true
 |63,2=>true
 |63,5=>true
 |64,1=>true
 |65,2=>true
 |65,4=>true
 |66,5=>true
 |66,8=>true
 |67,2=>true
 |67,4=>true
 |69,2=>true
 |71,3=>true
 |71,4=>true
 |71,5=>true
 |71,6=>true
 |73,1=>true
 |75,2=>true
 |75,3=>true
 |75,4=>true
 |76,3=>true
 |76,6=>true
 |76,8=>true
 |76,10=>true
 |77,2=>true
 |79,5=>true
 |81,5=>true
 |83,8=>true
 |86,4=>true
 |86,5=>true
 |88,1=>true
 |89,3=>true
 |89,6=>true
 |89,8=>true
 |91,2=>true
 |94,2=>true
 |96,9=>true
 |99,2=>true
 |100,4=>true
 |104,2=>true
 |104,3=>true
 |112,3=>true
 |112,11=>true
 |114,11=>true
 |123,1=>true
 |124,7=>true
 |125,1=>true
 |168,4=>true
 |_,_=>false
def eI:Nat→Nat→List Nat×List Nat
 |3,7=>([7,31],[])
 |3,10=>([7,38],[9])
 |4,8=>([5,6,18],[])
 |6,4=>([10],[])
 |8,2=>([0,9],[])
 |8,5=>([19],[4])
 |10,4=>([5],[2,3])
 |11,2=>([4,5,10],[])
 |12,4=>([5],[])
 |14,4=>([8,18],[])
 |15,4=>([13],[])
 |16,4=>([13],[])
 |21,2=>([7,8],[])
 |21,7=>([6],[])
 |21,9=>([7,8],[])
 |23,1=>([8],[])
 |23,4=>([9],[])
 |24,3=>([10,11],[])
 |24,9=>([13],[])
 |24,15=>([14,15],[])
 |24,21=>([17],[])
 |24,33=>([20,21],[])
 |25,2=>([10,11],[])
 |26,1=>([10],[])
 |56,4=>([],[3,6])
 |57,3=>([22],[2])
 |57,11=>([9,45],[2])
 |62,3=>([3,11],[])
 |73,3=>([3,7],[1])
 |74,1=>([],[])
 |76,3=>([17],[3,8])
 |81,3=>([3,8],[])
 |82,4=>([4,13],[])
 |82,12=>([7],[])
 |86,11=>([6],[5])
 |86,19=>([9],[5])
 |89,5=>([29],[6])
 |90,2=>([8],[])
 |97,4=>([2,17],[])
 |105,2=>([3],[])
 |109,3=>([7,8],[])
 |112,16=>([66],[])
 |114,6=>([32],[])
 |117,2=>([7],[])
 |118,0=>([1],[])
 |121,5=>([6,24],[])
 |124,3=>([5,10],[])
 |125,2=>([8],[1])
 |_,_=>([],[])
def eu:List Nat:=[1,2,3,4,5,6,7,8,9,10,12,16,17,18,20,21,22,23,24,25,26,29,30,31,32,40,41,42,44,46,48,49,51,52,55,56,57,58,61,62,63,64,68,69,70,72,73,74,75,76,77,78,79,80,81,82,83,85,89,90,96,100,101,102,103,104,105,106,107,112,117,118,119,120,132,144,146,149,150,154,155,157,158,160,161,164,165,166,168,169,175,176,177,178,179,180,182,183,184,189,190,192,193,194,195,196,198,202,203,204,205,207,212,213,222,223,224,225,226,227]
def me:Nat:=424639208765387258208052920744333893129579385682591953849715824990206
def X8(t:Nat):Bool:=Nat.testBit me t
def gb:List Nat:=[7,8,29,30,89,90,100,101,149,150,154,155,202,203,204,205]
def ay:Nat→Bool
 |7=>true
 |8=>true
 |29=>true
 |30=>true
 |89=>true
 |90=>true
 |100=>true
 |101=>true
 |149=>true
 |150=>true
 |154=>true
 |155=>true
 |202=>true
 |203=>true
 |204=>true
 |205=>true
 |_=>false
def fp:Nat→Bool
 |184=>true
 |196=>true
 |_=>false
def C9(t:Nat)(m:String):Option Nat:=
 match t with
 |49=>if m= "Add" then some Ef else if m= "Begin" then some D6 else if m= "Do" then some Fv else if m= "Page" then some Dc else if m= "Remove" then some Dp else if m= "Stale" then some DJ else if m= "socage/spec.change" then some C5 else none
 |189=>if m= "Len" then some EW else if m= "Less" then some FK else if m= "Pop" then some Fd else if m= "Swap" then some FF else none
 |_=>none
@[simp] theorem XP:C9 CQ "Add" =some Ef:=by simp[C9]
@[simp] theorem VI:C9 CQ "Begin" =some D6:=by simp[C9]
@[simp] theorem YN:C9 CQ "Do" =some Fv:=by simp[C9]
@[simp] theorem XD:C9 CQ "Page" =some Dc:=by simp[C9]
@[simp] theorem UK:C9 CQ "Remove" =some Dp:=by simp[C9]
@[simp] theorem VX:C9 CQ "Stale" =some DJ:=by simp[C9]
@[simp] theorem NC:C9 CQ "socage/spec.change" =some C5:=by simp[C9]
@[simp] theorem XR:C9 CF "Len" =some EW:=by simp[C9]
@[simp] theorem WQ:C9 CF "Less" =some FK:=by simp[C9]
@[simp] theorem XN:C9 CF "Pop" =some Fd:=by simp[C9]
@[simp] theorem WH:C9 CF "Swap" =some FF:=by simp[C9]
def l7:Nat→Nat→Bool
 |97,2=>true
 |97,3=>true
 |97,4=>true
 |97,38=>true
 |97,40=>true
 |97,43=>true
 |_,_=>false
def C:Ctx:={ty:=fY,has:=X8,eqk:=ay,loc:=ic,byref:=fp,meth:=C9,live:=eI,tk:=l7}
@[simp] theorem eh:C.meth=C9:=rfl
noncomputable def En(w0:World):Env:=⟨Tryz.prog,C,w0⟩
theorem Xc{m n t:Nat}(h:Nat.ble (m.log2+1) n=true)(c:¬t < n):m.testBit t=false:=by
 by_cases h0:m=0
 ·rw[h0];exact Nat.zero_testBit t
 ·exact Nat.testBit_lt_two_pow (Nat.lt_of_lt_of_le ((Nat.log2_lt h0).1 (Nat.le_of_ble_eq_true h)) (Nat.pow_le_pow_right (by decide) (Nat.le_of_not_lt c)))
theorem Vh:∀t,X8 t=true→eu.elem t=true:=by
 intro t h
 by_cases c:t < 228
 ·have h2:=List.all_eq_true.1 (show (List.range 228).all (fun t=>!(X8 t)||eu.elem t)=true by kernel_rfl) t (List.mem_range.2 c)
  rw[h] at h2;simpa using h2
 ·unfold X8 at h;rw[Xc (n:=228) (by kernel_rfl) c] at h
  cases h
theorem VA:∀t,ay t=true→gb.elem t=true:=by
 intro t h;unfold ay at h;split at h<;>first|rfl|cases h
theorem iQ:eu.all (fun t=>R7 Tryz.prog t (fY t))=true:=by kernel_rfl
theorem iP:gb.all (fun t=>L5 Tryz.prog t (fY t).zero)=true:=by kernel_rfl
theorem l5(v:Value)(w:World):(method (Tryz.prog.types.size+Made.depth) 49 v "Add").run Tryz.prog w= .ok (53,v) w:=by kernel_rfl
theorem lP(v:Value)(w:World):(method (Tryz.prog.types.size+Made.depth) 49 v "Begin").run Tryz.prog w= .ok (48,v) w:=by kernel_rfl
theorem lZ(v:Value)(w:World):(method (Tryz.prog.types.size+Made.depth) 49 v "Do").run Tryz.prog w= .ok (44,v) w:=by kernel_rfl
theorem mF(v:Value)(w:World):(method (Tryz.prog.types.size+Made.depth) 49 v "Page").run Tryz.prog w= .ok (50,v) w:=by kernel_rfl
theorem lK(v:Value)(w:World):(method (Tryz.prog.types.size+Made.depth) 49 v "Remove").run Tryz.prog w= .ok (54,v) w:=by kernel_rfl
theorem lp(v:Value)(w:World):(method (Tryz.prog.types.size+Made.depth) 49 v "Stale").run Tryz.prog w= .ok (49,v) w:=by kernel_rfl
theorem lq(v:Value)(w:World):(method (Tryz.prog.types.size+Made.depth) 49 v "socage/spec.change").run Tryz.prog w= .ok (66,v) w:=by kernel_rfl
theorem mE(v:Value)(w:World):(method (Tryz.prog.types.size+Made.depth) 189 v "Len").run Tryz.prog w= .ok (106,v) w:=by kernel_rfl
theorem lj(v:Value)(w:World):(method (Tryz.prog.types.size+Made.depth) 189 v "Less").run Tryz.prog w= .ok (167,v) w:=by kernel_rfl
theorem mD(v:Value)(w:World):(method (Tryz.prog.types.size+Made.depth) 189 v "Pop").run Tryz.prog w= .ok (168,v) w:=by kernel_rfl
theorem jX(v:Value)(w:World):(method (Tryz.prog.types.size+Made.depth) 189 v "Swap").run Tryz.prog w= .ok (169,v) w:=by kernel_rfl
theorem eL:∀t m g,C9 t m=some g→∀v w,(method (Tryz.prog.types.size+Made.depth) t v m).run Tryz.prog w= .ok (g,v) w:=by
 intro t m g h v w;unfold C9 at h;split at h
 ·split at h
  ·rename_i e;subst e;cases h;exact l5 v w
  split at h
  ·rename_i e;subst e;cases h;exact lP v w
  split at h
  ·rename_i e;subst e;cases h;exact lZ v w
  split at h
  ·rename_i e;subst e;cases h;exact mF v w
  split at h
  ·rename_i e;subst e;cases h;exact lK v w
  split at h
  ·rename_i e;subst e;cases h;exact lp v w
  split at h
  ·rename_i e;subst e;cases h;exact lq v w
  cases h
 ·split at h
  ·rename_i e;subst e;cases h;exact mE v w
  split at h
  ·rename_i e;subst e;cases h;exact lj v w
  split at h
  ·rename_i e;subst e;cases h;exact mD v w
  split at h
  ·rename_i e;subst e;cases h;exact jX v w
  cases h
 ·cases h
theorem agree(w0:World):Agree (En w0):=XW (En w0) eu gb Vh VA iQ iP eL
theorem mixed:Tryz.prog.follows .mixedOrders=true:=by kernel_rfl
theorem YF(w0:World):JL (En w0) (AL (En w0)):=fun _ _ _ _ h=>h
theorem Kk(w0:World):Di (AL (En w0)):=fun g xs S Q Q' h hq=>⟨h.1,fun G w hr hro args' hl ha=>(h.2 G w hr hro args' hl ha).mono fun e w' ⟨v,r,S',G',h1,h2,h3⟩=>⟨v,r,S',G',h1,hq _ _ h2,h3⟩⟩
theorem lR(w0:World){n:Nat}{fn:Func}(hf:Tryz.prog.funcs[n]? =some fn)(hname:(fn.name== "runtime.NumGoroutine")=false) {args:List AV} {S:St} {Q:AV→St→Prop}
  (h:WF C (AL (En w0)) n (Drw C (AL (En w0)) n) fn args S Q):AL (En w0) n args S Q:=
 XY (E:=En w0) (agree w0) (YF w0) (Kk w0) (Vq (agree w0) (YF w0) (Kk w0) mixed) (YW (Kk w0)) hf hname h
abbrev AC(w0:World):=AL (En w0)
abbrev CaT:=Nat→List AV→St→(AV→St→Prop)→Prop
abbrev QT:=AV→St→Prop
theorem Ay(w0:World){n:Nat}{fn:Func}(hf:Tryz.prog.funcs[n]? =some fn)(hname:(fn.name== "runtime.NumGoroutine")=false) {args:List AV} {S:St} {Q:QT} {P:Prop} (e:WF C (AL (En w0)) n (Drw C (AL (En w0)) n) fn args S Q=P) (h:P):AL (En w0) n args S Q:=lR w0 hf hname (by rw[e];exact h)
theorem W8{w0:World}{g:Nat}{xs:List AV}{S:St}{Q Q':AV→St→Prop}(h:AC w0 g xs S Q)(hq:∀r S',Q r S'→Q' r S'):AC w0 g xs S Q':=Kk w0 g xs S Q Q' h hq
def eN:Nat→Bool
 |32=>true
 |184=>true
 |196=>true
 |_=>false
def C0:Ctx:={ty:=fY,has:=X8,eqk:=ay,loc:=ic,byref:=eN,meth:=C9,live:=eI,tk:=l7}
noncomputable def En0(w0:World):Env:=⟨Tryz.prog,C0,w0⟩
theorem eS(w0:World):Agree (En0 w0):=XW (En0 w0) eu gb Vh VA iQ iP eL
theorem j8(w0:World){n:Nat}{fn:Func}(hf:Tryz.prog.funcs[n]? =some fn)(hname:(fn.name== "runtime.NumGoroutine")=false) {args:List AV} {S:St} {Q:AV→St→Prop}
  (h:WF C0 (AL (En w0)) n (Drw C0 (AL (En w0)) n) fn args S Q):AL (En w0) n args S Q:=
 AL.ctx (E:=En0 w0) (E':=En w0) rfl rfl (XY (E:=En0 w0) (Ca:=AL (En w0)) (eS w0) (fun _ _ _ _ h=>AL.ctx (E:=En w0) (E':=En0 w0) rfl rfl h) (Kk w0) (Vq (Ca:=AL (En w0)) (eS w0) (fun _ _ _ _ h=>AL.ctx (E:=En w0) (E':=En0 w0) rfl rfl h) (Kk w0) mixed) (YW (Kk w0)) hf hname h)
theorem ME(w0:World){n:Nat}{fn:Func}(hf:Tryz.prog.funcs[n]? =some fn)(hname:(fn.name== "runtime.NumGoroutine")=false) {args:List AV} {S:St} {Q:QT} {P:Prop} (e:WF C0 (AL (En w0)) n (Drw C0 (AL (En w0)) n) fn args S Q=P) (h:P):AL (En w0) n args S Q:=j8 w0 hf hname (by rw[e];exact h)
abbrev E8:=@Tryz.underlying3
abbrev aH:=@Tryz.underlying4
abbrev dM:=@Tryz.underlying5
abbrev dV:=@Tryz.isAgg5
abbrev ef:=@Tryz.sizeOf5
abbrev dK:=@Tryz.zeroValue5
abbrev Ih:=@Tryz.underlying9
abbrev On:=@Tryz.underlying22
abbrev Ww:=@Tryz.underlying23
abbrev YE:=@Tryz.underlying24
abbrev UF:=@Tryz.underlying26
abbrev cC:=@Tryz.underlying30
abbrev Rn:=@Tryz.underlying32
abbrev EQ:=@Tryz.underlying117
abbrev Rx:=@Tryz.underlying118
abbrev Ek:=@Tryz.underlying120
abbrev UP:=@Tryz.underlying205
theorem cM:Tryz.prog.cellsOf Fq=1:=by kernel_rfl
theorem Rm:Tryz.prog.cellsOf I6=19:=by kernel_rfl
theorem L4:Tryz.prog.cellsOf LP=7:=by kernel_rfl
theorem Ut:Tryz.prog.cellsOf Ki=2:=by kernel_rfl
abbrev Eu:=@Tryz.func92
abbrev E0:=@Tryz.func93
abbrev Gx:=@Tryz.func103
abbrev QF:=@Tryz.func115
abbrev Od:=@Tryz.func128
abbrev K8:=@Tryz.func131
set_option maxHeartbeats 2000000
open Go.Proofs
def JQ(Ca:CaT)(a0:List (List AV))(a0r:Rt)(a1:Int)(S0:St)(Q:QT):Prop:=
 Ca Im [] S0 fun t11 S=>
 AA (unA .not t11) fun t12=>
 ifK t12
 (Q (.bool false) S)
 (Ca L8 [(.vs 19 a0 (Rt.strip (Rt.strip a0r)))] S fun t14 S_2=>
 AA (unA .not t14) fun t15=>
 ifK t15
 (Q (.bool true) S_2)
 (AN (fun (x5_2:AV) (x6_2:AV) (S_4:St)=>
 Ca LM [(.vs 19 a0 (Rt.strip (Rt.strip a0r))),(.int .i64 a1)] S_4 fun t51 S_5=>
 AA (AP t51 0) fun t52=>
 AA (AP (AQ t51 0) 1) fun t53=>
 Ac Ca Ku [(AV.strip t52),(AV.strip x5_2)] S_5 fun t56 S_6=>
 AN (fun (x60:AV)=>
 AA (As (AV.strip t56) x60 (.bool false)) fun t61=>
 Q (AV.strip t61) S_6) fun j_4=>
 ifK (AV.strip t56)
 (AA (HI .bool .eql (AV.strip t53) (AV.strip x6_2)) fun t60=>
 j_4 t60)
 (j_4 (.tup []))) fun j_5=>
 CJ ([(.vs 1 [] .nil),(.bool false),(.int .i64 0)],[]) (fun v bx=>([v 5,v 6,v 18],[])) (fun nx v bx S_3=>
 AA (AG .lss (v 18) (.int .i64 (List.length a0:Int))) fun t19=>
 ifK t19
 (AN (fun (x5:AV) (x6:AV)=>
 AA (AG .add (v 18) (.int .i64 1)) fun t47=>
 nx ([x5,x6,(AV.strip t47)],[]) S_3) fun j_3=>
 AA (AZ AB (.vs 19 a0 (Rt.strip a0r)) (v 18)) fun t20=>
 AA (AM AB S_3 t20) fun t21=>
 AA (AR AB (some AB.zero) 0 (AV.strip t21)) fun b8=>
 AA (some b8) fun _=>
 AA (some b8) fun _=>
 AA (AD AU (some b8) 2) fun t24=>
 AA (AG .eql (AV.strip t24) (.int .i64 6)) fun t25=>
 AN (fun (x31:AV)=>
 AA (As (AV.strip t25) x31 (.bool false)) fun t32=>
 AN (fun (x37:AV)=>
 AA (As (AV.strip (AV.strip t32)) x37 (.bool false)) fun t38=>
 ifK (AV.strip t38)
 (AA (some b8) fun _=>
 AA (some b8) fun _=>
 AA (AD AX (some b8) 14) fun t42=>
 AA (some b8) fun _=>
 AA (some b8) fun _=>
 AA (AD Dh (some b8) 15) fun t46=>
 AA (A3 AK S_3 (v 5) (AV.strip t42)) fun t43=>
 j_3 t43 (AV.strip t46))
 (j_3 (v 5) (v 6))) fun j=>
 ifK (AV.strip (AV.strip t32))
 (AA (some b8) fun _=>
 AA (some b8) fun _=>
 AA (AD EM (some b8) 8) fun t36=>
 AA (AG .eql (AV.strip t36) (.int .i64 0)) fun t37=>
 j t37)
 (j (.tup []))) fun j_2=>
 ifK (AV.strip t25)
 (AA (some b8) fun _=>
 AA (some b8) fun _=>
 AA (AD AU (some b8) 6) fun t29=>
 AA (AG .eql (AV.strip t29) (.int .i64 a1)) fun t31=>
 j_2 t31)
 (j_2 (.tup [])))
 (j_5 (v 5) (v 6) S_3)) S_2))
theorem Nz{w0 a0 a0r a1 S0 Q}(h:JQ (AL (En w0)) a0 a0r a1 S0 Q):AC w0 Ja [(.vs 19 a0 a0r),(.int .i64 a1)] S0 Q:=Ay w0 Tryz.func4 (by kernel_rfl) (by kernel_rfl) h
def Lq(Ca:CaT)(S0:St)(Q:QT):Prop:=
 Ca IN [(.vs 19 [[(.int .i64 0),(.int .i64 0),(.int .i64 9),(.str []),(.int .i64 0),(.int .i64 0),(.int .i64 0),(.str []),(.int .i64 2),(.int .i64 0),(.int .i64 0),(.int .i64 0),(.int .i64 0),(.str []),(.vs 1 [] .nil),(.bool false),(.int .i64 2),(.int .i64 4),(.int .i64 5)],[(.int .i64 0),(.int .i64 0),(.int .i64 7),(.str []),(.int .i64 0),(.int .i64 0),(.int .i64 0),(.str []),(.int .i64 9),(.int .i64 0),(.int .i64 0),(.int .i64 0),(.int .i64 0),(.str []),(.vs 1 [] .nil),(.bool false),(.int .i64 1),(.int .i64 1),(.int .i64 1)]] .full)] S0 fun t18 S=>
 AA (Bb (AV.strip t18)) fun t20=>
 AA (AG .eql t20 (.int .i64 2)) fun t21=>
 AN (fun (x27:AV)=>
 AA (As (AV.strip t21) x27 (.bool false)) fun t28=>
 AN (fun (x35:AV) (S_3:St)=>
 AA (As (AV.strip (AV.strip t28)) x35 (.bool false)) fun t36=>
 AN (fun (x43:AV) (S_5:St)=>
 AA (As (AV.strip (AV.strip t36)) x43 (.bool false)) fun t44=>
 AN (fun (x48:AV) (S_7:St)=>
 AA (As (AV.strip (AV.strip t44)) x48 (.bool false)) fun t49=>
 AN (fun (x55:AV) (S_9:St)=>
 AA (As (AV.strip (AV.strip t49)) x55 (.bool false)) fun t56=>
 Q (AV.strip t56) S_9) fun j=>
 ifK (AV.strip (AV.strip t49))
 (Ca MC [(.vs 19 [[(.int .i64 0),(.int .i64 0),(.int .i64 9),(.str []),(.int .i64 0),(.int .i64 0),(.int .i64 0),(.str []),(.int .i64 2),(.int .i64 0),(.int .i64 0),(.int .i64 0),(.int .i64 0),(.str []),(.vs 1 [] .nil),(.bool false),(.int .i64 2),(.int .i64 4),(.int .i64 5)],[(.int .i64 0),(.int .i64 0),(.int .i64 7),(.str []),(.int .i64 0),(.int .i64 0),(.int .i64 0),(.str []),(.int .i64 9),(.int .i64 0),(.int .i64 0),(.int .i64 0),(.int .i64 0),(.str []),(.vs 1 [] .nil),(.bool false),(.int .i64 1),(.int .i64 1),(.int .i64 1)]] .full)] S_7 fun t54 S_8=>
 AA (unA .not t54) fun t55=>
 j t55 S_8)
 (j (.tup []) S_7)) fun j_2=>
 ifK (AV.strip (AV.strip t44))
 (Ca Hg [(.agg [(.int .i64 0),(.int .i64 0),(.int .i64 7),(.str []),(.int .i64 0),(.int .i64 0),(.int .i64 0),(.str []),(.int .i64 9),(.int .i64 0),(.int .i64 0),(.int .i64 0),(.int .i64 0),(.str []),(.vs 1 [] .nil),(.bool false),(.int .i64 1),(.int .i64 1),(.int .i64 1)]),(.agg [(.int .i64 0),(.int .i64 0),(.int .i64 9),(.str []),(.int .i64 0),(.int .i64 0),(.int .i64 0),(.str []),(.int .i64 2),(.int .i64 0),(.int .i64 0),(.int .i64 0),(.int .i64 0),(.str []),(.vs 1 [] .nil),(.bool false),(.int .i64 2),(.int .i64 4),(.int .i64 5)])] S_5 fun t48 S_6=>
 j_2 t48 S_6)
 (j_2 (.tup []) S_5)) fun j_3=>
 ifK (AV.strip (AV.strip t36))
 (Ca IQ [(.agg [(.vs 2 [] .nil),(.int .i64 0)]),(.int .i64 1),(.vs 19 [[(.int .i64 0),(.int .i64 0),(.int .i64 7),(.str []),(.int .i64 0),(.int .i64 0),(.int .i64 0),(.str []),(.int .i64 9),(.int .i64 0),(.int .i64 0),(.int .i64 0),(.int .i64 0),(.str []),(.vs 1 [] .nil),(.bool false),(.int .i64 1),(.int .i64 1),(.int .i64 1)],[(.int .i64 0),(.int .i64 0),(.int .i64 9),(.str []),(.int .i64 0),(.int .i64 0),(.int .i64 0),(.str []),(.int .i64 0),(.int .i64 0),(.int .i64 0),(.int .i64 0),(.int .i64 0),(.str []),(.vs 1 [] .nil),(.bool false),(.int .i64 2),(.int .i64 4),(.int .i64 5)]] .full)] S_3 fun t42 S_4=>
 AA (AG .eql t42 (.int .i64 1)) fun t43=>
 j_3 t43 S_4)
 (j_3 (.tup []) S_3)) fun j_4=>
 ifK (AV.strip (AV.strip t28))
 (Ca IQ [(.agg [(.vs 2 [] .nil),(.int .i64 0)]),(.int .i64 1),(.vs 19 [[(.int .i64 0),(.int .i64 0),(.int .i64 7),(.str []),(.int .i64 0),(.int .i64 0),(.int .i64 0),(.str []),(.int .i64 9),(.int .i64 0),(.int .i64 0),(.int .i64 0),(.int .i64 0),(.str []),(.vs 1 [] .nil),(.bool false),(.int .i64 1),(.int .i64 1),(.int .i64 1)],[(.int .i64 0),(.int .i64 0),(.int .i64 9),(.str []),(.int .i64 0),(.int .i64 0),(.int .i64 0),(.str []),(.int .i64 2),(.int .i64 0),(.int .i64 0),(.int .i64 0),(.int .i64 0),(.str []),(.vs 1 [] .nil),(.bool false),(.int .i64 2),(.int .i64 4),(.int .i64 5)]] .full)] S fun t34 S_2=>
 AA (AG .eql t34 (.int .i64 (-1))) fun t35=>
 j_4 t35 S_2)
 (j_4 (.tup []) S)) fun j_5=>
 ifK (AV.strip t21)
 (AA (AZ AB (AV.strip t18) (.int .i64 0)) fun t24=>
 AA (Dg t24 17) fun t25=>
 AA (AM AU S t25) fun t26=>
 AA (AG .eql (AV.strip t26) (.int .i64 1)) fun t27=>
 j_5 t27)
 (j_5 (.tup []))
theorem Rw{w0  S0 Q}(h:Lq (AL (En w0))  S0 Q):AC w0 Im [] S0 Q:=Ay w0 Tryz.func5 (by kernel_rfl) (by kernel_rfl) h
def Qq(Ca:CaT)(a0:List (List AV))(a0r:Rt)(S0:St)(Q:QT):Prop:=
 ifK (.bool (decide ((List.length a0:Int) > 60)))
 (Q (.bool false) S0)
 (AN (fun (S_3:St)=>
 Q (.bool true) S_3) fun j_6=>
 CJ ([(.int .i64 0)],[]) (fun v bx=>([v 10],[])) (fun nx v bx S=>
 AA (AG .lss (v 10) (.int .i64 (List.length a0:Int))) fun t11=>
 ifK t11
 (AA (AZ AB (.vs 19 a0 (Rt.strip a0r)) (v 10)) fun t12=>
 AA (AM AB S t12) fun t13=>
 AA (AR AB (some AB.zero) 0 (AV.strip t13)) fun b4=>
 AA (some b4) fun _=>
 AA (AD Ck (some b4) 2) fun t15=>
 AA (Cj 6 [(AV.strip t15)]) fun e16=>
 Ca Ln [(.vs 6 e16 .full),(.int .i64 1)] S fun t17 S_2=>
 AA (AG .eql t17 (.int .i64 0)) fun t18=>
 AN (fun (x22:AV)=>
 AA (As (AV.strip t18) (.bool true) x22) fun t23=>
 AN (fun (x27:AV)=>
 AA (As (AV.strip (AV.strip t23)) (.bool true) x27) fun t28=>
 AN (fun (x32:AV)=>
 AA (As (AV.strip (AV.strip t28)) (.bool true) x32) fun t33=>
 AN (fun (x42:AV)=>
 AA (As (AV.strip (AV.strip t33)) (.bool true) x42) fun t43=>
 AN (fun (x49:AV)=>
 AA (As (AV.strip (AV.strip t43)) (.bool true) x49) fun t50=>
 ifK (AV.strip t50)
 (Q (.bool false) S_2)
 (AA (AG .add (v 10) (.int .i64 1)) fun t51=>
 nx ([(AV.strip t51)],[]) S_2)) fun j=>
 ifK (AV.strip (AV.strip t43))
 (j (.tup []))
 (AA (some b4) fun _=>
 AA (some b4) fun _=>
 AA (AD AX (some b4) 14) fun t47=>
 AA (Bb (AV.strip t47)) fun t48=>
 AA (AG .gtr t48 (.int .i64 100)) fun t49=>
 j t49)) fun j_2=>
 ifK (AV.strip (AV.strip t33))
 (j_2 (.tup []))
 (AA (some b4) fun _=>
 AA (AD AU (some b4) 16) fun t36=>
 AA (some b4) fun _=>
 AA (AD AU (some b4) 17) fun t38=>
 AA (some b4) fun _=>
 AA (AD AU (some b4) 18) fun t40=>
 AA (R0 [(AV.strip t36),(AV.strip t38),(AV.strip t40)]) fun t41=>
 AA (AG .gtr t41 (.int .i64 2147483647)) fun t42=>
 j_2 t42)) fun j_3=>
 ifK (AV.strip (AV.strip t28))
 (j_3 (.tup []))
 (AA (some b4) fun _=>
 AA (AD AU (some b4) 18) fun t31=>
 AA (AG .lss (AV.strip t31) (.int .i64 0)) fun t32=>
 j_3 t32)) fun j_4=>
 ifK (AV.strip (AV.strip t23))
 (j_4 (.tup []))
 (AA (some b4) fun _=>
 AA (AD AU (some b4) 17) fun t26=>
 AA (AG .lss (AV.strip t26) (.int .i64 0)) fun t27=>
 j_4 t27)) fun j_5=>
 ifK (AV.strip t18)
 (j_5 (.tup []))
 (AA (some b4) fun _=>
 AA (AD AU (some b4) 16) fun t21=>
 AA (AG .lss (AV.strip t21) (.int .i64 0)) fun t22=>
 j_5 t22))
 (j_6 S)) S0)
theorem V4{w0 a0 a0r S0 Q}(h:Qq (AL (En w0)) a0 a0r S0 Q):AC w0 L8 [(.vs 19 a0 a0r)] S0 Q:=Ay w0 Tryz.func6 (by kernel_rfl) (by kernel_rfl) h
def NL(Ca:CaT)(a0a a0b a0ca:Int)(a0cb:List UInt8)(a0cc a0cd a0ce:Int)(a0cf:List UInt8)(a0da a0db a0dc a0dd a0de:Int)(a0df:List UInt8)(a0dg:List (List AV))(a0dgr:Rt)(a0dh:Bool)(a0e a0f a0g a1a a1b a1ca:Int)(a1cb:List UInt8)(a1cc a1cd a1ce:Int)(a1cf:List UInt8)(a1da a1db a1dc a1dd a1de:Int)(a1df:List UInt8)(a1dg:List (List AV))(a1dgr:Rt)(a1dh:Bool)(a1e a1f a1g:Int)(S0:St)(Q:QT):Prop:=
 AA (DV AB (.agg [(.int .i64 a0a),(.int .i64 a0b),(.int .i64 a0ca),(.str a0cb),(.int .i64 a0cc),(.int .i64 a0cd),(.int .i64 a0ce),(.str a0cf),(.int .i64 a0da),(.int .i64 a0db),(.int .i64 a0dc),(.int .i64 a0dd),(.int .i64 a0de),(.str a0df),(.vs 1 a0dg a0dgr),(.bool a0dh),(.int .i64 a0e),(.int .i64 a0f),(.int .i64 a0g)])) fun c2=>
 AA (DV AB (.agg [(.int .i64 a1a),(.int .i64 a1b),(.int .i64 a1ca),(.str a1cb),(.int .i64 a1cc),(.int .i64 a1cd),(.int .i64 a1ce),(.str a1cf),(.int .i64 a1da),(.int .i64 a1db),(.int .i64 a1dc),(.int .i64 a1dd),(.int .i64 a1de),(.str a1df),(.vs 1 a1dg a1dgr),(.bool a1dh),(.int .i64 a1e),(.int .i64 a1f),(.int .i64 a1g)])) fun c3=>
 AA (some c2) fun _=>
 AA (AD AU (some c2) 18) fun t6=>
 AA (some c3) fun _=>
 AA (AD AU (some c3) 16) fun t8=>
 AA (AG .lss (AV.strip t6) (AV.strip t8)) fun t9=>
 Q t9 S0
theorem SZ{w0 a0a a0b a0ca a0cb a0cc a0cd a0ce a0cf a0da a0db a0dc a0dd a0de a0df a0dg a0dgr a0dh a0e a0f a0g a1a a1b a1ca a1cb a1cc a1cd a1ce a1cf a1da a1db a1dc a1dd a1de a1df a1dg a1dgr a1dh a1e a1f a1g S0 Q}(h:NL (AL (En w0)) a0a a0b a0ca a0cb a0cc a0cd a0ce a0cf a0da a0db a0dc a0dd a0de a0df a0dg a0dgr a0dh a0e a0f a0g a1a a1b a1ca a1cb a1cc a1cd a1ce a1cf a1da a1db a1dc a1dd a1de a1df a1dg a1dgr a1dh a1e a1f a1g S0 Q):AC w0 Hg [(.agg [(.int .i64 a0a),(.int .i64 a0b),(.int .i64 a0ca),(.str a0cb),(.int .i64 a0cc),(.int .i64 a0cd),(.int .i64 a0ce),(.str a0cf),(.int .i64 a0da),(.int .i64 a0db),(.int .i64 a0dc),(.int .i64 a0dd),(.int .i64 a0de),(.str a0df),(.vs 1 a0dg a0dgr),(.bool a0dh),(.int .i64 a0e),(.int .i64 a0f),(.int .i64 a0g)]),(.agg [(.int .i64 a1a),(.int .i64 a1b),(.int .i64 a1ca),(.str a1cb),(.int .i64 a1cc),(.int .i64 a1cd),(.int .i64 a1ce),(.str a1cf),(.int .i64 a1da),(.int .i64 a1db),(.int .i64 a1dc),(.int .i64 a1dd),(.int .i64 a1de),(.str a1df),(.vs 1 a1dg a1dgr),(.bool a1dh),(.int .i64 a1e),(.int .i64 a1f),(.int .i64 a1g)])] S0 Q:=Ay w0 Tryz.func7 (by kernel_rfl) (by kernel_rfl) h
def Q1(Ca:CaT)(a0:List (List AV))(a0r:Rt)(S0:St)(Q:QT):Prop:=
 AN (fun (S_5:St)=>
 Q (.bool true) S_5) fun j_2=>
 CJ ([(.vs 19 a0 a0r),(.int .i64 0)],[]) (fun v bx=>([v 0,v 9],[])) (fun nx v bx S=>
 AA (AG .lss (v 9) (.int .i64 (List.length a0:Int))) fun t10=>
 ifK t10
 (AN (fun (x0:AV) (S_4:St)=>
 AA (AG .add (v 9) (.int .i64 1)) fun t27=>
 nx ([x0,(AV.strip t27)],[]) S_4) fun j=>
 AA (AZ AB (.vs 19 a0 (Rt.strip a0r)) (v 9)) fun t12=>
 AA (AM AB S t12) fun t13=>
 AA (AR AB (some AB.zero) 0 (AV.strip t13)) fun b4=>
 AA (AG .add (AV.strip (AV.strip (v 9))) (.int .i64 1)) fun t16=>
 AA (Dm AB (v 0) (some t16) none none) fun t17=>
 AA (Bb t17) fun t18=>
 CJ ([(.int .i64 0)],[(some b4)]) (fun v_2 bx_2=>([v_2 19],[bx_2 4])) (fun nx_2 v_2 bx_2 S_2=>
 AA (AG .lss (v_2 19) t18) fun t20=>
 ifK t20
 (AA (AZ AB t17 (v_2 19)) fun t21=>
 AA (AM AB S_2 t21) fun t22=>
 AA (AR AB (some AB.zero) 0 (AV.strip t22)) fun b6=>
 AA (AD AB (some b6) 0) fun t23=>
 AA (AD AB (bx_2 4) 0) fun t24=>
 Ac Ca Hg [(AV.strip t23),(AV.strip t24)] S_2 fun t25 S_3=>
 ifK t25
 (Q (.bool false) S_3)
 (AA (AG .add (v_2 19) (.int .i64 1)) fun t26=>
 nx_2 ([(AV.strip t26)],[(bx_2 4)]) S_3))
 (j (AV.strip (v 0)) S_2)) S)
 (j_2 S)) S0
theorem V7{w0 a0 a0r S0 Q}(h:Q1 (AL (En w0)) a0 a0r S0 Q):AC w0 MC [(.vs 19 a0 a0r)] S0 Q:=Ay w0 Tryz.func8 (by kernel_rfl) (by kernel_rfl) h
def Qy(Ca:CaT)(a0a a0b a0c a0d a0e:Int)(a0f:List UInt8)(a0g:List (List AV))(a0gr:Rt)(a0h:Bool)(a1a a1b a1c a1d a1e:Int)(a1f:List UInt8)(a1g:List (List AV))(a1gr:Rt)(a1h:Bool)(S0:St)(Q:QT):Prop:=
 AA (DV AE (.agg [(.int .i64 a0a),(.int .i64 a0b),(.int .i64 a0c),(.int .i64 a0d),(.int .i64 a0e),(.str a0f),(.vs 1 a0g a0gr),(.bool a0h)])) fun c2=>
 AA (DV AE (.agg [(.int .i64 a1a),(.int .i64 a1b),(.int .i64 a1c),(.int .i64 a1d),(.int .i64 a1e),(.str a1f),(.vs 1 a1g a1gr),(.bool a1h)])) fun c3=>
 AA (some c2) fun _=>
 AA (AD AX (some c2) 6) fun t8=>
 AA (some c3) fun _=>
 AA (AD AX (some c3) 6) fun t10=>
 AA (some c2) fun _=>
 AA (AD EM (some c2) 0) fun t12=>
 AA (some c3) fun _=>
 AA (AD EM (some c3) 0) fun t14=>
 AA (AG .eql (AV.strip t12) (AV.strip t14)) fun t15=>
 AN (fun (x21:AV)=>
 AA (As (AV.strip t15) x21 (.bool false)) fun t22=>
 AN (fun (x28:AV)=>
 AA (As (AV.strip (AV.strip t22)) x28 (.bool false)) fun t29=>
 AN (fun (x35:AV)=>
 AA (As (AV.strip (AV.strip t29)) x35 (.bool false)) fun t36=>
 AN (fun (x42:AV)=>
 AA (As (AV.strip (AV.strip t36)) x42 (.bool false)) fun t43=>
 AN (fun (x49:AV)=>
 AA (As (AV.strip (AV.strip t43)) x49 (.bool false)) fun t50=>
 AN (fun (x56:AV)=>
 AA (As (AV.strip (AV.strip t50)) x56 (.bool false)) fun t57=>
 AN (fun (x61:AV) (S_2:St)=>
 AA (As (AV.strip (AV.strip t57)) x61 (.bool false)) fun t62=>
 Q (AV.strip t62) S_2) fun j=>
 ifK (AV.strip (AV.strip t57))
 (Ac Ca DI [(AV.strip (AV.strip t8)),(AV.strip (AV.strip t10))] S0 fun t61 S=>
 j t61 S)
 (j (.tup []) S0)) fun j_2=>
 ifK (AV.strip (AV.strip t50))
 (AA (some c2) fun _=>
 AA (AD Dh (some c2) 7) fun t53=>
 AA (some c3) fun _=>
 AA (AD Dh (some c3) 7) fun t55=>
 AA (HI .bool .eql (AV.strip t53) (AV.strip t55)) fun t56=>
 j_2 t56)
 (j_2 (.tup []))) fun j_3=>
 ifK (AV.strip (AV.strip t43))
 (AA (some c2) fun _=>
 AA (AD AK (some c2) 5) fun t46=>
 AA (some c3) fun _=>
 AA (AD AK (some c3) 5) fun t48=>
 AA (AG .eql (AV.strip t46) (AV.strip t48)) fun t49=>
 j_3 t49)
 (j_3 (.tup []))) fun j_4=>
 ifK (AV.strip (AV.strip t36))
 (AA (some c2) fun _=>
 AA (AD AU (some c2) 4) fun t39=>
 AA (some c3) fun _=>
 AA (AD AU (some c3) 4) fun t41=>
 AA (AG .eql (AV.strip t39) (AV.strip t41)) fun t42=>
 j_4 t42)
 (j_4 (.tup []))) fun j_5=>
 ifK (AV.strip (AV.strip t29))
 (AA (some c2) fun _=>
 AA (AD AU (some c2) 3) fun t32=>
 AA (some c3) fun _=>
 AA (AD AU (some c3) 3) fun t34=>
 AA (AG .eql (AV.strip t32) (AV.strip t34)) fun t35=>
 j_5 t35)
 (j_5 (.tup []))) fun j_6=>
 ifK (AV.strip (AV.strip t22))
 (AA (some c2) fun _=>
 AA (AD AU (some c2) 2) fun t25=>
 AA (some c3) fun _=>
 AA (AD AU (some c3) 2) fun t27=>
 AA (AG .eql (AV.strip t25) (AV.strip t27)) fun t28=>
 j_6 t28)
 (j_6 (.tup []))) fun j_7=>
 ifK (AV.strip t15)
 (AA (some c2) fun _=>
 AA (AD AU (some c2) 1) fun t18=>
 AA (some c3) fun _=>
 AA (AD AU (some c3) 1) fun t20=>
 AA (AG .eql (AV.strip t18) (AV.strip t20)) fun t21=>
 j_7 t21)
 (j_7 (.tup []))
theorem Vv{w0 a0a a0b a0c a0d a0e a0f a0g a0gr a0h a1a a1b a1c a1d a1e a1f a1g a1gr a1h S0 Q}(h:Qy (AL (En w0)) a0a a0b a0c a0d a0e a0f a0g a0gr a0h a1a a1b a1c a1d a1e a1f a1g a1gr a1h S0 Q):AC w0 MH [(.agg [(.int .i64 a0a),(.int .i64 a0b),(.int .i64 a0c),(.int .i64 a0d),(.int .i64 a0e),(.str a0f),(.vs 1 a0g a0gr),(.bool a0h)]),(.agg [(.int .i64 a1a),(.int .i64 a1b),(.int .i64 a1c),(.int .i64 a1d),(.int .i64 a1e),(.str a1f),(.vs 1 a1g a1gr),(.bool a1h)])] S0 Q:=Ay w0 Tryz.func9 (by kernel_rfl) (by kernel_rfl) h
def Pe(Ca:CaT)(a0:List (List AV))(a0r:Rt)(a1:Int)(S0:St)(Q:QT):Prop:=
 AN (fun (x4_2:AV) (x5_2:AV) (S_2:St)=>
 Q (.tup [(AV.flat (AV.strip x4_2)),(AV.flat (AV.strip x5_2))]) S_2) fun j_4=>
 CJ ([(.vs 1 [] .nil),(.bool false),(.int .i64 0)],[]) (fun v bx=>([v 4,v 5,v 10],[])) (fun nx v bx S=>
 AA (AG .lss (v 10) (.int .i64 (List.length a0:Int))) fun t11=>
 ifK t11
 (AN (fun (x4:AV) (x5:AV)=>
 AA (AG .add (v 10) (.int .i64 1)) fun t39=>
 nx ([x4,x5,(AV.strip t39)],[]) S) fun j_3=>
 AA (AZ AB (.vs 19 a0 (Rt.strip a0r)) (v 10)) fun t12=>
 AA (AM AB S t12) fun t13=>
 AA (AR AB (some AB.zero) 0 (AV.strip t13)) fun b7=>
 AA (some b7) fun _=>
 AA (some b7) fun _=>
 AA (AD AU (some b7) 2) fun t16=>
 AA (AG .eql (AV.strip t16) (.int .i64 6)) fun t17=>
 AN (fun (x23:AV)=>
 AA (As (AV.strip t17) x23 (.bool false)) fun t24=>
 AN (fun (x29:AV)=>
 AA (As (AV.strip (AV.strip t24)) x29 (.bool false)) fun t30=>
 ifK (AV.strip t30)
 (AA (some b7) fun _=>
 AA (some b7) fun _=>
 AA (AD AX (some b7) 14) fun t34=>
 AA (some b7) fun _=>
 AA (some b7) fun _=>
 AA (AD Dh (some b7) 15) fun t38=>
 AA (A3 AK S (v 4) (AV.strip t34)) fun t35=>
 j_3 t35 (AV.strip t38))
 (j_3 (v 4) (v 5))) fun j=>
 ifK (AV.strip (AV.strip t24))
 (AA (some b7) fun _=>
 AA (some b7) fun _=>
 AA (AD EM (some b7) 8) fun t28=>
 AA (AG .eql (AV.strip t28) (.int .i64 0)) fun t29=>
 j t29)
 (j (.tup []))) fun j_2=>
 ifK (AV.strip t17)
 (AA (some b7) fun _=>
 AA (some b7) fun _=>
 AA (AD AU (some b7) 6) fun t21=>
 AA (AG .eql (AV.strip t21) (.int .i64 a1)) fun t23=>
 j_2 t23)
 (j_2 (.tup [])))
 (j_4 (v 4) (v 5) S)) S0
theorem UC{w0 a0 a0r a1 S0 Q}(h:Pe (AL (En w0)) a0 a0r a1 S0 Q):AC w0 LM [(.vs 19 a0 a0r),(.int .i64 a1)] S0 Q:=Ay w0 Tryz.func11 (by kernel_rfl) (by kernel_rfl) h
def Po(Ca:CaT)(a0:List (List AV))(a0r:Rt)(a1:List (List AV))(a1r:Rt)(S0:St)(Q:QT):Prop:=
 ifK (.bool ((List.length a0:Int) != (List.length a1:Int)))
 (Q (.bool false) S0)
 (AN (fun (S_2:St)=>
 Q (.bool true) S_2) fun j=>
 CJ ([(.int .i64 0)],[]) (fun v bx=>([v 5],[])) (fun nx v bx S=>
 AA (AG .lss (AV.strip (v 5)) (.int .i64 (List.length a0:Int))) fun t14=>
 ifK t14
 (AA (AZ AK (.vs 1 a0 (Rt.strip a0r)) (AV.strip (v 5))) fun t19=>
 AA (AM AK S t19) fun t20=>
 AA (AZ AK (.vs 1 a1 (Rt.strip a1r)) (AV.strip (v 5))) fun t23=>
 AA (AM AK S t23) fun t24=>
 AA (AG .neq (AV.strip t20) (AV.strip t24)) fun t25=>
 ifK t25
 (Q (.bool false) S)
 (AA (AG .add (AV.strip (v 5)) (.int .i64 1)) fun t16=>
 nx ([t16],[]) S))
 (j S)) S0)
theorem Uq{w0 a0 a0r a1 a1r S0 Q}(h:Po (AL (En w0)) a0 a0r a1 a1r S0 Q):AC w0 Ku [(.vs 1 a0 a0r),(.vs 1 a1 a1r)] S0 Q:=Ay w0 Tryz.func12 (by kernel_rfl) (by kernel_rfl) h
def Pt(Ca:CaT)(a0a:List (List AV))(a0ar:Rt)(a0b a1:Int)(a2:List (List AV))(a2r:Rt)(S0:St)(Q:QT):Prop:=
 AA (DV AI (.agg [(.vs 2 a0a a0ar),(.int .i64 a0b)])) fun c3=>
 AA (AD AI (some c3) 0) fun t11=>
 Ac Ca OB [(AV.strip t11),(.int .i64 a1)] S0 fun t13 S=>
 AA (Jn C2 CQ t13) fun t14=>
 AN (fun (S_7:St)=>
 Q (.int .i64 (-1)) S_7) fun j_4=>
 Ca IN [(.vs 19 a2 (Rt.strip (Rt.strip a2r)))] S fun t16 S_2=>
 AA (Bb t16) fun t17=>
 CJ ([(.int .i64 0),(.int .i64 0)],[]) (fun v bx=>([v 8,v 18],[])) (fun nx v bx S_3=>
 AA (AG .lss (v 18) t17) fun t19=>
 ifK t19
 (AA (AZ AB t16 (v 18)) fun t21=>
 AA (AM AB S_3 t21) fun t22=>
 AA (AR AB (some AB.zero) 0 (AV.strip t22)) fun b10=>
 AA (some b10) fun _=>
 AA (AD AU (some b10) 17) fun t24=>
 AA (AG .leq (AV.strip t24) (AV.strip (v 8))) fun t26=>
 AN (fun (x32:AV)=>
 AA (As (AV.strip t26) (.bool true) x32) fun t33=>
 AN (fun (x39:AV)=>
 AA (As (AV.strip (AV.strip t33)) (.bool true) x39) fun t40=>
 AN (fun (x49:AV) (S_6:St)=>
 AA (As (AV.strip (AV.strip t40)) (.bool true) x49) fun t50=>
 ifK (AV.strip t50)
 (Q (AV.strip (AV.strip (v 18))) S_6)
 (AA (some b10) fun _=>
 AA (AD AU (some b10) 17) fun t53=>
 AA (AG .add (v 18) (.int .i64 1)) fun t54=>
 nx ([(AV.strip t53),(AV.strip t54)],[]) S_6)) fun j=>
 ifK (AV.strip (AV.strip t40))
 (j (.tup []) S_3)
 (AA (some b10) fun _=>
 AA (AD Ck (some b10) 2) fun t44=>
 AA (some b10) fun _=>
 AA (AD AE (some b10) 8) fun t47=>
 AA (EC C (AV.strip t14) "Do" [(AV.strip t44)]) fun a=>
 Ca a.1 a.2 S_3 fun t45 S_4=>
 Ac Ca MH [t45,(AV.strip t47)] S_4 fun t48 S_5=>
 AA (unA .not t48) fun t49=>
 j t49 S_5)) fun j_2=>
 ifK (AV.strip (AV.strip t33))
 (j_2 (.tup []))
 (AA (some b10) fun _=>
 AA (AD AU (some b10) 17) fun t36=>
 AA (some b10) fun _=>
 AA (AD AU (some b10) 18) fun t38=>
 AA (AG .gtr (AV.strip t36) (AV.strip t38)) fun t39=>
 j_2 t39)) fun j_3=>
 ifK (AV.strip t26)
 (j_3 (.tup []))
 (AA (some b10) fun _=>
 AA (AD AU (some b10) 17) fun t29=>
 AA (some b10) fun _=>
 AA (AD AU (some b10) 16) fun t31=>
 AA (AG .lss (AV.strip t29) (AV.strip t31)) fun t32=>
 j_3 t32))
 (j_4 S_3)) S_2
theorem Um{w0 a0a a0ar a0b a1 a2 a2r S0 Q}(h:Pt (AL (En w0)) a0a a0ar a0b a1 a2 a2r S0 Q):AC w0 IQ [(.agg [(.vs 2 a0a a0ar),(.int .i64 a0b)]),(.int .i64 a1),(.vs 19 a2 a2r)] S0 Q:=Ay w0 Tryz.func14 (by kernel_rfl) (by kernel_rfl) h
def RM(Ca:CaT)(a0:List (List AV))(a0r:Rt)(a1:Int)(S0:St)(Q:QT):Prop:=
 ifK (.bool (decide ((List.length a0:Int) > a1)))
 (Q (.int .i64 0) S0)
 (AN (fun (S_2:St)=>
 Q (.int .i64 1) S_2) fun j_3=>
 CJ ([(.int .i64 0)],[]) (fun v bx=>([v 13],[])) (fun nx v bx S=>
 AA (AG .lss (v 13) (.int .i64 (List.length a0:Int))) fun t14=>
 ifK t14
 (AA (AZ Ck (.vs 6 a0 (Rt.strip a0r)) (v 13)) fun t15=>
 AA (AM Ck S t15) fun t16=>
 AA (AR Ck (some Ck.zero) 0 (AV.strip t16)) fun b6=>
 AA (some b6) fun _=>
 AA (AD AK (some b6) 1) fun t18=>
 AA (Fh (AV.strip t18)) fun t19=>
 AA (AG .gtr t19 (.int .i64 1100)) fun t20=>
 AN (fun (x25:AV)=>
 AA (As (AV.strip t20) (.bool true) x25) fun t26=>
 AN (fun (x30:AV)=>
 AA (As (AV.strip (AV.strip t26)) (.bool true) x30) fun t31=>
 ifK (AV.strip t31)
 (Q (.int .i64 0) S)
 (AA (AG .add (v 13) (.int .i64 1)) fun t32=>
 nx ([(AV.strip t32)],[]) S)) fun j=>
 ifK (AV.strip (AV.strip t26))
 (j (.tup []))
 (AA (some b6) fun _=>
 AA (AD AU (some b6) 3) fun t29=>
 AA (AG .gtr (AV.strip t29) (.int .i64 3000)) fun t30=>
 j t30)) fun j_2=>
 ifK (AV.strip t20)
 (j_2 (.tup []))
 (AA (some b6) fun _=>
 AA (AD AK (some b6) 5) fun t23=>
 AA (Fh (AV.strip t23)) fun t24=>
 AA (AG .gtr t24 (.int .i64 2000)) fun t25=>
 j_2 t25))
 (j_3 S)) S0)
theorem WN{w0 a0 a0r a1 S0 Q}(h:RM (AL (En w0)) a0 a0r a1 S0 Q):AC w0 Ln [(.vs 6 a0 a0r),(.int .i64 a1)] S0 Q:=Ay w0 Tryz.func15 (by kernel_rfl) (by kernel_rfl) h
def Ea(Ca:CaT)(a0:List (List AV))(a0r:Rt)(a1:List (List AV))(a1r:Rt)(S0:St)(Q:QT):Prop:=
 ifK (.bool ((List.length a0:Int) != (List.length a1:Int)))
 (Q (.bool false) S0)
 (AN (fun (S_2:St)=>
 Q (.bool true) S_2) fun j=>
 CJ ([(.int .i64 0)],[]) (fun v bx=>([v 13],[])) (fun nx v bx S=>
 AA (AG .lss (v 13) (.int .i64 (List.length a0:Int))) fun t14=>
 ifK t14
 (AA (AZ AK (.vs 1 a0 (Rt.strip a0r)) (AV.strip (AV.strip (v 13)))) fun t18=>
 AA (AM AK S t18) fun t19=>
 AA (AZ AK (.vs 1 a1 (Rt.strip a1r)) (AV.strip (AV.strip (v 13)))) fun t22=>
 AA (AM AK S t22) fun t23=>
 AA (AG .neq (AV.strip t19) (AV.strip t23)) fun t24=>
 ifK t24
 (Q (.bool false) S)
 (AA (AG .add (v 13) (.int .i64 1)) fun t25=>
 nx ([(AV.strip t25)],[]) S))
 (j S)) S0)
theorem Gz{w0 a0 a0r a1 a1r S0 Q}(h:Ea (AL (En w0)) a0 a0r a1 a1r S0 Q):AC w0 DI [(.vs 1 a0 a0r),(.vs 1 a1 a1r)] S0 Q:=Ay w0 Tryz.func16 (by kernel_rfl) (by kernel_rfl) h
def MX(Ca:CaT)(a0a a0b a0ca:Int)(a0cb:List UInt8)(a0cc a0cd a0ce:Int)(a0cf:List UInt8)(a0da a0db a0dc a0dd a0de:Int)(a0df:List UInt8)(a0dg:List (List AV))(a0dgr:Rt)(a0dh:Bool)(a0e a0f a0g a1a a1b a1ca:Int)(a1cb:List UInt8)(a1cc a1cd a1ce:Int)(a1cf:List UInt8)(a1da a1db a1dc a1dd a1de:Int)(a1df:List UInt8)(a1dg:List (List AV))(a1dgr:Rt)(a1dh:Bool)(a1e a1f a1g:Int)(S0:St)(Q:QT):Prop:=
 AA (DV AB (.agg [(.int .i64 a0a),(.int .i64 a0b),(.int .i64 a0ca),(.str a0cb),(.int .i64 a0cc),(.int .i64 a0cd),(.int .i64 a0ce),(.str a0cf),(.int .i64 a0da),(.int .i64 a0db),(.int .i64 a0dc),(.int .i64 a0dd),(.int .i64 a0de),(.str a0df),(.vs 1 a0dg a0dgr),(.bool a0dh),(.int .i64 a0e),(.int .i64 a0f),(.int .i64 a0g)])) fun c2=>
 AA (DV AB (.agg [(.int .i64 a1a),(.int .i64 a1b),(.int .i64 a1ca),(.str a1cb),(.int .i64 a1cc),(.int .i64 a1cd),(.int .i64 a1ce),(.str a1cf),(.int .i64 a1da),(.int .i64 a1db),(.int .i64 a1dc),(.int .i64 a1dd),(.int .i64 a1de),(.str a1df),(.vs 1 a1dg a1dgr),(.bool a1dh),(.int .i64 a1e),(.int .i64 a1f),(.int .i64 a1g)])) fun c3=>
 AA (some c2) fun _=>
 AA (AD AU (some c2) 17) fun t6=>
 AA (some c3) fun _=>
 AA (AD AU (some c3) 17) fun t8=>
 AA (AG .sub (AV.strip t6) (AV.strip t8)) fun t9=>
 Q t9 S0
theorem Rf{w0 a0a a0b a0ca a0cb a0cc a0cd a0ce a0cf a0da a0db a0dc a0dd a0de a0df a0dg a0dgr a0dh a0e a0f a0g a1a a1b a1ca a1cb a1cc a1cd a1ce a1cf a1da a1db a1dc a1dd a1de a1df a1dg a1dgr a1dh a1e a1f a1g S0 Q}(h:MX (AL (En w0)) a0a a0b a0ca a0cb a0cc a0cd a0ce a0cf a0da a0db a0dc a0dd a0de a0df a0dg a0dgr a0dh a0e a0f a0g a1a a1b a1ca a1cb a1cc a1cd a1ce a1cf a1da a1db a1dc a1dd a1de a1df a1dg a1dgr a1dh a1e a1f a1g S0 Q):AC w0 FZ [(.agg [(.int .i64 a0a),(.int .i64 a0b),(.int .i64 a0ca),(.str a0cb),(.int .i64 a0cc),(.int .i64 a0cd),(.int .i64 a0ce),(.str a0cf),(.int .i64 a0da),(.int .i64 a0db),(.int .i64 a0dc),(.int .i64 a0dd),(.int .i64 a0de),(.str a0df),(.vs 1 a0dg a0dgr),(.bool a0dh),(.int .i64 a0e),(.int .i64 a0f),(.int .i64 a0g)]),(.agg [(.int .i64 a1a),(.int .i64 a1b),(.int .i64 a1ca),(.str a1cb),(.int .i64 a1cc),(.int .i64 a1cd),(.int .i64 a1ce),(.str a1cf),(.int .i64 a1da),(.int .i64 a1db),(.int .i64 a1dc),(.int .i64 a1dd),(.int .i64 a1de),(.str a1df),(.vs 1 a1dg a1dgr),(.bool a1dh),(.int .i64 a1e),(.int .i64 a1f),(.int .i64 a1g)])] S0 Q:=Ay w0 Tryz.func19 (by kernel_rfl) (by kernel_rfl) h
def SC(Ca:CaT)(a0a:List (List AV))(a0ar:Rt)(a0b a1:Int)(S0:St)(Q:QT):Prop:=
 AA (DV AI (.agg [(.vs 2 a0a a0ar),(.int .i64 a0b)])) fun c2=>
 AA (AD AI (some c2) 0) fun t5=>
 Ca LA [(.int .i64 a1)] S0 fun t7 S=>
 AA (B3 EN 1 [(0,(AV.strip t5)),(1,(.int .i64 0)),(2,t7)]) fun t8=>
 AA (DV EN t8) fun c9=>
 Q (.ptr S.length 0) (S++[Obj.cells c9 GP])
theorem YI{w0 a0a a0ar a0b a1 S0 Q}(h:SC (AL (En w0)) a0a a0ar a0b a1 S0 Q):AC w0 OB [(.agg [(.vs 2 a0a a0ar),(.int .i64 a0b)]),(.int .i64 a1)] S0 Q:=Ay w0 Tryz.func20 (by kernel_rfl) (by kernel_rfl) h
def Pj(Ca:CaT)(a0:Int)(S0:St)(Q:QT):Prop:=
 AA (DV EA (.agg [(.int .i64 (if 1024 < (if 1 > a0 then 1 else a0) then 1024 else (if 1 > a0 then 1 else a0))),(.int .i64 0),(.map (some S0.length))])) fun c8=>
 Q (.ptr (S0++[Obj.map []]).length 0) ((S0++[Obj.map []])++[Obj.cells c8 DT])
theorem Ul{w0 a0 S0 Q}(h:Pj (AL (En w0)) a0 S0 Q):AC w0 LA [(.int .i64 a0)] S0 Q:=Ay w0 Tryz.func22 (by kernel_rfl) (by kernel_rfl) h
def JW(Ca:CaT)(a0a:List (List AV))(a0ar:Rt)(a0b:Int)(S0:St)(Q:QT):Prop:=
 AA (DV AI (.agg [(.vs 2 a0a a0ar),(.int .i64 a0b)])) fun c1=>
 AA (some c1) fun _=>
 AA (AD BZ (some c1) 0) fun t4=>
 AA (Bb (AV.strip t4)) fun t5=>
 Q t5 S0
theorem N3{w0 a0a a0ar a0b S0 Q}(h:JW (AL (En w0)) a0a a0ar a0b S0 Q):AC w0 Gi [(.agg [(.vs 2 a0a a0ar),(.int .i64 a0b)])] S0 Q:=Ay w0 Tryz.func43 (by kernel_rfl) (by kernel_rfl) h
def LY(Ca:CaT)(a0 a0o:Nat)(a1a:Int)(a1b:List UInt8)(a1c a1d a1e:Int)(a1f:List UInt8)(S0:St)(Q:QT):Prop:=
 AA (DV Ck (.agg [(.int .i64 a1a),(.str a1b),(.int .i64 a1c),(.int .i64 a1d),(.int .i64 a1e),(.str a1f)])) fun c3=>
 AA (AD Ck (some c3) 0) fun t16=>
 Ac Ca He [(AV.strip t16)] S0 fun t17 S=>
 AA (AG .neq (AV.strip t17) (.int .i64 0)) fun t19=>
 ifK t19
 (AA (B3 AE 1 [(0,(AV.strip t17))]) fun t21=>
 AA (AR AE (some AE.zero) 0 t21) fun b4=>
 AA ((AD AE (some b4) 0).map AV.strip) fun r4=>
 Q r4 S)
 (AA (some c3) fun _=>
 AA (AD AU (some c3) 0) fun t23=>
 AA (AG .eql (AV.strip t23) (.int .i64 5)) fun t25=>
 ifK t25
 (AA (AM AI S (.ptr a0 (a0o+0))) fun t30=>
 AA (some c3) fun _=>
 AA (AD AK (some c3) 1) fun t32=>
 Ac Ca IP [(AV.strip t30),(AV.strip t32)] S fun t33 S_2=>
 AA (AP t33 0) fun t34=>
 AA (AP (AQ t33 0) 1) fun t35=>
 AA (AP (AQ (AQ t33 0) 1) 2) fun t36=>
 AA (AG .neq (AV.strip t36) (.int .i64 0)) fun t38=>
 ifK t38
 (AA (B3 AE 1 [(0,(AV.strip t36))]) fun t40=>
 AA (AR AE (some AE.zero) 0 t40) fun b4_2=>
 AA ((AD AE (some b4_2) 0).map AV.strip) fun r4_2=>
 Q r4_2 S_2)
 (Ac Ca D6 [(.ptr a0 a0o),(AV.strip t34)] S_2 fun t43 S_3=>
 AA (AR AE (some AE.zero) 0 t43) fun b4_3=>
 AA ((AD AE (some b4_3) 0).map AV.strip) fun r4_3=>
 Q r4_3 S_3))
 (AA (AG .eql (AV.strip t23) (.int .i64 6)) fun t45=>
 ifK t45
 (AA (some c3) fun _=>
 AA (AD AU (some c3) 4) fun t49=>
 Ac Ca DJ [(.ptr a0 a0o),(AV.strip t49)] S fun t50 S_4=>
 AA (AP t50 0) fun t51=>
 AA (AP (AQ t50 0) 1) fun t52=>
 AA (AR A6 (some [(.int .i64 0),(.str []),(.int .i64 0)]) 0 t51) fun b9=>
 AA (AG .neq (AV.strip t52) (.int .i64 0)) fun t54=>
 ifK t54
 (AA (B3 AE 1 [(0,(AV.strip t52))]) fun t56=>
 AA (AR AE (some AE.zero) 0 t56) fun b4_4=>
 AA ((AD AE (some b4_4) 0).map AV.strip) fun r4_4=>
 Q r4_4 S_4)
 (AA (AM AI S_4 (.ptr a0 (a0o+0))) fun t61=>
 AA (some b9) fun _=>
 AA (AD AK (some b9) 1) fun t63=>
 Ac Ca IP [(AV.strip t61),(AV.strip t63)] S_4 fun t64 S_5=>
 AA (AP t64 0) fun t65=>
 AA (AP (AQ t64 0) 1) fun t66=>
 AA (AP (AQ (AQ t64 0) 1) 2) fun t67=>
 AA (AD Ck (some c3) 0) fun t69=>
 Ac Ca Dc [(.ptr a0 a0o),(AV.strip t69),(AV.strip t66)] S_5 fun t71 S_6=>
 AA (AR AE (some AE.zero) 0 t71) fun b4_5=>
 AA ((AD AE (some b4_5) 0).map AV.strip) fun r4_5=>
 Q r4_5 S_6))
 (AA (AG .eql (AV.strip t23) (.int .i64 7)) fun t73=>
 ifK t73
 (AA (AM CY S (.ptr a0 (a0o+3))) fun t77=>
 AA (some c3) fun _=>
 AA (AD AU (some c3) 4) fun t79=>
 Ac Ca Fb [(AV.strip t77),(AV.strip t79)] S fun t80 S_7=>
 AA (B3 AE 1 [(0,t80)]) fun t81=>
 AA (AR AE (some AE.zero) 0 t81) fun b4_6=>
 AA ((AD AE (some b4_6) 0).map AV.strip) fun r4_6=>
 Q r4_6 S_7)
 (AA (AG .eql (AV.strip t23) (.int .i64 8)) fun t83=>
 ifK t83
 (AA (some c3) fun _=>
 AA (AD AK (some c3) 5) fun t86=>
 Ac Ca Jx [(AV.strip t86)] S fun t87 S_8=>
 AA (AP t87 0) fun t88=>
 AA (AP (AQ t87 0) 1) fun t89=>
 AA (AG .neq (AV.strip t89) (.int .i64 0)) fun t91=>
 ifK t91
 (AA (B3 AE 1 [(0,(AV.strip t89))]) fun t93=>
 AA (AR AE (some AE.zero) 0 t93) fun b4_7=>
 AA ((AD AE (some b4_7) 0).map AV.strip) fun r4_7=>
 Q r4_7 S_8)
 (Ac Ca Ef [(.ptr a0 a0o),(AV.strip t88)] S_8 fun t96 S_9=>
 AA (AR AE (some AE.zero) 0 t96) fun b4_8=>
 AA ((AD AE (some b4_8) 0).map AV.strip) fun r4_8=>
 Q r4_8 S_9))
 (AA (AG .eql (AV.strip t23) (.int .i64 9)) fun t98=>
 ifK t98
 (AA (some c3) fun _=>
 AA (AD AU (some c3) 4) fun t101=>
 Ac Ca Dp [(.ptr a0 a0o),(AV.strip t101)] S fun t102 S_10=>
 AA (AR AE (some AE.zero) 0 t102) fun b4_9=>
 AA ((AD AE (some b4_9) 0).map AV.strip) fun r4_9=>
 Q r4_9 S_10)
 (AA (AM AI S (.ptr a0 (a0o+0))) fun t106=>
 AA (AD Ck (some c3) 0) fun t107=>
 Ac Ca Nw [(AV.strip t106),(AV.strip t107)] S fun t108 S_11=>
 AA (AR AE (some AE.zero) 0 t108) fun b4_10=>
 AA ((AD AE (some b4_10) 0).map AV.strip) fun r4_10=>
 Q r4_10 S_11))))))
theorem QZ{w0 a0 a0o a1a a1b a1c a1d a1e a1f S0 Q}(h:LY (AL (En w0)) a0 a0o a1a a1b a1c a1d a1e a1f S0 Q):AC w0 Fv [(.ptr a0 a0o),(.agg [(.int .i64 a1a),(.str a1b),(.int .i64 a1c),(.int .i64 a1d),(.int .i64 a1e),(.str a1f)])] S0 Q:=Ay w0 Tryz.func44 (by kernel_rfl) (by kernel_rfl) h
def NF(Ca:CaT)(a0a:Int)(a0b:List UInt8)(a0c a0d a0e:Int)(a0f:List UInt8)(S0:St)(Q:QT):Prop:=
 AA (DV Ck (.agg [(.int .i64 a0a),(.str a0b),(.int .i64 a0c),(.int .i64 a0d),(.int .i64 a0e),(.str a0f)])) fun c1=>
 AA (some c1) fun _=>
 AA (AD AU (some c1) 0) fun t4=>
 AA (AG .eql (AV.strip t4) (.int .i64 4)) fun t5=>
 AN (fun (x14:AV)=>
 AA (As (AV.strip t5) x14 (.bool false)) fun t15=>
 AN (fun (x24:AV)=>
 AA (As (AV.strip (AV.strip t15)) (.bool true) x24) fun t25=>
 ifK (AV.strip t25)
 (Q (.int .i64 1) S0)
 (Q (.int .i64 0) S0)) fun j_3=>
 ifK (AV.strip (AV.strip t15))
 (j_3 (.tup []))
 (AA (some c1) fun _=>
 AA (AD AU (some c1) 0) fun t18=>
 AA (AG .eql (AV.strip t18) (.int .i64 6)) fun t19=>
 AN (fun (x23:AV)=>
 AA (As (AV.strip t19) x23 (.bool false)) fun t24=>
 j_3 (AV.strip t24)) fun j_2=>
 gK (AV.strip t19)
 (AA (some c1) fun _=>
 AA (AD AU (some c1) 3) fun t22=>
 AA (AG .lss (AV.strip t22) (.int .i64 1)) fun t23=>
 j_2 t23)
 (j_2 (.tup []))
 (j_2 (.tup [])))) fun j_4=>
 ifK (AV.strip t5)
 (AA (some c1) fun _=>
 AA (AD AU (some c1) 2) fun t8=>
 AA (AG .lss (AV.strip t8) (.int .i64 0)) fun t9=>
 AN (fun (x13:AV)=>
 AA (As (AV.strip t9) (.bool true) x13) fun t14=>
 j_4 (AV.strip t14)) fun j=>
 gK (AV.strip t9)
 (j (.tup []))
 (AA (some c1) fun _=>
 AA (AD AU (some c1) 3) fun t12=>
 AA (AG .lss (AV.strip t12) (.int .i64 0)) fun t13=>
 j t13)
 (j (.tup [])))
 (j_4 (.tup []))
theorem Tk{w0 a0a a0b a0c a0d a0e a0f S0 Q}(h:NF (AL (En w0)) a0a a0b a0c a0d a0e a0f S0 Q):AC w0 He [(.agg [(.int .i64 a0a),(.str a0b),(.int .i64 a0c),(.int .i64 a0d),(.int .i64 a0e),(.str a0f)])] S0 Q:=Ay w0 Tryz.func46 (by kernel_rfl) (by kernel_rfl) h
def PV(Ca:CaT)(a0a:List (List AV))(a0ar:Rt)(a0b:Int)(a1:List UInt8)(S0:St)(Q:QT):Prop:=
 AA (DV AI (.agg [(.vs 2 a0a a0ar),(.int .i64 a0b)])) fun c2=>
 AA (AD AI (some c2) 0) fun t10=>
 Ac Ca JX [(AV.strip t10),(.str a1),(.bool true)] S0 fun t12 S=>
 AA (AP t12 0) fun t13=>
 AA (AP (AQ t12 0) 1) fun t14=>
 AA (AR Aa (some Aa.zero) 0 t13) fun b7=>
 AA (AG .neq (AV.strip t14) (.int .i64 0)) fun t17=>
 ifK t17
 (Q (.tup [(.str []),(.vs 2 [] .nil),(AV.flat (AV.strip t14))]) S)
 (AA (some b7) fun _=>
 AA (some b7) fun _=>
 AA (AD AU (some b7) 1) fun t22=>
 AA (AG .neq (AV.strip t22) (.int .i64 2)) fun t23=>
 ifK t23
 (Q (.tup [(.str []),(.vs 2 [] .nil),(.int .i64 3)]) S)
 (AA (some b7) fun _=>
 AA (AD AK (some b7) 0) fun t25=>
 AA (AD AI (some c2) 0) fun t26=>
 AA (some b7) fun _=>
 AA (some b7) fun _=>
 AA (AD CX (some b7) 4) fun t29=>
 Ac Ca LJ [(AV.strip t26),(AV.strip t29)] S fun t30 S_2=>
 Q (.tup [(AV.flat (AV.strip t25)),(AV.flat t30),(.int .i64 0)]) S_2))
theorem UD{w0 a0a a0ar a0b a1 S0 Q}(h:PV (AL (En w0)) a0a a0ar a0b a1 S0 Q):AC w0 IP [(.agg [(.vs 2 a0a a0ar),(.int .i64 a0b)]),(.str a1)] S0 Q:=Ay w0 Tryz.func47 (by kernel_rfl) (by kernel_rfl) h
def I0(Ca:CaT)(a0 a0o:Nat)(a1:List UInt8)(S0:St)(Q:QT):Prop:=
 AA (AM CY S0 (.ptr a0 (a0o+3))) fun t11=>
 AA (AM AU S0 (.ptr a0 (a0o+2))) fun t15=>
 Ac Ca Fj [(AV.strip t11),(AV.strip t15),(.str a1)] S0 fun t17 S=>
 AA (AP t17 0) fun t18=>
 AA (AP (AQ t17 0) 1) fun t19=>
 AA (B3 AE 1 [(0,(AV.strip t19)),(4,(AV.strip t18))]) fun t22=>
 AA (AR AE (some AE.zero) 0 t22) fun b4=>
 AA ((AD AE (some b4) 0).map AV.strip) fun r4=>
 Q r4 S
theorem M7{w0 a0 a0o a1 S0 Q}(h:I0 (AL (En w0)) a0 a0o a1 S0 Q):AC w0 D6 [(.ptr a0 a0o),(.str a1)] S0 Q:=Ay w0 Tryz.func48 (by kernel_rfl) (by kernel_rfl) h
def Iq(Ca:CaT)(a0 a0o:Nat)(a1:Int)(S0:St)(Q:QT):Prop:=
 AA (AM CY S0 (.ptr a0 (a0o+3))) fun t12=>
 Ac Ca D9 [(AV.strip t12),(.int .i64 a1)] S0 fun t14 S=>
 AA (AP t14 0) fun t15=>
 AA (AP (AQ t14 0) 1) fun t16=>
 AA (AR A6 (some [(.int .i64 0),(.str []),(.int .i64 0)]) 0 t15) fun b6=>
 AA (AG .neq (AV.strip t16) (.int .i64 0)) fun t19=>
 ifK t19
 (Q (.tup [(.agg [(.int .i64 0),(.str []),(.int .i64 0)]),(AV.flat (AV.strip t16))]) S)
 (AA (some b6) fun _=>
 AA (AD AU (some b6) 0) fun t24=>
 AA (AM AU S (.ptr a0 (a0o+2))) fun t28=>
 AA (AG .neq (AV.strip t24) (AV.strip t28)) fun t29=>
 ifK t29
 (Q (.tup [(.agg [(.int .i64 0),(.str []),(.int .i64 0)]),(.int .i64 8)]) S)
 (AA (AD A6 (some b6) 0) fun t31=>
 AA (AR A6 (some [(.int .i64 0),(.str []),(.int .i64 0)]) 0 (AV.strip t31)) fun b4=>
 AA ((AD A6 (some b4) 0).map AV.strip) fun r4=>
 Q (.tup [(AV.flat r4),(.int .i64 0)]) S))
theorem Mz{w0 a0 a0o a1 S0 Q}(h:Iq (AL (En w0)) a0 a0o a1 S0 Q):AC w0 DJ [(.ptr a0 a0o),(.int .i64 a1)] S0 Q:=Ay w0 Tryz.func49 (by kernel_rfl) (by kernel_rfl) h
def Jf(Ca:CaT)(a0 a0o:Nat)(a1a:Int)(a1b:List UInt8)(a1c a1d a1e:Int)(a1f:List UInt8)(a2:List (List AV))(a2r:Rt)(S0:St)(Q:QT):Prop:=
 AA (DV Ck (.agg [(.int .i64 a1a),(.str a1b),(.int .i64 a1c),(.int .i64 a1d),(.int .i64 a1e),(.str a1f)])) fun c4=>
 AA (some c4) fun _=>
 AA (AD AU (some c4) 4) fun t14=>
 Ac Ca DJ [(.ptr a0 a0o),(AV.strip t14)] S0 fun t15 S=>
 AA (AP t15 0) fun t16=>
 AA (AP (AQ t15 0) 1) fun t17=>
 AA (AR A6 (some [(.int .i64 0),(.str []),(.int .i64 0)]) 0 t16) fun b7=>
 AA (AG .neq (AV.strip t17) (.int .i64 0)) fun t19=>
 ifK t19
 (AA (B3 AE 1 [(0,(AV.strip t17))]) fun t21=>
 AA (AR AE (some AE.zero) 0 t21) fun b6=>
 AA ((AD AE (some b6) 0).map AV.strip) fun r6=>
 Q r6 S)
 (AA (some b7) fun _=>
 AA (AD AU (some b7) 2) fun t25=>
 AA (some c4) fun _=>
 AA (AD AU (some c4) 3) fun t27=>
 Ac Ca LF [(.vs 2 a2 (Rt.strip a2r)),(AV.strip t25),(AV.strip t27)] S fun t28 S_2=>
 AA (AP t28 0) fun t29=>
 AA (AP (AQ t28 0) 1) fun t30=>
 AA (AM CY S_2 (.ptr a0 (a0o+3))) fun t34=>
 AA (some c4) fun _=>
 AA (AD AU (some c4) 4) fun t36=>
 AA (Bb (AV.strip t29)) fun t38=>
 Ac Ca Fl [(AV.strip t34),(AV.strip t36),t38] S_2 fun t39 S_3=>
 Ac Ca Jy [(AV.strip t29)] S_3 fun t41 S_4=>
 AA (B3 AE 1 [(6,t41),(7,(AV.strip t30))]) fun t43=>
 AA (AR AE (some AE.zero) 0 t43) fun b6_2=>
 AA ((AD AE (some b6_2) 0).map AV.strip) fun r6_2=>
 Q r6_2 S_4)
theorem N7{w0 a0 a0o a1a a1b a1c a1d a1e a1f a2 a2r S0 Q}(h:Jf (AL (En w0)) a0 a0o a1a a1b a1c a1d a1e a1f a2 a2r S0 Q):AC w0 Dc [(.ptr a0 a0o),(.agg [(.int .i64 a1a),(.str a1b),(.int .i64 a1c),(.int .i64 a1d),(.int .i64 a1e),(.str a1f)]),(.vs 2 a2 a2r)] S0 Q:=Ay w0 Tryz.func50 (by kernel_rfl) (by kernel_rfl) h
def H2(Ca:CaT)(a0 a0o:Nat)(a1:Int)(S0:St)(Q:QT):Prop:=
 Ca D9 [(.ptr a0 a0o),(.int .i64 a1)] S0 fun t10 S=>
 AA (AP t10 0) fun t11=>
 AA (AP (AQ t10 0) 1) fun t12=>
 AA (AR A6 (some [(.int .i64 0),(.str []),(.int .i64 0)]) 0 t11) fun b5=>
 AA (AG .neq (AV.strip t12) (.int .i64 0)) fun t14=>
 ifK t14
 (Q (AV.strip t12) S)
 (AA (AM BI S (.ptr a0 (a0o+2))) fun t19=>
 AA (Mn .int S (AV.strip t19) (.int .i64 a1)) fun S_2=>
 Q (.int .i64 0) S_2)
theorem Lg{w0 a0 a0o a1 S0 Q}(h:H2 (AL (En w0)) a0 a0o a1 S0 Q):AC w0 Fb [(.ptr a0 a0o),(.int .i64 a1)] S0 Q:=Ay w0 Tryz.func51 (by kernel_rfl) (by kernel_rfl) h
def NE(Ca:CaT)(a0:List UInt8)(S0:St)(Q:QT):Prop:=
 Ca I4 [(.str a0)] S0 fun t8 S=>
 AA (AP t8 0) fun t9=>
 AA (AP (AQ t8 0) 1) fun t10=>
 AA (AR AT (some AT.zero) 0 t9) fun b4=>
 AA (AG .neq (AV.strip t10) (.int .i64 0)) fun t12=>
 ifK t12
 (Q (.tup [.nil,(AV.flat (AV.strip t10))]) S)
 (AA (AD AT (some b4) 0) fun t14=>
 Ac Ca Kt [(AV.strip t14)] S fun t15 S_2=>
 AA (AP t15 0) fun t16=>
 AA (AP (AQ t15 0) 1) fun t17=>
 Q (.tup [(AV.flat t16),(AV.flat t17)]) S_2)
theorem Tc{w0 a0 S0 Q}(h:NE (AL (En w0)) a0 S0 Q):AC w0 Jx [(.str a0)] S0 Q:=Ay w0 Tryz.func52 (by kernel_rfl) (by kernel_rfl) h
def J8(Ca:CaT)(a0 a0o:Nat)(a1:AV)(S0:St)(Q:QT):Prop:=
 AA (AM AI S0 (.ptr a0 (a0o+0))) fun t12=>
 Ac Ca Gb [(AV.strip t12),(AV.strip a1)] S0 fun t14 S=>
 AA (AP t14 0) fun t15=>
 AA (AP (AQ t14 0) 1) fun t16=>
 AA (AP (AQ (AQ t14 0) 1) 2) fun t17=>
 AA (AR AI (some [(.vs 2 [] .nil),(.int .i64 0)]) 0 t15) fun b5=>
 AA (AD AI (some b5) 0) fun t19=>
 Ac Ca C5 [(.ptr a0 a0o),(AV.strip t19),(AV.strip t16),(AV.strip t17)] S fun t22 S_2=>
 AA (AR AE (some AE.zero) 0 t22) fun b4=>
 AA ((AD AE (some b4) 0).map AV.strip) fun r4=>
 Q r4 S_2
theorem Ot{w0 a0 a0o a1 S0 Q}(h:J8 (AL (En w0)) a0 a0o a1 S0 Q):AC w0 Ef [(.ptr a0 a0o),a1] S0 Q:=Ay w0 Tryz.func53 (by kernel_rfl) (by kernel_rfl) h
def II(Ca:CaT)(a0 a0o:Nat)(a1:Int)(S0:St)(Q:QT):Prop:=
 AA (AM AI S0 (.ptr a0 (a0o+0))) fun t11=>
 Ac Ca FX [(AV.strip t11),(.int .i64 a1)] S0 fun t13 S=>
 AA (AP t13 0) fun t14=>
 AA (AP (AQ t13 0) 1) fun t15=>
 AA (AR AI (some [(.vs 2 [] .nil),(.int .i64 0)]) 0 t14) fun b5=>
 AA (AD AI (some b5) 0) fun t17=>
 Ac Ca C5 [(.ptr a0 a0o),(AV.strip t17),(.int .i64 0),(AV.strip t15)] S fun t19 S_2=>
 AA (AR AE (some AE.zero) 0 t19) fun b4=>
 AA ((AD AE (some b4) 0).map AV.strip) fun r4=>
 Q r4 S_2
theorem Mh{w0 a0 a0o a1 S0 Q}(h:II (AL (En w0)) a0 a0o a1 S0 Q):AC w0 Dp [(.ptr a0 a0o),(.int .i64 a1)] S0 Q:=Ay w0 Tryz.func54 (by kernel_rfl) (by kernel_rfl) h
def Tl(Ca:CaT)(a0a:List (List AV))(a0ar:Rt)(a0b a1a:Int)(a1b:List UInt8)(a1c a1d a1e:Int)(a1f:List UInt8)(S0:St)(Q:QT):Prop:=
 AA (DV AI (.agg [(.vs 2 a0a a0ar),(.int .i64 a0b)])) fun c2=>
 AA (DV Ck (.agg [(.int .i64 a1a),(.str a1b),(.int .i64 a1c),(.int .i64 a1d),(.int .i64 a1e),(.str a1f)])) fun c3=>
 AA (some c3) fun _=>
 AA (AD AU (some c3) 0) fun t9=>
 Ac Ca Nr [(AV.strip t9)] S0 fun t10 S=>
 AA (unA .not t10) fun t11=>
 ifK t11
 (Ca EO [(.int .i64 1)] S fun t12 S_2=>
 AA (AR AE (some AE.zero) 0 t12) fun b4=>
 AA ((AD AE (some b4) 0).map AV.strip) fun r4=>
 Q r4 S_2)
 (AA (AD Ck (some c3) 0) fun t13=>
 Ac Ca He [(AV.strip t13)] S fun t14 S_3=>
 AA (AG .neq (AV.strip t14) (.int .i64 0)) fun t16=>
 ifK t16
 (Ac Ca EO [(AV.strip t14)] S_3 fun t18 S_4=>
 AA (AR AE (some AE.zero) 0 t18) fun b4_2=>
 AA ((AD AE (some b4_2) 0).map AV.strip) fun r4_2=>
 Q r4_2 S_4)
 (AA (AD AI (some c2) 0) fun t20=>
 AA (some c3) fun _=>
 AA (AD AK (some c3) 1) fun t22=>
 AA (some c3) fun _=>
 AA (AD AU (some c3) 0) fun t24=>
 Ac Ca IE [(AV.strip t24)] S_3 fun t25 S_5=>
 Ac Ca JX [(AV.strip t20),(AV.strip t22),t25] S_5 fun t26 S_6=>
 AA (AP t26 0) fun t27=>
 AA (AP (AQ t26 0) 1) fun t28=>
 AA (AR Aa (some Aa.zero) 0 t27) fun b6=>
 AA (AG .neq (AV.strip t28) (.int .i64 0)) fun t30=>
 ifK t30
 (Ac Ca EO [(AV.strip t28)] S_6 fun t32 S_7=>
 AA (AR AE (some AE.zero) 0 t32) fun b4_3=>
 AA ((AD AE (some b4_3) 0).map AV.strip) fun r4_3=>
 Q r4_3 S_7)
 (AA (AD AI (some c2) 0) fun t33=>
 AA (AD Ck (some c3) 0) fun t34=>
 AA (AD Aa (some b6) 0) fun t35=>
 Ac Ca I7 [(AV.strip t33),(AV.strip t34),(AV.strip t35)] S_6 fun t36 S_8=>
 AA (AR AE (some AE.zero) 0 t36) fun b4_4=>
 AA ((AD AE (some b4_4) 0).map AV.strip) fun r4_4=>
 Q r4_4 S_8)))
theorem Xk{w0 a0a a0ar a0b a1a a1b a1c a1d a1e a1f S0 Q}(h:Tl (AL (En w0)) a0a a0ar a0b a1a a1b a1c a1d a1e a1f S0 Q):AC w0 Nw [(.agg [(.vs 2 a0a a0ar),(.int .i64 a0b)]),(.agg [(.int .i64 a1a),(.str a1b),(.int .i64 a1c),(.int .i64 a1d),(.int .i64 a1e),(.str a1f)])] S0 Q:=Ay w0 Tryz.func55 (by kernel_rfl) (by kernel_rfl) h
def Qw(Ca:CaT)(a0a:List (List AV))(a0ar:Rt)(a0b:Int)(a1:List UInt8)(a2:Bool)(S0:St)(Q:QT):Prop:=
 AA (DV AI (.agg [(.vs 2 a0a a0ar),(.int .i64 a0b)])) fun c3=>
 AA (AD AI (some c3) 0) fun t19=>
 Ac Ca Ls [(AV.strip t19)] S0 fun t20 S=>
 Ac Ca N6 [t20,(.str a1),(.bool a2)] S fun t23 S_2=>
 AA (AP t23 0) fun t24=>
 AA (AP (AQ t23 0) 1) fun t25=>
 AA (AG .neq (AV.strip t25) (.int .i64 0)) fun t27=>
 ifK t27
 (Q (.tup [(.agg Aa.zero),(AV.flat (AV.strip t25))]) S_2)
 (CJ ([],[(some c3),(some Aa.zero)]) (fun v bx=>([],[bx 3,bx 6])) (fun nx v bx S_3=>
 Ac Ca FH [(AV.strip t24)] S_3 fun t32 S_4=>
 AA (AP t32 0) fun t33=>
 AA (AP (AQ t32 0) 1) fun t34=>
 AA (AP (AQ (AQ t32 0) 1) 2) fun t35=>
 AA (AP (AQ (AQ (AQ t32 0) 1) 2) 3) fun t36=>
 AA (unA .not (AV.strip t36)) fun t38=>
 ifK t38
 (Ac Ca FQ [(AV.strip t24)] S_4 fun t40 S_5=>
 AA (AR Aa (bx 6) 0 t40) fun b6=>
 AA ((AD Aa (some b6) 0).map AV.strip) fun r6=>
 Q (.tup [(AV.flat r6),(.int .i64 0)]) S_5)
 (AA (AD AI (bx 3) 0) fun t42=>
 Ac Ca ML [(AV.strip t42),(AV.strip t34),(AV.strip t35)] S_4 fun t45 S_6=>
 AA (AP t45 0) fun t46=>
 AA (AP (AQ t45 0) 1) fun t47=>
 AA (AR BS (some BS.zero) 0 t46) fun b14=>
 AN (fun (x16:AV) (S_9:St)=>
 AA (AD BS (some b14) 0) fun t64=>
 Ac Ca Er [(AV.strip t24),(AV.strip t64),(AV.strip t47),(AV.strip x16)] S_9 fun t67 S_10=>
 AA (AG .neq (AV.strip t67) (.int .i64 0)) fun t69=>
 ifK t69
 (AA (AR Aa (bx 6) 0 (.agg Aa.zero)) fun b6_2=>
 AA ((AD Aa (some b6_2) 0).map AV.strip) fun r6_2=>
 Q (.tup [(AV.flat r6_2),(AV.flat (AV.strip t67))]) S_10)
 (nx ([],[(bx 3),(bx 6)]) S_10)) fun j_2=>
 AN (fun (x52:AV)=>
 AA (As (AV.strip (AV.strip t47)) x52 (.bool false)) fun t53=>
 ifK (AV.strip t53)
 (AA (AD AI (bx 3) 0) fun t54=>
 AA (some b14) fun _=>
 AA (some b14) fun _=>
 AA (AD AU (some b14) 1) fun t57=>
 AA (some b14) fun _=>
 AA (some b14) fun _=>
 AA (AD AU (some b14) 2) fun t61=>
 Ac Ca Cu [(AV.strip t54),(AV.strip t57)] S_6 fun t58 S_7=>
 Ac Ca Dt [t58,(AV.strip t61)] S_7 fun t62 S_8=>
 j_2 t62 S_8)
 (j_2 (.str []) S_6)) fun j=>
 ifK (AV.strip (AV.strip t47))
 (AA (some b14) fun _=>
 AA (AD AU (some b14) 0) fun t51=>
 AA (AG .eql (AV.strip t51) (.int .i64 3)) fun t52=>
 j t52)
 (j (.tup [])))) S_2)
theorem Wh{w0 a0a a0ar a0b a1 a2 S0 Q}(h:Qw (AL (En w0)) a0a a0ar a0b a1 a2 S0 Q):AC w0 JX [(.agg [(.vs 2 a0a a0ar),(.int .i64 a0b)]),(.str a1),(.bool a2)] S0 Q:=Ay w0 Tryz.func56 (by kernel_rfl) (by kernel_rfl) h
def PE(Ca:CaT)(a0a:List (List AV))(a0ar:Rt)(a0b:Int)(a1:List (List AV))(a1r:Rt)(S0:St)(Q:QT):Prop:=
 AA (DV AI (.agg [(.vs 2 a0a a0ar),(.int .i64 a0b)])) fun c2=>
 AA (DK AX false S0 (.int .i64 (List.length a1:Int)) (.int .i64 (List.length a1:Int))) fun p19=>
 AN (fun (y2:Option (List AV)) (S_6:St)=>
 AN (fun (x9_2:AV) (S_14:St)=>
 Q (AV.strip x9_2) S_14) fun j_3=>
 Ac Ca IT [(AV.strip p19.1)] S_6 fun t42 S_7=>
 Ac Ca Kw [t42] S_7 fun t43 S_8=>
 AA (Bb t43) fun t44=>
 CJ ([(.vs 2 [] .nil),(.int .i64 0)],[y2]) (fun v_2 bx_2=>([v_2 9,v_2 45],[bx_2 2])) (fun nx_2 v_2 bx_2 S_9=>
 AA (AG .lss (v_2 45) t44) fun t46=>
 ifK t46
 (AN (fun (x9:AV) (S_13:St)=>
 AA (AG .add (v_2 45) (.int .i64 1)) fun t83=>
 nx_2 ([x9,(AV.strip t83)],[(bx_2 2)]) S_13) fun j_2=>
 AA (AZ A4 t43 (v_2 45)) fun t47=>
 AA (AM A4 S_9 t47) fun t48=>
 AA (AR A4 (some [(.str []),(.int .i64 0)]) 0 (AV.strip t48)) fun b11=>
 AA (AD AI (bx_2 2) 0) fun t49=>
 AA (some b11) fun _=>
 AA (AD AU (some b11) 1) fun t52=>
 AA (AZ BE (.vs 2 a1 (Rt.strip a1r)) (AV.strip t52)) fun t53=>
 AA (Dg t53 0) fun t54=>
 AA (AM AU S_9 t54) fun t55=>
 AA (some b11) fun _=>
 AA (AD AU (some b11) 1) fun t59=>
 AA (AZ BE (.vs 2 a1 (Rt.strip a1r)) (AV.strip t59)) fun t60=>
 AA (Dg t60 1) fun t61=>
 AA (AM AU S_9 t61) fun t62=>
 Ac Ca Cu [(AV.strip t49),(AV.strip t55)] S_9 fun t56 S_10=>
 (AA (AM AU S_10 t61) fun t62_2=>
 ((AV.strip t62_2):AV)=(AV.strip t62))∧
 (AA (some b11) fun _=>
 AA (AD AK (some b11) 0) fun t67=>
 Ac Ca EH [(AV.strip t56),(AV.strip (AV.strip t62)),(AV.strip t67)] S_10 fun t68 S_11=>
 AA (AP t68 0) fun t69=>
 AA (AP (AQ t68 0) 1) fun t70=>
 Ac Ca EJ [(AV.strip t56),(AV.strip t69)] S_11 fun t73 S_12=>
 AA (AG .neq (AV.strip t73) (.int .i64 4)) fun t75=>
 ifK t75
 (AA (some b11) fun _=>
 AA (AD AK (some b11) 0) fun t78=>
 AA (B3 BM 1 [(0,(AV.strip t78)),(1,(AV.strip t73))]) fun t80=>
 AA (Cj 2 [t80]) fun e81=>
 AA (A3 BM S_12 (v_2 9) (.vs 2 e81 .full)) fun t82=>
 j_2 t82 S_12)
 (j_2 (v_2 9) S_12)))
 (j_3 (v_2 9) S_9)) S_8) fun j_4=>
 CJ ([(.int .i64 0)],[(some c2)]) (fun v bx=>([v 22],[bx 2])) (fun nx v bx S=>
 AA (AG .lss (v 22) (.int .i64 (List.length a1:Int))) fun t23=>
 ifK t23
 (AN (fun (S_5:St)=>
 AA (AG .add (v 22) (.int .i64 1)) fun t40=>
 nx ([(AV.strip t40)],[(bx 2)]) S_5) fun j=>
 AA (AZ BE (.vs 2 a1 (Rt.strip a1r)) (v 22)) fun t25=>
 AA (AM BE S t25) fun t26=>
 AA (AR BE (some [(.int .i64 0),(.int .i64 0)]) 0 (AV.strip t26)) fun b7=>
 AA (AD AI (bx 2) 0) fun t27=>
 AA (some b7) fun _=>
 AA (AD AU (some b7) 0) fun t29=>
 Ac Ca Cu [(AV.strip t27),(AV.strip t29)] S fun t30 S_2=>
 AA (HI .ptr .neq (AV.strip t30) .nil) fun t32=>
 ifK t32
 (AA (some b7) fun _=>
 AA (AD AU (some b7) 1) fun t37=>
 Ac Ca FD [(AV.strip t30),(AV.strip t37)] S_2 fun t38 S_3=>
 AA (AZ AX (AV.strip p19.1) (AV.strip (AV.strip (v 22)))) fun t39=>
 AA (BC AX S_3 t39 t38) fun S_4=>
 j S_4)
 (j S_2))
 (j_4 (bx 2) S)) p19.2
theorem UE{w0 a0a a0ar a0b a1 a1r S0 Q}(h:PE (AL (En w0)) a0a a0ar a0b a1 a1r S0 Q):AC w0 LJ [(.agg [(.vs 2 a0a a0ar),(.int .i64 a0b)]),(.vs 2 a1 a1r)] S0 Q:=Ay w0 Tryz.func57 (by kernel_rfl) (by kernel_rfl) h
def IH(Ca:CaT)(a0 a0o:Nat)(a1:Int)(a2:List UInt8)(S0:St)(Q:QT):Prop:=
 AA (AM BI S0 (.ptr a0 (a0o+2))) fun t11=>
 AA (Ms S0 (AV.strip t11)) fun t12=>
 AA (AM AU S0 (.ptr a0 (a0o+0))) fun t16=>
 AA (AG .geq t12 (AV.strip t16)) fun t17=>
 ifK t17
 (Q (.tup [(.int .i64 0),(.int .i64 7)]) S0)
 (AA (AM AU S0 (.ptr a0 (a0o+1))) fun t21=>
 AA (AG .add (AV.strip t21) (.int .i64 1)) fun t22=>
 AA (BC AU S0 (.ptr a0 (a0o+1)) t22) fun S=>
 AA (AM BI S (.ptr a0 (a0o+2))) fun t28=>
 AA (AM AU S (.ptr a0 (a0o+1))) fun t32=>
 AA (Ep .int S (AV.strip t28) (AV.strip t32) (.agg [(.int .i64 a1),(.str a2),(.int .i64 0)])) fun S_2=>
 AA (AM AU S_2 (.ptr a0 (a0o+1))) fun t39=>
 Q (.tup [(AV.flat (AV.strip t39)),(.int .i64 0)]) S_2)
theorem MK{w0 a0 a0o a1 a2 S0 Q}(h:IH (AL (En w0)) a0 a0o a1 a2 S0 Q):AC w0 Fj [(.ptr a0 a0o),(.int .i64 a1),(.str a2)] S0 Q:=Ay w0 Tryz.func58 (by kernel_rfl) (by kernel_rfl) h
def I1(Ca:CaT)(a0 a0o:Nat)(a1:Int)(S0:St)(Q:QT):Prop:=
 AA (AM BI S0 (.ptr a0 (a0o+2))) fun t12=>
 AA (Jj .int A6 S0 (AV.strip t12) (.int .i64 a1)) fun p14=>
 AA (AP (AQ (.tup [p14.1,.bool p14.2]) 0) 1) fun t16=>
 AA (AR A6 (some [(.int .i64 0),(.str []),(.int .i64 0)]) 0 p14.1) fun b6=>
 AA (unA .not (AV.strip t16)) fun t18=>
 ifK t18
 (Q (.tup [(.agg [(.int .i64 0),(.str []),(.int .i64 0)]),(.int .i64 9)]) S0)
 (AA (AD A6 (some b6) 0) fun t20=>
 AA (AR A6 (some [(.int .i64 0),(.str []),(.int .i64 0)]) 0 (AV.strip t20)) fun b4=>
 AA ((AD A6 (some b4) 0).map AV.strip) fun r4=>
 Q (.tup [(AV.flat r4),(.int .i64 0)]) S0)
theorem M6{w0 a0 a0o a1 S0 Q}(h:I1 (AL (En w0)) a0 a0o a1 S0 Q):AC w0 D9 [(.ptr a0 a0o),(.int .i64 a1)] S0 Q:=Ay w0 Tryz.func59 (by kernel_rfl) (by kernel_rfl) h
def O8(Ca:CaT)(a0:List (List AV))(a0r:Rt)(a1 a2:Int)(S0:St)(Q:QT):Prop:=
 AA (WE [(.int .i64 (if 0 > a2 then 0 else a2)),(.int .i64 (IntKind.i64.wrap ((List.length a0:Int) - (if (List.length a0:Int) < (if 0 > a1 then 0 else a1) then (List.length a0:Int) else (if 0 > a1 then 0 else a1)))))]) fun t21=>
 AA (AG .add (.int .i64 (if (List.length a0:Int) < (if 0 > a1 then 0 else a1) then (List.length a0:Int) else (if 0 > a1 then 0 else a1))) t21) fun t22=>
 AA (Dm BM (.vs 2 a0 a0r) (some (.int .i64 (if (List.length a0:Int) < (if 0 > a1 then 0 else a1) then (List.length a0:Int) else (if 0 > a1 then 0 else a1)))) (some (AV.strip t22)) none) fun t26=>
 AA (A3 BM S0 (.vs 2 [] .nil) t26) fun t27=>
 AA (AG .eql (AV.strip t22) (.int .i64 (List.length a0:Int))) fun t31=>
 Q (.tup [(AV.flat t27),(AV.flat t31)]) S0
theorem T9{w0 a0 a0r a1 a2 S0 Q}(h:O8 (AL (En w0)) a0 a0r a1 a2 S0 Q):AC w0 LF [(.vs 2 a0 a0r),(.int .i64 a1),(.int .i64 a2)] S0 Q:=Ay w0 Tryz.func60 (by kernel_rfl) (by kernel_rfl) h
def IF(Ca:CaT)(a0 a0o:Nat)(a1 a2:Int)(S0:St)(Q:QT):Prop:=
 Ca D9 [(.ptr a0 a0o),(.int .i64 a1)] S0 fun t12 S=>
 AA (AP t12 0) fun t13=>
 AA (AP (AQ t12 0) 1) fun t14=>
 AA (AR A6 (some [(.int .i64 0),(.str []),(.int .i64 0)]) 0 t13) fun b7=>
 AA (AG .neq (AV.strip t14) (.int .i64 0)) fun t16=>
 ifK t16
 (Q (AV.strip t14) S)
 (AA (some b7) fun _=>
 AA (AD AU (some b7) 2) fun t19=>
 AA (AG .add (AV.strip t19) (.int .i64 a2)) fun t21=>
 AA (some b7) fun _=>
 AA (AR AU (some b7) 2 t21) fun b7_2=>
 AA (AM BI S (.ptr a0 (a0o+2))) fun t26=>
 AA (AD A6 (some b7_2) 0) fun t28=>
 AA (Ep .int S (AV.strip t26) (.int .i64 a1) (AV.strip t28)) fun S_2=>
 Q (.int .i64 0) S_2)
theorem MS{w0 a0 a0o a1 a2 S0 Q}(h:IF (AL (En w0)) a0 a0o a1 a2 S0 Q):AC w0 Fl [(.ptr a0 a0o),(.int .i64 a1),(.int .i64 a2)] S0 Q:=Ay w0 Tryz.func61 (by kernel_rfl) (by kernel_rfl) h
def NZ(Ca:CaT)(a0:List (List AV))(a0r:Rt)(S0:St)(Q:QT):Prop:=
 AA (DK AK false S0 (.int .i64 0) (.int .i64 (List.length a0:Int))) fun p8=>
 AN (fun (x3:AV) (S_2:St)=>
 Q (AV.strip x3) S_2) fun j=>
 CJ ([p8.1,(.int .i64 0)],[]) (fun v bx=>([v 3,v 11],[])) (fun nx v bx S=>
 AA (AG .lss (v 11) (.int .i64 (List.length a0:Int))) fun t12=>
 ifK t12
 (AA (AZ BM (.vs 2 a0 (Rt.strip a0r)) (v 11)) fun t13=>
 AA (AM BM S t13) fun t14=>
 AA (AR BM (some [(.str []),(.int .i64 0)]) 0 (AV.strip t14)) fun b5=>
 AA (some b5) fun _=>
 AA (AD AK (some b5) 0) fun t17=>
 AA (Cj 1 [(AV.strip t17)]) fun e18=>
 AA (A3 AK S (v 3) (.vs 1 e18 .full)) fun t19=>
 AA (AG .add (v 11) (.int .i64 1)) fun t20=>
 nx ([t19,(AV.strip t20)],[]) S)
 (j (v 3) S)) p8.2
theorem Sp{w0 a0 a0r S0 Q}(h:NZ (AL (En w0)) a0 a0r S0 Q):AC w0 Jy [(.vs 2 a0 a0r)] S0 Q:=Ay w0 Tryz.func62 (by kernel_rfl) (by kernel_rfl) h
def L6(Ca:CaT)(a0:List UInt8)(S0:St)(Q:QT):Prop:=
 AN (fun (x12:AV)=>
 AA (As (.bool (decide ((List.length a0:Int) > 4194304))) (.bool true) x12) fun t13=>
 AN (fun (x17:AV)=>
 AA (As (AV.strip (AV.strip t13)) (.bool true) x17) fun t18=>
 ifK (AV.strip t18)
 (Q (.tup [(.agg AT.zero),(.int .i64 1)]) S0)
 (AA (DA (.str a0) (some (.int .i64 7)) none) fun t21=>
 Ac Ca Q7 [t21] S0 fun t22 S=>
 AA (B3 Da 1 [(0,t22),(2,(.int .i64 4096))]) fun t23=>
 AA (DV Da t23) fun c24=>
 Ca EV [(.ptr S.length 0),(.int .i64 0)] (S++[Obj.cells c24 BK]) fun t26 S_2=>
 AA (AR AT (some AT.zero) 0 t26) fun b5=>
 AA (AM Dh S_2 (.ptr S.length 1)) fun t30=>
 AN (fun (x37:AV) (S_4:St)=>
 AA (As (AV.strip (AV.strip t30)) (.bool true) x37) fun t38=>
 AN (fun (x42:AV) (S_6:St)=>
 AA (As (AV.strip (AV.strip t38)) (.bool true) x42) fun t43=>
 ifK (AV.strip t43)
 (Q (.tup [(.agg AT.zero),(.int .i64 1)]) S_6)
 (AA (AD AT (some b5) 0) fun t45=>
 AA (AR AT (some AT.zero) 0 (AV.strip t45)) fun b2=>
 AA ((AD AT (some b2) 0).map AV.strip) fun r2=>
 Q (.tup [(AV.flat r2),(.int .i64 0)]) S_6)) fun j_3=>
 ifK (AV.strip (AV.strip t38))
 (j_3 (.tup []) S_4)
 (AA (AD AT (some b5) 0) fun t40=>
 Ac Ca IU [(AV.strip t40)] S_4 fun t41 S_5=>
 AA (unA .not t41) fun t42=>
 j_3 t42 S_5)) fun j_4=>
 ifK (AV.strip (AV.strip t30))
 (j_4 (.tup []) S_2)
 (AA (AM C8 S_2 (.ptr S.length 0)) fun t35=>
 Ac Ca Ii [(AV.strip t35)] S_2 fun t36 S_3=>
 AA (AG .gtr t36 (.int .i64 0)) fun t37=>
 j_4 t37 S_3))) fun j=>
 ifK (AV.strip (AV.strip t13))
 (j (.tup []))
 (AA (DA (.str a0) none (some (.int .i64 7))) fun t16=>
 AA (AG .neq t16 (.str [115,111,99,97,103,101,49])) fun t17=>
 j t17)) fun j_2=>
 ifK (.bool (decide ((List.length a0:Int) > 4194304)))
 (j_2 (.tup []))
 (j_2 (.bool (decide ((List.length a0:Int) < 7))))
theorem Rv{w0 a0 S0 Q}(h:L6 (AL (En w0)) a0 S0 Q):AC w0 I4 [(.str a0)] S0 Q:=Ay w0 Tryz.func63 (by kernel_rfl) (by kernel_rfl) h
def Pf(Ca:CaT)(a0a:Int)(a0b:Bool)(a0c:List (List AV))(a0cr:Rt)(a0d:List (List AV))(a0dr:Rt)(a0e:Int)(a0f:List (List AV))(a0fr:Rt)(a0g:List UInt8)(S0:St)(Q:QT):Prop:=
 AA (DV AT (.agg [(.int .i64 a0a),(.bool a0b),(.vs 1 a0c a0cr),(.vs 7 a0d a0dr),(.int .i64 a0e),(.vs 2 a0f a0fr),(.str a0g)])) fun c1=>
 AA (AD AT (some c1) 0) fun t5=>
 Ac Ca IU [(AV.strip t5)] S0 fun t6 S=>
 AA (unA .not t6) fun t7=>
 ifK t7
 (Q (.tup [.nil,(.int .i64 1)]) S)
 (AA (DV Dj (.agg [(.vs 8 [] .nil)])) fun c9=>
 AA (AD AT (some c1) 0) fun t11=>
 Ac Ca EU [(.ptr S.length 0),(AV.strip t11)] (S++[Obj.cells c9 CS]) fun t12 S_2=>
 Q (.tup [(.ptr S.length 0),(.int .i64 0)]) S_2)
theorem Uu{w0 a0a a0b a0c a0cr a0d a0dr a0e a0f a0fr a0g S0 Q}(h:Pf (AL (En w0)) a0a a0b a0c a0cr a0d a0dr a0e a0f a0fr a0g S0 Q):AC w0 Kt [(.agg [(.int .i64 a0a),(.bool a0b),(.vs 1 a0c a0cr),(.vs 7 a0d a0dr),(.int .i64 a0e),(.vs 2 a0f a0fr),(.str a0g)])] S0 Q:=Ay w0 Tryz.func64 (by kernel_rfl) (by kernel_rfl) h
def Jb(Ca:CaT)(a0a:List (List AV))(a0ar:Rt)(a0b:Int)(a1:AV)(S0:St)(Q:QT):Prop:=
 AA (DV AI (.agg [(.vs 2 a0a a0ar),(.int .i64 a0b)])) fun c2=>
 AA (some c2) fun _=>
 AA (AD BZ (some c2) 0) fun t8=>
 AA (Bb (AV.strip t8)) fun t9=>
 AA (AG .geq t9 (.int .i64 64)) fun t10=>
 ifK t10
 (AA (AD AI (some c2) 0) fun t11=>
 AA (AR AI (some [(.vs 2 [] .nil),(.int .i64 0)]) 0 (AV.strip t11)) fun b4=>
 AA ((AD AI (some b4) 0).map AV.strip) fun r4=>
 Q (.tup [(AV.flat r4),(.int .i64 0),(.int .i64 6)]) S0)
 (AA (some c2) fun _=>
 AA (AD AU (some c2) 1) fun t13=>
 AA (B3 CI 1 [(0,(AV.strip t13)),(1,(AV.strip a1))]) fun t15=>
 AA (Cj 2 [t15]) fun e16=>
 AA (some c2) fun _=>
 AA (AD BZ (some c2) 0) fun t18=>
 AA (some c2) fun _=>
 AA (AD AU (some c2) 1) fun t21=>
 AA (AG .add (AV.strip t21) (.int .i64 1)) fun t22=>
 AA (some c2) fun _=>
 AA (AD AU (some c2) 1) fun t25=>
 AA (A3 CI S0 (.vs 2 e16 .full) (AV.strip t18)) fun t19=>
 AA (B3 AI 1 [(0,t19),(1,t22)]) fun t23=>
 AA (AR AI (some [(.vs 2 [] .nil),(.int .i64 0)]) 0 t23) fun b4_2=>
 AA ((AD AI (some b4_2) 0).map AV.strip) fun r4_2=>
 Q (.tup [(AV.flat r4_2),(AV.flat (AV.strip t25)),(.int .i64 0)]) S0)
theorem OF{w0 a0a a0ar a0b a1 S0 Q}(h:Jb (AL (En w0)) a0a a0ar a0b a1 S0 Q):AC w0 Gb [(.agg [(.vs 2 a0a a0ar),(.int .i64 a0b)]),a1] S0 Q:=Ay w0 Tryz.func65 (by kernel_rfl) (by kernel_rfl) h
def IK(Ca:CaT)(a0 a0o:Nat)(a1a:List (List AV))(a1ar:Rt)(a1b a2 a3:Int)(S0:St)(Q:QT):Prop:=
 AA (DV AI (.agg [(.vs 2 a1a a1ar),(.int .i64 a1b)])) fun c5=>
 ifK (.bool (a3 != 0))
 (Q (.agg [(.int .i64 a3),(.int .i64 0),(.int .i64 0),(.int .i64 0),(.int .i64 0),(.str []),(.vs 1 [] .nil),(.bool false)]) S0)
 (AA (AD AI (some c5) 0) fun t15=>
 AA (AM AU S0 (.ptr a0 (a0o+2))) fun t19=>
 AA (AG .add (AV.strip t19) (.int .i64 1)) fun t20=>
 AA (BC AI S0 (.ptr a0 (a0o+0)) (AV.strip t15)) fun S=>
 AA (BC AU S (.ptr a0 (a0o+2)) t20) fun S_2=>
 Q (.agg [(.int .i64 0),(.int .i64 0),(.int .i64 0),(.int .i64 0),(.int .i64 a2),(.str []),(.vs 1 [] .nil),(.bool false)]) S_2)
theorem L2{w0 a0 a0o a1a a1ar a1b a2 a3 S0 Q}(h:IK (AL (En w0)) a0 a0o a1a a1ar a1b a2 a3 S0 Q):AC w0 C5 [(.ptr a0 a0o),(.agg [(.vs 2 a1a a1ar),(.int .i64 a1b)]),(.int .i64 a2),(.int .i64 a3)] S0 Q:=Ay w0 Tryz.func66 (by kernel_rfl) (by kernel_rfl) h
end Go.Av
