/- Parts of the proofs of this seat: abstract values over the model, and what the functions of the program do. No condition. -/
import Derived.Test.YtehadbpejfjheaaGreatDoorM7
import Derived.Test.YtehadbpejfjheaaGreatDoorM6
import Derived.Test.YtehadbpejfjheaaGreatDoorProg
import Derived.KernelRfl
set_option linter.all false
set_option maxRecDepth 100000
namespace Go.Av
open Go.Proofs
abbrev Dp:Nat:=3
abbrev O8:Nat:=5
abbrev C3:Nat:=9
abbrev JH:Nat:=40
abbrev P3:Nat:=42
abbrev GQ:Nat:=53
abbrev NJ:Nat:=78
abbrev L4:Nat:=91
abbrev Bo:Nat:=168
abbrev Cd:Nat:=191
abbrev FP:Nat:=210
abbrev CQ:Nat:=231
abbrev DN:Nat:=6
abbrev J1:Nat:=12
abbrev Ic:Nat:=13
abbrev IF:Nat:=15
abbrev Hn:Nat:=23
abbrev Hu:Nat:=24
abbrev EB:Nat:=25
abbrev Er:Nat:=26
abbrev GM:Nat:=27
abbrev JO:Nat:=28
abbrev Fc:Nat:=29
abbrev JS:Nat:=30
abbrev JB:Nat:=31
abbrev DV:Nat:=33
abbrev Jx:Nat:=35
abbrev GV:Nat:=39
abbrev GT:Nat:=40
abbrev L3:Nat:=41
abbrev EM:Nat:=42
abbrev EY:Nat:=43
abbrev D0:Nat:=44
abbrev KY:Nat:=45
abbrev DL:Nat:=46
abbrev DD:Nat:=47
abbrev KU:Nat:=59
abbrev Dc:Nat:=60
abbrev F8:Nat:=61
abbrev Ee:Nat:=62
abbrev Eb:Nat:=63
abbrev I7:Nat:=64
abbrev Fe:Nat:=65
abbrev CK:Nat:=66
abbrev CW:Nat:=67
abbrev DC:Nat:=70
abbrev GO:Nat:=74
abbrev IA:Nat:=75
abbrev GS:Nat:=76
abbrev GW:Nat:=77
abbrev FY:Nat:=78
abbrev Do:Nat:=79
abbrev E8:Nat:=80
abbrev HD:Nat:=81
abbrev EW:Nat:=82
abbrev EV:Nat:=83
abbrev CB:Nat:=84
abbrev GP:Nat:=87
abbrev J2:Nat:=96
abbrev IU:Nat:=97
abbrev JE:Nat:=98
abbrev Dd:Nat:=99
abbrev J8:Nat:=105
abbrev Jd:Nat:=106
abbrev HB:Nat:=107
abbrev CI:Nat:=108
abbrev GR:Nat:=111
abbrev JW:Nat:=113
abbrev Ch:Nat:=122
abbrev Bu:Nat:=123
abbrev GH:Nat:=124
abbrev Es:Nat:=125
abbrev HK:Nat:=126
abbrev CC:Nat:=127
abbrev IS:Nat:=130
abbrev Gv:Nat:=131
abbrev F0:Nat:=133
abbrev Ff:Nat:=134
abbrev EF:Nat:=135
abbrev Nc:Nat:=141
abbrev EJ:Nat:=144
abbrev Kd:Nat:=148
abbrev Hv:Nat:=149
abbrev JC:Nat:=150
abbrev E7:Nat:=157
abbrev NB:Nat:=213
abbrev Nk:Nat:=214
abbrev Mt:Nat:=215
def QB:TI:={size:=1,bytes:=8,agg:=false,zero:=[.nilfn],kind:=.func,id:=1}
@[simp] theorem aJ:QB.size=1:=rfl
@[simp] theorem dW:QB.agg=false∧QB.zero=[.nilfn]∧QB.kind= .func:=⟨rfl,rfl,rfl⟩
def M7:TI:={size:=1,bytes:=8,agg:=false,zero:=[.int .i64 0],kind:=.int .i64,id:=2}
@[simp] theorem ZJ:M7.size=1:=rfl
@[simp] theorem cT:M7.agg=false∧M7.zero=[.int .i64 0]∧M7.kind= .int .i64:=⟨rfl,rfl,rfl⟩
def AR:TI:={size:=1,bytes:=8,agg:=false,zero:=[.int .i64 0],kind:=.int .i64,id:=3}
@[simp] theorem aw:AR.size=1:=rfl
@[simp] theorem eZ:AR.agg=false∧AR.zero=[.int .i64 0]∧AR.kind= .int .i64:=⟨rfl,rfl,rfl⟩
@[simp] theorem eL:AR.id=Dp:=rfl
def G4:TI:={size:=1,bytes:=1,agg:=false,zero:=[.bool false],kind:=.bool,id:=4}
@[simp] theorem aG:G4.size=1:=rfl
@[simp] theorem d8:G4.agg=false∧G4.zero=[.bool false]∧G4.kind= .bool:=⟨rfl,rfl,rfl⟩
def IB:TI:={size:=1,bytes:=1,agg:=false,zero:=[.int .u8 0],kind:=.int .u8,id:=5}
@[simp] theorem ZL:IB.size=1:=rfl
@[simp] theorem cw:IB.agg=false∧IB.zero=[.int .u8 0]∧IB.kind= .int .u8:=⟨rfl,rfl,rfl⟩
@[simp] theorem am:IB.id=O8:=rfl
def Ci:TI:={size:=1,bytes:=1,agg:=false,zero:=[.int .u8 0],kind:=.int .u8,id:=6}
@[simp] theorem P4:Ci.size=1:=rfl
@[simp] theorem Ry:Ci.agg=false∧Ci.zero=[.int .u8 0]∧Ci.kind= .int .u8:=⟨rfl,rfl,rfl⟩
def AZ:TI:={size:=4,bytes:=24,agg:=true,zero:=[.int .i64 0,.int .i64 0,.bool false,.int .u8 0],kind:=.struct [(0,2,1),(1,3,1),(2,4,1),(3,6,1)],id:=7}
@[simp] theorem FF:AZ.size=4:=rfl
@[simp] theorem Fs:AZ.agg=true∧AZ.zero=[.int .i64 0,.int .i64 0,.bool false,.int .u8 0]∧AZ.kind= .struct [(0,2,1),(1,3,1),(2,4,1),(3,6,1)]:=⟨rfl,rfl,rfl⟩
def Cf:TI:={size:=4,bytes:=24,agg:=true,zero:=[.int .i64 0,.int .i64 0,.bool false,.int .u8 0],kind:=.struct [(0,2,1),(1,3,1),(2,4,1),(3,6,1)],id:=8}
@[simp] theorem Pv:Cf.size=4:=rfl
@[simp] theorem Rl:Cf.agg=true∧Cf.zero=[.int .i64 0,.int .i64 0,.bool false,.int .u8 0]∧Cf.kind= .struct [(0,2,1),(1,3,1),(2,4,1),(3,6,1)]:=⟨rfl,rfl,rfl⟩
def AM:TI:={size:=1,bytes:=16,agg:=false,zero:=[.str []],kind:=.str,id:=9}
@[simp] theorem ZG:AM.size=1:=rfl
@[simp] theorem az:AM.agg=false∧AM.zero=[.str []]∧AM.kind= .str:=⟨rfl,rfl,rfl⟩
@[simp] theorem ab:AM.id=C3:=rfl
def Ce:TI:={size:=1,bytes:=16,agg:=false,zero:=[.str []],kind:=.str,id:=10}
@[simp] theorem QF:Ce.size=1:=rfl
@[simp] theorem Re:Ce.agg=false∧Ce.zero=[.str []]∧Ce.kind= .str:=⟨rfl,rfl,rfl⟩
def Ix:TI:={size:=1,bytes:=8,agg:=false,zero:=[.int .u64 0],kind:=.int .u64,id:=12}
@[simp] theorem Yc:Ix.size=1:=rfl
@[simp] theorem aL:Ix.agg=false∧Ix.zero=[.int .u64 0]∧Ix.kind= .int .u64:=⟨rfl,rfl,rfl⟩
def CM:TI:={size:=1,bytes:=8,agg:=false,zero:=[.nil],kind:=.ptr 307,id:=16}
@[simp] theorem Nz:CM.size=1:=rfl
@[simp] theorem O2:CM.agg=false∧CM.zero=[.nil]∧CM.kind= .ptr 307:=⟨rfl,rfl,rfl⟩
def Fl:TI:={size:=1,bytes:=8,agg:=false,zero:=[.nil],kind:=.ptr 314,id:=17}
@[simp] theorem WV:Fl.size=1:=rfl
@[simp] theorem YT:Fl.agg=false∧Fl.zero=[.nil]∧Fl.kind= .ptr 314:=⟨rfl,rfl,rfl⟩
def GX:TI:={size:=1,bytes:=16,agg:=false,zero:=[.nilifc],kind:=.iface,id:=20}
@[simp] theorem XW:GX.size=1:=rfl
@[simp] theorem ZF:GX.agg=false∧GX.zero=[.nilifc]∧GX.kind= .iface:=⟨rfl,rfl,rfl⟩
def Md:TI:={size:=1,bytes:=4,agg:=false,zero:=[.int .i32 0],kind:=.int .i32,id:=21}
@[simp] theorem ZV:Md.size=1:=rfl
@[simp] theorem cN:Md.agg=false∧Md.zero=[.int .i32 0]∧Md.kind= .int .i32:=⟨rfl,rfl,rfl⟩
def C5:TI:={size:=1,bytes:=24,agg:=false,zero:=[.vs 4 [] .nil],kind:=.slice 33,id:=22}
@[simp] theorem RG:C5.size=1:=rfl
@[simp] theorem TW:C5.agg=false∧C5.zero=[.vs 4 [] .nil]∧C5.kind= .slice 33:=⟨rfl,rfl,rfl⟩
def Gl:TI:={size:=1,bytes:=8,agg:=false,zero:=[.nilfn],kind:=.func,id:=23}
@[simp] theorem XG:Gl.size=1:=rfl
@[simp] theorem ZB:Gl.agg=false∧Gl.zero=[.nilfn]∧Gl.kind= .func:=⟨rfl,rfl,rfl⟩
def Bl:TI:={size:=1,bytes:=24,agg:=false,zero:=[.vs 2 [] .nil],kind:=.slice 174,id:=24}
@[simp] theorem Tf:Bl.size=1:=rfl
@[simp] theorem WE:Bl.agg=false∧Bl.zero=[.vs 2 [] .nil]∧Bl.kind= .slice 174:=⟨rfl,rfl,rfl⟩
def BV:TI:={size:=2,bytes:=32,agg:=true,zero:=[.vs 2 [] .nil,.int .i64 0],kind:=.struct [(0,24,1),(1,3,1)],id:=25}
@[simp] theorem KD:BV.size=2:=rfl
@[simp] theorem LX:BV.agg=true∧BV.zero=[.vs 2 [] .nil,.int .i64 0]∧BV.kind= .struct [(0,24,1),(1,3,1)]:=⟨rfl,rfl,rfl⟩
def AH:TI:={size:=2,bytes:=32,agg:=true,zero:=[.vs 2 [] .nil,.int .i64 0],kind:=.struct [(0,24,1),(1,3,1)],id:=26}
@[simp] theorem VN:AH.size=2:=rfl
@[simp] theorem Xh:AH.agg=true∧AH.zero=[.vs 2 [] .nil,.int .i64 0]∧AH.kind= .struct [(0,24,1),(1,3,1)]:=⟨rfl,rfl,rfl⟩
def DY:TI:={size:=1,bytes:=8,agg:=false,zero:=[.nil],kind:=.ptr 109,id:=27}
@[simp] theorem R5:DY.size=1:=rfl
@[simp] theorem Ut:DY.agg=false∧DY.zero=[.nil]∧DY.kind= .ptr 109:=⟨rfl,rfl,rfl⟩
def BA:TI:={size:=3,bytes:=24,agg:=true,zero:=[.int .i64 0,.int .i64 0,.int .i64 0],kind:=.struct [(0,3,1),(1,3,1),(2,3,1)],id:=29}
@[simp] theorem Ie:BA.size=3:=rfl
@[simp] theorem JV:BA.agg=true∧BA.zero=[.int .i64 0,.int .i64 0,.int .i64 0]∧BA.kind= .struct [(0,3,1),(1,3,1),(2,3,1)]:=⟨rfl,rfl,rfl⟩
def D6:TI:={size:=3,bytes:=24,agg:=true,zero:=[.int .i64 0,.int .i64 0,.int .i64 0],kind:=.struct [(0,3,1),(1,3,1),(2,3,1)],id:=30}
@[simp] theorem Tw:D6.size=3:=rfl
@[simp] theorem WC:D6.agg=true∧D6.zero=[.int .i64 0,.int .i64 0,.int .i64 0]∧D6.kind= .struct [(0,3,1),(1,3,1),(2,3,1)]:=⟨rfl,rfl,rfl⟩
def Cg:TI:={size:=1,bytes:=8,agg:=false,zero:=[.map none],kind:=.map 35 3,id:=31}
@[simp] theorem PO:Cg.size=1:=rfl
@[simp] theorem Ru:Cg.agg=false∧Cg.zero=[.map none]∧Cg.kind= .map 35 3:=⟨rfl,rfl,rfl⟩
def Ax:TI:={size:=4,bytes:=4,agg:=true,zero:=[.bool false,.bool false,.int .u8 0,.int .u8 0],kind:=.struct [(0,4,1),(1,4,1),(2,5,1),(3,5,1)],id:=32}
@[simp] theorem Gr:Ax.size=4:=rfl
@[simp] theorem HJ:Ax.agg=true∧Ax.zero=[.bool false,.bool false,.int .u8 0,.int .u8 0]∧Ax.kind= .struct [(0,4,1),(1,4,1),(2,5,1),(3,5,1)]:=⟨rfl,rfl,rfl⟩
def DR:TI:={size:=4,bytes:=4,agg:=true,zero:=[.bool false,.bool false,.int .u8 0,.int .u8 0],kind:=.struct [(0,4,1),(1,4,1),(2,5,1),(3,5,1)],id:=33}
@[simp] theorem So:DR.size=4:=rfl
@[simp] theorem U2:DR.agg=true∧DR.zero=[.bool false,.bool false,.int .u8 0,.int .u8 0]∧DR.kind= .struct [(0,4,1),(1,4,1),(2,5,1),(3,5,1)]:=⟨rfl,rfl,rfl⟩
def Bv:TI:={size:=2,bytes:=16,agg:=true,zero:=[.bool false,.int .i64 0],kind:=.struct [(0,4,1),(1,3,1)],id:=34}
@[simp] theorem MM:Bv.size=2:=rfl
@[simp] theorem NV:Bv.agg=true∧Bv.zero=[.bool false,.int .i64 0]∧Bv.kind= .struct [(0,4,1),(1,3,1)]:=⟨rfl,rfl,rfl⟩
def E1:TI:={size:=2,bytes:=16,agg:=true,zero:=[.bool false,.int .i64 0],kind:=.struct [(0,4,1),(1,3,1)],id:=35}
@[simp] theorem Vh:E1.size=2:=rfl
@[simp] theorem Xr:E1.agg=true∧E1.zero=[.bool false,.int .i64 0]∧E1.kind= .struct [(0,4,1),(1,3,1)]:=⟨rfl,rfl,rfl⟩
def BG:TI:={size:=1,bytes:=24,agg:=false,zero:=[.vs 7 [] .nil],kind:=.slice 91,id:=40}
@[simp] theorem Wb:BG.size=1:=rfl
@[simp] theorem Yh:BG.agg=false∧BG.zero=[.vs 7 [] .nil]∧BG.kind= .slice 91:=⟨rfl,rfl,rfl⟩
@[simp] theorem Xg:BG.id=JH:=rfl
def EP:TI:={size:=2,bytes:=48,agg:=true,zero:=[.vs 7 [] .nil,.vs 7 [] .nil],kind:=.array 2 40,id:=41}
@[simp] theorem Uz:EP.size=2:=rfl
@[simp] theorem XE:EP.agg=true∧EP.zero=[.vs 7 [] .nil,.vs 7 [] .nil]∧EP.kind= .array 2 40:=⟨rfl,rfl,rfl⟩
def AW:TI:={size:=1,bytes:=24,agg:=false,zero:=[.vs 1 [] .nil],kind:=.slice 9,id:=42}
@[simp] theorem Xn:AW.size=1:=rfl
@[simp] theorem Zo:AW.agg=false∧AW.zero=[.vs 1 [] .nil]∧AW.kind= .slice 9:=⟨rfl,rfl,rfl⟩
@[simp] theorem Y9:AW.id=P3:=rfl
def Bz:TI:={size:=2,bytes:=16,agg:=true,zero:=[.int .i64 0,.int .i64 0],kind:=.struct [(0,3,1),(1,3,1)],id:=46}
@[simp] theorem MZ:Bz.size=2:=rfl
@[simp] theorem Nv:Bz.agg=true∧Bz.zero=[.int .i64 0,.int .i64 0]∧Bz.kind= .struct [(0,3,1),(1,3,1)]:=⟨rfl,rfl,rfl⟩
def BS:TI:={size:=2,bytes:=16,agg:=true,zero:=[.int .i64 0,.int .i64 0],kind:=.struct [(0,3,1),(1,3,1)],id:=47}
@[simp] theorem XH:BS.size=2:=rfl
@[simp] theorem Yy:BS.agg=true∧BS.zero=[.int .i64 0,.int .i64 0]∧BS.kind= .struct [(0,3,1),(1,3,1)]:=⟨rfl,rfl,rfl⟩
def Ey:TI:={size:=1,bytes:=24,agg:=false,zero:=[.vs 2 [] .nil],kind:=.slice 47,id:=48}
@[simp] theorem VG:Ey.size=1:=rfl
@[simp] theorem Xt:Ey.agg=false∧Ey.zero=[.vs 2 [] .nil]∧Ey.kind= .slice 47:=⟨rfl,rfl,rfl⟩
def CV:TI:={size:=1,bytes:=24,agg:=false,zero:=[.vs 2 [] .nil],kind:=.slice 47,id:=49}
@[simp] theorem WS:CV.size=1:=rfl
@[simp] theorem YM:CV.agg=false∧CV.zero=[.vs 2 [] .nil]∧CV.kind= .slice 47:=⟨rfl,rfl,rfl⟩
def A5:TI:={size:=4,bytes:=48,agg:=true,zero:=[.int .i64 0,.int .i64 0,.int .i64 0,.vs 2 [] .nil],kind:=.struct [(0,3,1),(1,47,2),(3,49,1)],id:=50}
@[simp] theorem H2:A5.size=4:=rfl
@[simp] theorem Ig:A5.agg=true∧A5.zero=[.int .i64 0,.int .i64 0,.int .i64 0,.vs 2 [] .nil]∧A5.kind= .struct [(0,3,1),(1,47,2),(3,49,1)]:=⟨rfl,rfl,rfl⟩
def BE:TI:={size:=4,bytes:=48,agg:=true,zero:=[.int .i64 0,.int .i64 0,.int .i64 0,.vs 2 [] .nil],kind:=.struct [(0,3,1),(1,47,2),(3,49,1)],id:=51}
@[simp] theorem Wd:BE.size=4:=rfl
@[simp] theorem Yo:BE.agg=true∧BE.zero=[.int .i64 0,.int .i64 0,.int .i64 0,.vs 2 [] .nil]∧BE.kind= .struct [(0,3,1),(1,47,2),(3,49,1)]:=⟨rfl,rfl,rfl⟩
def Bi:TI:={size:=5,bytes:=64,agg:=true,zero:=[.str [],.int .i64 0,.int .i64 0,.int .i64 0,.vs 2 [] .nil],kind:=.struct [(0,9,1),(1,51,4)],id:=52}
@[simp] theorem K1:Bi.size=5:=rfl
@[simp] theorem MR:Bi.agg=true∧Bi.zero=[.str [],.int .i64 0,.int .i64 0,.int .i64 0,.vs 2 [] .nil]∧Bi.kind= .struct [(0,9,1),(1,51,4)]:=⟨rfl,rfl,rfl⟩
def AP:TI:={size:=5,bytes:=64,agg:=true,zero:=[.str [],.int .i64 0,.int .i64 0,.int .i64 0,.vs 2 [] .nil],kind:=.struct [(0,9,1),(1,51,4)],id:=53}
@[simp] theorem Vx:AP.size=5:=rfl
@[simp] theorem Xc:AP.agg=true∧AP.zero=[.str [],.int .i64 0,.int .i64 0,.int .i64 0,.vs 2 [] .nil]∧AP.kind= .struct [(0,9,1),(1,51,4)]:=⟨rfl,rfl,rfl⟩
@[simp] theorem Wr:AP.id=GQ:=rfl
def Cr:TI:={size:=1,bytes:=8,agg:=false,zero:=[.int .i64 0],kind:=.int .i64,id:=54}
@[simp] theorem XS:Cr.size=1:=rfl
@[simp] theorem Y2:Cr.agg=false∧Cr.zero=[.int .i64 0]∧Cr.kind= .int .i64:=⟨rfl,rfl,rfl⟩
def Ad:TI:={size:=1,bytes:=8,agg:=false,zero:=[.nilfn],kind:=.func,id:=56}
@[simp] theorem FG:Ad.size=1:=rfl
@[simp] theorem Fm:Ad.agg=false∧Ad.zero=[.nilfn]∧Ad.kind= .func:=⟨rfl,rfl,rfl⟩
def Ay:TI:={size:=3,bytes:=48,agg:=true,zero:=[.vs 7 [] .nil,.str [],.bool false],kind:=.struct [(0,40,1),(1,9,1),(2,4,1)],id:=61}
@[simp] theorem G5:Ay.size=3:=rfl
@[simp] theorem HO:Ay.agg=true∧Ay.zero=[.vs 7 [] .nil,.str [],.bool false]∧Ay.kind= .struct [(0,40,1),(1,9,1),(2,4,1)]:=⟨rfl,rfl,rfl⟩
def DP:TI:={size:=3,bytes:=48,agg:=true,zero:=[.vs 7 [] .nil,.str [],.bool false],kind:=.struct [(0,40,1),(1,9,1),(2,4,1)],id:=62}
@[simp] theorem RX:DP.size=3:=rfl
@[simp] theorem UP:DP.agg=true∧DP.zero=[.vs 7 [] .nil,.str [],.bool false]∧DP.kind= .struct [(0,40,1),(1,9,1),(2,4,1)]:=⟨rfl,rfl,rfl⟩
def Cj:TI:={size:=1,bytes:=24,agg:=false,zero:=[.vs 2 [] .nil],kind:=.slice 71,id:=63}
@[simp] theorem Pe:Cj.size=1:=rfl
@[simp] theorem RQ:Cj.agg=false∧Cj.zero=[.vs 2 [] .nil]∧Cj.kind= .slice 71:=⟨rfl,rfl,rfl⟩
def D9:TI:={size:=1,bytes:=24,agg:=false,zero:=[.vs 2 [] .nil],kind:=.slice 70,id:=67}
@[simp] theorem UG:D9.size=1:=rfl
@[simp] theorem WM:D9.agg=false∧D9.zero=[.vs 2 [] .nil]∧D9.kind= .slice 70:=⟨rfl,rfl,rfl⟩
def Bt:TI:={size:=2,bytes:=24,agg:=true,zero:=[.str [],.int .i64 0],kind:=.struct [(0,9,1),(1,3,1)],id:=69}
@[simp] theorem MH:Bt.size=2:=rfl
@[simp] theorem NU:Bt.agg=true∧Bt.zero=[.str [],.int .i64 0]∧Bt.kind= .struct [(0,9,1),(1,3,1)]:=⟨rfl,rfl,rfl⟩
def Eo:TI:={size:=2,bytes:=24,agg:=true,zero:=[.str [],.int .i64 0],kind:=.struct [(0,9,1),(1,3,1)],id:=70}
@[simp] theorem VX:Eo.size=2:=rfl
@[simp] theorem Xj:Eo.agg=true∧Eo.zero=[.str [],.int .i64 0]∧Eo.kind= .struct [(0,9,1),(1,3,1)]:=⟨rfl,rfl,rfl⟩
def DA:TI:={size:=2,bytes:=24,agg:=true,zero:=[.str [],.int .i64 0],kind:=.struct [(0,9,1),(1,3,1)],id:=71}
@[simp] theorem Qn:DA.size=2:=rfl
@[simp] theorem TR:DA.agg=true∧DA.zero=[.str [],.int .i64 0]∧DA.kind= .struct [(0,9,1),(1,3,1)]:=⟨rfl,rfl,rfl⟩
def Ae:TI:={size:=6,bytes:=64,agg:=true,zero:=[.int .i64 0,.str [],.int .i64 0,.int .i64 0,.int .i64 0,.str []],kind:=.struct [(0,3,1),(1,9,1),(2,3,1),(3,3,1),(4,3,1),(5,9,1)],id:=77}
@[simp] theorem FH:Ae.size=6:=rfl
@[simp] theorem Ft:Ae.agg=true∧Ae.zero=[.int .i64 0,.str [],.int .i64 0,.int .i64 0,.int .i64 0,.str []]∧Ae.kind= .struct [(0,3,1),(1,9,1),(2,3,1),(3,3,1),(4,3,1),(5,9,1)]:=⟨rfl,rfl,rfl⟩
def Cw:TI:={size:=6,bytes:=64,agg:=true,zero:=[.int .i64 0,.str [],.int .i64 0,.int .i64 0,.int .i64 0,.str []],kind:=.struct [(0,3,1),(1,9,1),(2,3,1),(3,3,1),(4,3,1),(5,9,1)],id:=78}
@[simp] theorem ZC:Cw.size=6:=rfl
@[simp] theorem bR:Cw.agg=true∧Cw.zero=[.int .i64 0,.str [],.int .i64 0,.int .i64 0,.int .i64 0,.str []]∧Cw.kind= .struct [(0,3,1),(1,9,1),(2,3,1),(3,3,1),(4,3,1),(5,9,1)]:=⟨rfl,rfl,rfl⟩
@[simp] theorem ac:Cw.id=NJ:=rfl
def CY:TI:={size:=1,bytes:=8,agg:=false,zero:=[.nilfn],kind:=.func,id:=80}
@[simp] theorem O0:CY.size=1:=rfl
@[simp] theorem Qa:CY.agg=false∧CY.zero=[.nilfn]∧CY.kind= .func:=⟨rfl,rfl,rfl⟩
def Ac:TI:={size:=8,bytes:=88,agg:=true,zero:=[.int .i64 0,.int .i64 0,.int .i64 0,.int .i64 0,.int .i64 0,.str [],.vs 1 [] .nil,.bool false],kind:=.struct [(0,54,1),(1,3,1),(2,3,1),(3,3,1),(4,3,1),(5,9,1),(6,42,1),(7,4,1)],id:=81}
@[simp] theorem FN:Ac.size=8:=rfl
@[simp] theorem Fo:Ac.agg=true∧Ac.zero=[.int .i64 0,.int .i64 0,.int .i64 0,.int .i64 0,.int .i64 0,.str [],.vs 1 [] .nil,.bool false]∧Ac.kind= .struct [(0,54,1),(1,3,1),(2,3,1),(3,3,1),(4,3,1),(5,9,1),(6,42,1),(7,4,1)]:=⟨rfl,rfl,rfl⟩
def AI:TI:={size:=8,bytes:=88,agg:=true,zero:=[.int .i64 0,.int .i64 0,.int .i64 0,.int .i64 0,.int .i64 0,.str [],.vs 1 [] .nil,.bool false],kind:=.struct [(0,54,1),(1,3,1),(2,3,1),(3,3,1),(4,3,1),(5,9,1),(6,42,1),(7,4,1)],id:=82}
@[simp] theorem We:AI.size=8:=rfl
@[simp] theorem X3:AI.agg=true∧AI.zero=[.int .i64 0,.int .i64 0,.int .i64 0,.int .i64 0,.int .i64 0,.str [],.vs 1 [] .nil,.bool false]∧AI.kind= .struct [(0,54,1),(1,3,1),(2,3,1),(3,3,1),(4,3,1),(5,9,1),(6,42,1),(7,4,1)]:=⟨rfl,rfl,rfl⟩
def BY:TI:={size:=1,bytes:=24,agg:=false,zero:=[.vs 2 [] .nil],kind:=.slice 210,id:=89}
@[simp] theorem U3:BY.size=1:=rfl
@[simp] theorem Wp:BY.agg=false∧BY.zero=[.vs 2 [] .nil]∧BY.kind= .slice 210:=⟨rfl,rfl,rfl⟩
def AY:TI:={size:=7,bytes:=112,agg:=true,zero:=[.int .i64 0,.bool false,.vs 1 [] .nil,.vs 7 [] .nil,.int .i64 0,.vs 2 [] .nil,.str []],kind:=.struct [(0,3,1),(1,4,1),(2,42,1),(3,40,1),(4,3,1),(5,89,1),(6,9,1)],id:=90}
@[simp] theorem FM:AY.size=7:=rfl
@[simp] theorem Fw:AY.agg=true∧AY.zero=[.int .i64 0,.bool false,.vs 1 [] .nil,.vs 7 [] .nil,.int .i64 0,.vs 2 [] .nil,.str []]∧AY.kind= .struct [(0,3,1),(1,4,1),(2,42,1),(3,40,1),(4,3,1),(5,89,1),(6,9,1)]:=⟨rfl,rfl,rfl⟩
def AE:TI:={size:=7,bytes:=112,agg:=true,zero:=[.int .i64 0,.bool false,.vs 1 [] .nil,.vs 7 [] .nil,.int .i64 0,.vs 2 [] .nil,.str []],kind:=.struct [(0,3,1),(1,4,1),(2,42,1),(3,40,1),(4,3,1),(5,89,1),(6,9,1)],id:=91}
@[simp] theorem Xb:AE.size=7:=rfl
@[simp] theorem ZI:AE.agg=true∧AE.zero=[.int .i64 0,.bool false,.vs 1 [] .nil,.vs 7 [] .nil,.int .i64 0,.vs 2 [] .nil,.str []]∧AE.kind= .struct [(0,3,1),(1,4,1),(2,42,1),(3,40,1),(4,3,1),(5,89,1),(6,9,1)]:=⟨rfl,rfl,rfl⟩
@[simp] theorem ZE:AE.id=L4:=rfl
def AU:TI:={size:=7,bytes:=80,agg:=true,zero:=[.int .i64 0,.bool false,.int .i64 0,.int .i64 0,.int .i64 0,.vs 2 [] .nil,.str []],kind:=.struct [(0,3,1),(1,4,1),(2,51,4),(6,9,1)],id:=94}
@[simp] theorem E9:AU.size=7:=rfl
@[simp] theorem Fd:AU.agg=true∧AU.zero=[.int .i64 0,.bool false,.int .i64 0,.int .i64 0,.int .i64 0,.vs 2 [] .nil,.str []]∧AU.kind= .struct [(0,3,1),(1,4,1),(2,51,4),(6,9,1)]:=⟨rfl,rfl,rfl⟩
def Ef:TI:={size:=7,bytes:=80,agg:=true,zero:=[.int .i64 0,.bool false,.int .i64 0,.int .i64 0,.int .i64 0,.vs 2 [] .nil,.str []],kind:=.struct [(0,3,1),(1,4,1),(2,51,4),(6,9,1)],id:=95}
@[simp] theorem Uu:Ef.size=7:=rfl
@[simp] theorem W6:Ef.agg=true∧Ef.zero=[.int .i64 0,.bool false,.int .i64 0,.int .i64 0,.int .i64 0,.vs 2 [] .nil,.str []]∧Ef.kind= .struct [(0,3,1),(1,4,1),(2,51,4),(6,9,1)]:=⟨rfl,rfl,rfl⟩
def AT:TI:={size:=1,bytes:=8,agg:=false,zero:=[.nilfn],kind:=.func,id:=96}
@[simp] theorem FC:AT.size=1:=rfl
@[simp] theorem FR:AT.agg=false∧AT.zero=[.nilfn]∧AT.kind= .func:=⟨rfl,rfl,rfl⟩
def EQ:TI:={size:=1,bytes:=8,agg:=false,zero:=[.nil],kind:=.ptr 131,id:=98}
@[simp] theorem U0:EQ.size=1:=rfl
@[simp] theorem Wl:EQ.agg=false∧EQ.zero=[.nil]∧EQ.kind= .ptr 131:=⟨rfl,rfl,rfl⟩
def Dm:TI:={size:=1,bytes:=8,agg:=false,zero:=[.nil],kind:=.ptr 152,id:=100}
@[simp] theorem TY:Dm.size=1:=rfl
@[simp] theorem Vu:Dm.agg=false∧Dm.zero=[.nil]∧Dm.kind= .ptr 152:=⟨rfl,rfl,rfl⟩
def Df:TI:={size:=1,bytes:=8,agg:=false,zero:=[.nil],kind:=.ptr 158,id:=102}
@[simp] theorem TO:Df.size=1:=rfl
@[simp] theorem Vp:Df.agg=false∧Df.zero=[.nil]∧Df.kind= .ptr 158:=⟨rfl,rfl,rfl⟩
def Dj:TI:={size:=1,bytes:=8,agg:=false,zero:=[.map none],kind:=.map 3 315,id:=104}
@[simp] theorem TX:Dj.size=1:=rfl
@[simp] theorem VA:Dj.agg=false∧Dj.zero=[.map none]∧Dj.kind= .map 3 315:=⟨rfl,rfl,rfl⟩
def H8:TI:={size:=1,bytes:=24,agg:=false,zero:=[.vs 1 [] .nil],kind:=.slice 3,id:=105}
@[simp] theorem ZO:H8.size=1:=rfl
@[simp] theorem cP:H8.agg=false∧H8.zero=[.vs 1 [] .nil]∧H8.kind= .slice 3:=⟨rfl,rfl,rfl⟩
def Am:TI:={size:=3,bytes:=40,agg:=true,zero:=[.map none,.int .i64 0,.vs 1 [] .nil],kind:=.struct [(0,104,1),(1,3,1),(2,105,1)],id:=106}
@[simp] theorem Fn:Am.size=3:=rfl
@[simp] theorem GA:Am.agg=true∧Am.zero=[.map none,.int .i64 0,.vs 1 [] .nil]∧Am.kind= .struct [(0,104,1),(1,3,1),(2,105,1)]:=⟨rfl,rfl,rfl⟩
def GY:TI:={size:=3,bytes:=40,agg:=true,zero:=[.map none,.int .i64 0,.vs 1 [] .nil],kind:=.struct [(0,104,1),(1,3,1),(2,105,1)],id:=107}
@[simp] theorem XU:GY.size=3:=rfl
@[simp] theorem Y8:GY.agg=true∧GY.zero=[.map none,.int .i64 0,.vs 1 [] .nil]∧GY.kind= .struct [(0,104,1),(1,3,1),(2,105,1)]:=⟨rfl,rfl,rfl⟩
def Af:TI:={size:=7,bytes:=72,agg:=true,zero:=[.nil,.map none,.int .i64 0,.vs 1 [] .nil,.nil,.nil,.map none],kind:=.struct [(0,98,1),(1,107,3),(4,100,1),(5,102,1),(6,31,1)],id:=108}
@[simp] theorem FK:Af.size=7:=rfl
@[simp] theorem Fq:Af.agg=true∧Af.zero=[.nil,.map none,.int .i64 0,.vs 1 [] .nil,.nil,.nil,.map none]∧Af.kind= .struct [(0,98,1),(1,107,3),(4,100,1),(5,102,1),(6,31,1)]:=⟨rfl,rfl,rfl⟩
def D8:TI:={size:=7,bytes:=72,agg:=true,zero:=[.nil,.map none,.int .i64 0,.vs 1 [] .nil,.nil,.nil,.map none],kind:=.struct [(0,98,1),(1,107,3),(4,100,1),(5,102,1),(6,31,1)],id:=109}
@[simp] theorem Ua:D8.size=7:=rfl
@[simp] theorem WL:D8.agg=true∧D8.zero=[.nil,.map none,.int .i64 0,.vs 1 [] .nil,.nil,.nil,.map none]∧D8.kind= .struct [(0,98,1),(1,107,3),(4,100,1),(5,102,1),(6,31,1)]:=⟨rfl,rfl,rfl⟩
def EA:TI:={size:=1,bytes:=8,agg:=false,zero:=[.nil],kind:=.ptr 168,id:=112}
@[simp] theorem UA:EA.size=1:=rfl
@[simp] theorem WJ:EA.agg=false∧EA.zero=[.nil]∧EA.kind= .ptr 168:=⟨rfl,rfl,rfl⟩
def C0:TI:={size:=1,bytes:=8,agg:=false,zero:=[.nil],kind:=.ptr 191,id:=121}
@[simp] theorem SS:C0.size=1:=rfl
@[simp] theorem Ur:C0.agg=false∧C0.zero=[.nil]∧C0.kind= .ptr 191:=⟨rfl,rfl,rfl⟩
def A0:TI:={size:=3,bytes:=56,agg:=true,zero:=[.vs 1 [] .nil,.vs 7 [] .nil,.int .i64 0],kind:=.struct [(0,42,1),(1,40,1),(2,3,1)],id:=124}
@[simp] theorem G7:A0.size=3:=rfl
@[simp] theorem Ht:A0.agg=true∧A0.zero=[.vs 1 [] .nil,.vs 7 [] .nil,.int .i64 0]∧A0.kind= .struct [(0,42,1),(1,40,1),(2,3,1)]:=⟨rfl,rfl,rfl⟩
def Dq:TI:={size:=3,bytes:=56,agg:=true,zero:=[.vs 1 [] .nil,.vs 7 [] .nil,.int .i64 0],kind:=.struct [(0,42,1),(1,40,1),(2,3,1)],id:=125}
@[simp] theorem TU:Dq.size=3:=rfl
@[simp] theorem VK:Dq.agg=true∧Dq.zero=[.vs 1 [] .nil,.vs 7 [] .nil,.int .i64 0]∧Dq.kind= .struct [(0,42,1),(1,40,1),(2,3,1)]:=⟨rfl,rfl,rfl⟩
def Dh:TI:={size:=1,bytes:=8,agg:=false,zero:=[.nil],kind:=.ptr 198,id:=129}
@[simp] theorem TZ:Dh.size=1:=rfl
@[simp] theorem VO:Dh.agg=false∧Dh.zero=[.nil]∧Dh.kind= .ptr 198:=⟨rfl,rfl,rfl⟩
def Ar:TI:={size:=4,bytes:=48,agg:=true,zero:=[.vs 2 [] .nil,.int .i64 0,.int .i64 0,.nil],kind:=.struct [(0,26,2),(2,3,1),(3,129,1)],id:=130}
@[simp] theorem Gn:Ar.size=4:=rfl
@[simp] theorem G8:Ar.agg=true∧Ar.zero=[.vs 2 [] .nil,.int .i64 0,.int .i64 0,.nil]∧Ar.kind= .struct [(0,26,2),(2,3,1),(3,129,1)]:=⟨rfl,rfl,rfl⟩
def Fh:TI:={size:=4,bytes:=48,agg:=true,zero:=[.vs 2 [] .nil,.int .i64 0,.int .i64 0,.nil],kind:=.struct [(0,26,2),(2,3,1),(3,129,1)],id:=131}
@[simp] theorem WI:Fh.size=4:=rfl
@[simp] theorem YR:Fh.agg=true∧Fh.zero=[.vs 2 [] .nil,.int .i64 0,.int .i64 0,.nil]∧Fh.kind= .struct [(0,26,2),(2,3,1),(3,129,1)]:=⟨rfl,rfl,rfl⟩
def Cp:TI:={size:=1,bytes:=8,agg:=false,zero:=[.nilfn],kind:=.func,id:=134}
@[simp] theorem QY:Cp.size=1:=rfl
@[simp] theorem SO:Cp.agg=false∧Cp.zero=[.nilfn]∧Cp.kind= .func:=⟨rfl,rfl,rfl⟩
def Bq:TI:={size:=1,bytes:=8,agg:=false,zero:=[.nil],kind:=.ptr 201,id:=149}
@[simp] theorem MJ:Bq.size=1:=rfl
@[simp] theorem NR:Bq.agg=false∧Bq.zero=[.nil]∧Bq.kind= .ptr 201:=⟨rfl,rfl,rfl⟩
def Ak:TI:={size:=3,bytes:=24,agg:=true,zero:=[.nil,.int .i64 0,.int .i64 0],kind:=.struct [(0,149,1),(1,3,1),(2,3,1)],id:=151}
@[simp] theorem Fp:Ak.size=3:=rfl
@[simp] theorem F6:Ak.agg=true∧Ak.zero=[.nil,.int .i64 0,.int .i64 0]∧Ak.kind= .struct [(0,149,1),(1,3,1),(2,3,1)]:=⟨rfl,rfl,rfl⟩
def EU:TI:={size:=3,bytes:=24,agg:=true,zero:=[.nil,.int .i64 0,.int .i64 0],kind:=.struct [(0,149,1),(1,3,1),(2,3,1)],id:=152}
@[simp] theorem Ux:EU.size=3:=rfl
@[simp] theorem XC:EU.agg=true∧EU.zero=[.nil,.int .i64 0,.int .i64 0]∧EU.kind= .struct [(0,149,1),(1,3,1),(2,3,1)]:=⟨rfl,rfl,rfl⟩
def B5:TI:={size:=1,bytes:=8,agg:=false,zero:=[.nil],kind:=.ptr 206,id:=153}
@[simp] theorem MU:B5.size=1:=rfl
@[simp] theorem Nq:B5.agg=false∧B5.zero=[.nil]∧B5.kind= .ptr 206:=⟨rfl,rfl,rfl⟩
def BP:TI:={size:=2,bytes:=32,agg:=true,zero:=[.int .i64 0,.vs 2 [] .nil],kind:=.struct [(0,3,1),(1,67,1)],id:=155}
@[simp] theorem Jv:BP.size=2:=rfl
@[simp] theorem K0:BP.agg=true∧BP.zero=[.int .i64 0,.vs 2 [] .nil]∧BP.kind= .struct [(0,3,1),(1,67,1)]:=⟨rfl,rfl,rfl⟩
def Ev:TI:={size:=2,bytes:=32,agg:=true,zero:=[.int .i64 0,.vs 2 [] .nil],kind:=.struct [(0,3,1),(1,67,1)],id:=156}
@[simp] theorem VF:Ev.size=2:=rfl
@[simp] theorem Xl:Ev.agg=true∧Ev.zero=[.int .i64 0,.vs 2 [] .nil]∧Ev.kind= .struct [(0,3,1),(1,67,1)]:=⟨rfl,rfl,rfl⟩
def A3:TI:={size:=2,bytes:=16,agg:=true,zero:=[.nil,.int .i64 0],kind:=.struct [(0,153,1),(1,3,1)],id:=157}
@[simp] theorem Hz:A3.size=2:=rfl
@[simp] theorem IT:A3.agg=true∧A3.zero=[.nil,.int .i64 0]∧A3.kind= .struct [(0,153,1),(1,3,1)]:=⟨rfl,rfl,rfl⟩
def EX:TI:={size:=2,bytes:=16,agg:=true,zero:=[.nil,.int .i64 0],kind:=.struct [(0,153,1),(1,3,1)],id:=158}
@[simp] theorem Uw:EX.size=2:=rfl
@[simp] theorem XZ:EX.agg=true∧EX.zero=[.nil,.int .i64 0]∧EX.kind= .struct [(0,153,1),(1,3,1)]:=⟨rfl,rfl,rfl⟩
def Mc:TI:={size:=1,bytes:=8,agg:=false,zero:=[.nil],kind:=.ptr 3,id:=160}
@[simp] theorem Z8:Mc.size=1:=rfl
@[simp] theorem cx:Mc.agg=false∧Mc.zero=[.nil]∧Mc.kind= .ptr 3:=⟨rfl,rfl,rfl⟩
def Bh:TI:={size:=2,bytes:=40,agg:=true,zero:=[.str [],.vs 2 [] .nil],kind:=.struct [(0,9,1),(1,49,1)],id:=163}
@[simp] theorem K5:Bh.size=2:=rfl
@[simp] theorem MV:Bh.agg=true∧Bh.zero=[.str [],.vs 2 [] .nil]∧Bh.kind= .struct [(0,9,1),(1,49,1)]:=⟨rfl,rfl,rfl⟩
def Bx:TI:={size:=2,bytes:=40,agg:=true,zero:=[.str [],.vs 2 [] .nil],kind:=.struct [(0,9,1),(1,49,1)],id:=164}
@[simp] theorem Xf:Bx.size=2:=rfl
@[simp] theorem Zu:Bx.agg=true∧Bx.zero=[.str [],.vs 2 [] .nil]∧Bx.kind= .struct [(0,9,1),(1,49,1)]:=⟨rfl,rfl,rfl⟩
def A7:TI:={size:=1,bytes:=24,agg:=false,zero:=[.vs 2 [] .nil],kind:=.slice 164,id:=165}
@[simp] theorem WT:A7.size=1:=rfl
@[simp] theorem Yk:A7.agg=false∧A7.zero=[.vs 2 [] .nil]∧A7.kind= .slice 164:=⟨rfl,rfl,rfl⟩
def B3:TI:={size:=1,bytes:=8,agg:=false,zero:=[.nil],kind:=.ptr 53,id:=166}
@[simp] theorem Tu:B3.size=1:=rfl
@[simp] theorem WN:B3.agg=false∧B3.zero=[.nil]∧B3.kind= .ptr 53:=⟨rfl,rfl,rfl⟩
def AX:TI:={size:=5,bytes:=72,agg:=true,zero:=[.vs 1 [] .nil,.vs 2 [] .nil,.bool false,.int .i64 0,.nil],kind:=.struct [(0,42,1),(1,165,1),(2,4,1),(3,3,1),(4,166,1)],id:=167}
@[simp] theorem FJ:AX.size=5:=rfl
@[simp] theorem Fv:AX.agg=true∧AX.zero=[.vs 1 [] .nil,.vs 2 [] .nil,.bool false,.int .i64 0,.nil]∧AX.kind= .struct [(0,42,1),(1,165,1),(2,4,1),(3,3,1),(4,166,1)]:=⟨rfl,rfl,rfl⟩
def DF:TI:={size:=5,bytes:=72,agg:=true,zero:=[.vs 1 [] .nil,.vs 2 [] .nil,.bool false,.int .i64 0,.nil],kind:=.struct [(0,42,1),(1,165,1),(2,4,1),(3,3,1),(4,166,1)],id:=168}
@[simp] theorem V3:DF.size=5:=rfl
@[simp] theorem Xd:DF.agg=true∧DF.zero=[.vs 1 [] .nil,.vs 2 [] .nil,.bool false,.int .i64 0,.nil]∧DF.kind= .struct [(0,42,1),(1,165,1),(2,4,1),(3,3,1),(4,166,1)]:=⟨rfl,rfl,rfl⟩
@[simp] theorem XR:DF.id=Bo:=rfl
def Bf:TI:={size:=2,bytes:=16,agg:=true,zero:=[.int .i64 0,.nil],kind:=.struct [(0,3,1),(1,121,1)],id:=173}
@[simp] theorem LF:Bf.size=2:=rfl
@[simp] theorem MW:Bf.agg=true∧Bf.zero=[.int .i64 0,.nil]∧Bf.kind= .struct [(0,3,1),(1,121,1)]:=⟨rfl,rfl,rfl⟩
def Cm:TI:={size:=2,bytes:=16,agg:=true,zero:=[.int .i64 0,.nil],kind:=.struct [(0,3,1),(1,121,1)],id:=174}
@[simp] theorem VL:Cm.size=2:=rfl
@[simp] theorem Xk:Cm.agg=true∧Cm.zero=[.int .i64 0,.nil]∧Cm.kind= .struct [(0,3,1),(1,121,1)]:=⟨rfl,rfl,rfl⟩
def B8:TI:={size:=8,bytes:=136,agg:=true,zero:=[.int .i64 0,.bool false,.vs 1 [] .nil,.vs 7 [] .nil,.int .i64 0,.vs 2 [] .nil,.str [],.vs 1 [] .nil],kind:=.struct [(0,91,7),(7,105,1)],id:=175}
@[simp] theorem ND:B8.size=8:=rfl
@[simp] theorem OG:B8.agg=true∧B8.zero=[.int .i64 0,.bool false,.vs 1 [] .nil,.vs 7 [] .nil,.int .i64 0,.vs 2 [] .nil,.str [],.vs 1 [] .nil]∧B8.kind= .struct [(0,91,7),(7,105,1)]:=⟨rfl,rfl,rfl⟩
def An:TI:={size:=8,bytes:=136,agg:=true,zero:=[.int .i64 0,.bool false,.vs 1 [] .nil,.vs 7 [] .nil,.int .i64 0,.vs 2 [] .nil,.str [],.vs 1 [] .nil],kind:=.struct [(0,91,7),(7,105,1)],id:=176}
@[simp] theorem Us:An.size=8:=rfl
@[simp] theorem Wj:An.agg=true∧An.zero=[.int .i64 0,.bool false,.vs 1 [] .nil,.vs 7 [] .nil,.int .i64 0,.vs 2 [] .nil,.str [],.vs 1 [] .nil]∧An.kind= .struct [(0,91,7),(7,105,1)]:=⟨rfl,rfl,rfl⟩
def BD:TI:={size:=1,bytes:=24,agg:=false,zero:=[.vs 8 [] .nil],kind:=.slice 176,id:=189}
@[simp] theorem TS:BD.size=1:=rfl
@[simp] theorem Vn:BD.agg=false∧BD.zero=[.vs 8 [] .nil]∧BD.kind= .slice 176:=⟨rfl,rfl,rfl⟩
def Bs:TI:={size:=1,bytes:=24,agg:=true,zero:=[.vs 8 [] .nil],kind:=.struct [(0,189,1)],id:=190}
@[simp] theorem MC:Bs.size=1:=rfl
@[simp] theorem NQ:Bs.agg=true∧Bs.zero=[.vs 8 [] .nil]∧Bs.kind= .struct [(0,189,1)]:=⟨rfl,rfl,rfl⟩
def C1:TI:={size:=1,bytes:=24,agg:=true,zero:=[.vs 8 [] .nil],kind:=.struct [(0,189,1)],id:=191}
@[simp] theorem Tq:C1.size=1:=rfl
@[simp] theorem WO:C1.agg=true∧C1.zero=[.vs 8 [] .nil]∧C1.kind= .struct [(0,189,1)]:=⟨rfl,rfl,rfl⟩
@[simp] theorem Vc:C1.id=Cd:=rfl
def Cb:TI:={size:=1,bytes:=8,agg:=false,zero:=[.map none],kind:=.map 3 317,id:=196}
@[simp] theorem Ow:Cb.size=1:=rfl
@[simp] theorem QZ:Cb.agg=false∧Cb.zero=[.map none]∧Cb.kind= .map 3 317:=⟨rfl,rfl,rfl⟩
def Aq:TI:={size:=3,bytes:=24,agg:=true,zero:=[.int .i64 0,.int .i64 0,.map none],kind:=.struct [(0,3,1),(1,3,1),(2,196,1)],id:=197}
@[simp] theorem GN:Aq.size=3:=rfl
@[simp] theorem Gt:Aq.agg=true∧Aq.zero=[.int .i64 0,.int .i64 0,.map none]∧Aq.kind= .struct [(0,3,1),(1,3,1),(2,196,1)]:=⟨rfl,rfl,rfl⟩
def EZ:TI:={size:=3,bytes:=24,agg:=true,zero:=[.int .i64 0,.int .i64 0,.map none],kind:=.struct [(0,3,1),(1,3,1),(2,196,1)],id:=198}
@[simp] theorem U1:EZ.size=3:=rfl
@[simp] theorem Wf:EZ.agg=true∧EZ.zero=[.int .i64 0,.int .i64 0,.map none]∧EZ.kind= .struct [(0,3,1),(1,3,1),(2,196,1)]:=⟨rfl,rfl,rfl⟩
def BM:TI:={size:=1,bytes:=24,agg:=false,zero:=[.vs 1 [] .nil],kind:=.slice 202,id:=199}
@[simp] theorem Jj:BM.size=1:=rfl
@[simp] theorem Kx:BM.agg=false∧BM.zero=[.vs 1 [] .nil]∧BM.kind= .slice 202:=⟨rfl,rfl,rfl⟩
def A2:TI:={size:=1,bytes:=24,agg:=true,zero:=[.vs 1 [] .nil],kind:=.struct [(0,199,1)],id:=200}
@[simp] theorem H0:A2.size=1:=rfl
@[simp] theorem IZ:A2.agg=true∧A2.zero=[.vs 1 [] .nil]∧A2.kind= .struct [(0,199,1)]:=⟨rfl,rfl,rfl⟩
def B7:TI:={size:=1,bytes:=24,agg:=true,zero:=[.vs 1 [] .nil],kind:=.struct [(0,199,1)],id:=201}
@[simp] theorem NA:B7.size=1:=rfl
@[simp] theorem Od:B7.agg=true∧B7.zero=[.vs 1 [] .nil]∧B7.kind= .struct [(0,199,1)]:=⟨rfl,rfl,rfl⟩
def BW:TI:={size:=1,bytes:=8,agg:=false,zero:=[.nil],kind:=.ptr 241,id:=202}
@[simp] theorem Kc:BW.size=1:=rfl
@[simp] theorem LG:BW.agg=false∧BW.zero=[.nil]∧BW.kind= .ptr 241:=⟨rfl,rfl,rfl⟩
def BQ:TI:={size:=1,bytes:=24,agg:=false,zero:=[.vs 1 [] .nil],kind:=.slice 207,id:=204}
@[simp] theorem Jt:BQ.size=1:=rfl
@[simp] theorem K7:BQ.agg=false∧BQ.zero=[.vs 1 [] .nil]∧BQ.kind= .slice 207:=⟨rfl,rfl,rfl⟩
def A4:TI:={size:=1,bytes:=24,agg:=true,zero:=[.vs 1 [] .nil],kind:=.struct [(0,204,1)],id:=205}
@[simp] theorem H1:A4.size=1:=rfl
@[simp] theorem Id:A4.agg=true∧A4.zero=[.vs 1 [] .nil]∧A4.kind= .struct [(0,204,1)]:=⟨rfl,rfl,rfl⟩
def CD:TI:={size:=1,bytes:=24,agg:=true,zero:=[.vs 1 [] .nil],kind:=.struct [(0,204,1)],id:=206}
@[simp] theorem NT:CD.size=1:=rfl
@[simp] theorem Oy:CD.agg=true∧CD.zero=[.vs 1 [] .nil]∧CD.kind= .struct [(0,204,1)]:=⟨rfl,rfl,rfl⟩
def Ba:TI:={size:=1,bytes:=8,agg:=false,zero:=[.nil],kind:=.ptr 244,id:=207}
@[simp] theorem Kn:Ba.size=1:=rfl
@[simp] theorem MG:Ba.agg=false∧Ba.zero=[.nil]∧Ba.kind= .ptr 244:=⟨rfl,rfl,rfl⟩
def B4:TI:={size:=2,bytes:=24,agg:=true,zero:=[.int .i64 0,.str []],kind:=.struct [(0,3,1),(1,9,1)],id:=209}
@[simp] theorem MQ:B4.size=2:=rfl
@[simp] theorem No:B4.agg=true∧B4.zero=[.int .i64 0,.str []]∧B4.kind= .struct [(0,3,1),(1,9,1)]:=⟨rfl,rfl,rfl⟩
def As:TI:={size:=2,bytes:=24,agg:=true,zero:=[.int .i64 0,.str []],kind:=.struct [(0,3,1),(1,9,1)],id:=210}
@[simp] theorem WB:As.size=2:=rfl
@[simp] theorem YF:As.agg=true∧As.zero=[.int .i64 0,.str []]∧As.kind= .struct [(0,3,1),(1,9,1)]:=⟨rfl,rfl,rfl⟩
@[simp] theorem Xs:As.id=FP:=rfl
def FW:TI:={size:=1,bytes:=24,agg:=false,zero:=[.vs 1 [] .nil],kind:=.slice 42,id:=219}
@[simp] theorem WY:FW.size=1:=rfl
@[simp] theorem X9:FW.agg=false∧FW.zero=[.vs 1 [] .nil]∧FW.kind= .slice 42:=⟨rfl,rfl,rfl⟩
def Et:TI:={size:=1,bytes:=24,agg:=false,zero:=[.vs 2 [] .nil],kind:=.slice 225,id:=221}
@[simp] theorem VB:Et.size=1:=rfl
@[simp] theorem Xq:Et.agg=false∧Et.zero=[.vs 2 [] .nil]∧Et.kind= .slice 225:=⟨rfl,rfl,rfl⟩
def By:TI:={size:=2,bytes:=24,agg:=true,zero:=[.str [],.int .i64 0],kind:=.struct [(0,9,1),(1,3,1)],id:=224}
@[simp] theorem MS:By.size=2:=rfl
@[simp] theorem Nd:By.agg=true∧By.zero=[.str [],.int .i64 0]∧By.kind= .struct [(0,9,1),(1,3,1)]:=⟨rfl,rfl,rfl⟩
def Gq:TI:={size:=2,bytes:=24,agg:=true,zero:=[.str [],.int .i64 0],kind:=.struct [(0,9,1),(1,3,1)],id:=225}
@[simp] theorem XP:Gq.size=2:=rfl
@[simp] theorem Y6:Gq.agg=true∧Gq.zero=[.str [],.int .i64 0]∧Gq.kind= .struct [(0,9,1),(1,3,1)]:=⟨rfl,rfl,rfl⟩
def KW:TI:={size:=1,bytes:=4,agg:=false,zero:=[.int .u32 0],kind:=.int .u32,id:=226}
@[simp] theorem Yz:KW.size=1:=rfl
@[simp] theorem bh:KW.agg=false∧KW.zero=[.int .u32 0]∧KW.kind= .int .u32:=⟨rfl,rfl,rfl⟩
def C4:TI:={size:=1,bytes:=8,agg:=false,zero:=[.nil],kind:=.ptr 231,id:=228}
@[simp] theorem Q7:C4.size=1:=rfl
@[simp] theorem TQ:C4.agg=false∧C4.zero=[.nil]∧C4.kind= .ptr 231:=⟨rfl,rfl,rfl⟩
def FD:TI:={size:=1,bytes:=24,agg:=false,zero:=[.vs 1 [] .nil],kind:=.slice 5,id:=229}
@[simp] theorem Yp:FD.size=1:=rfl
@[simp] theorem aE:FD.agg=false∧FD.zero=[.vs 1 [] .nil]∧FD.kind= .slice 5:=⟨rfl,rfl,rfl⟩
def A6:TI:={size:=2,bytes:=32,agg:=true,zero:=[.nil,.vs 1 [] .nil],kind:=.struct [(0,228,1),(1,229,1)],id:=230}
@[simp] theorem H3:A6.size=2:=rfl
@[simp] theorem If:A6.agg=true∧A6.zero=[.nil,.vs 1 [] .nil]∧A6.kind= .struct [(0,228,1),(1,229,1)]:=⟨rfl,rfl,rfl⟩
def CS:TI:={size:=2,bytes:=32,agg:=true,zero:=[.nil,.vs 1 [] .nil],kind:=.struct [(0,228,1),(1,229,1)],id:=231}
@[simp] theorem Sa:CS.size=2:=rfl
@[simp] theorem Uv:CS.agg=true∧CS.zero=[.nil,.vs 1 [] .nil]∧CS.kind= .struct [(0,228,1),(1,229,1)]:=⟨rfl,rfl,rfl⟩
@[simp] theorem Ui:CS.id=CQ:=rfl
def CT:TI:={size:=1,bytes:=16,agg:=false,zero:=[.nilifc],kind:=.iface,id:=232}
@[simp] theorem OQ:CT.size=1:=rfl
@[simp] theorem Pu:CT.agg=false∧CT.zero=[.nilifc]∧CT.kind= .iface:=⟨rfl,rfl,rfl⟩
def Mv:TI:={size:=1,bytes:=16,agg:=false,zero:=[.nilifc],kind:=.iface,id:=233}
@[simp] theorem Za:Mv.size=1:=rfl
@[simp] theorem cI:Mv.agg=false∧Mv.zero=[.nilifc]∧Mv.kind= .iface:=⟨rfl,rfl,rfl⟩
def Bc:TI:={size:=1,bytes:=24,agg:=false,zero:=[.vs 8 [] .nil],kind:=.slice 267,id:=239}
@[simp] theorem Ky:Bc.size=1:=rfl
@[simp] theorem MD:Bc.agg=false∧Bc.zero=[.vs 8 [] .nil]∧Bc.kind= .slice 267:=⟨rfl,rfl,rfl⟩
def Au:TI:={size:=2,bytes:=32,agg:=true,zero:=[.int .i64 0,.vs 8 [] .nil],kind:=.struct [(0,3,1),(1,239,1)],id:=240}
@[simp] theorem Gu:Au.size=2:=rfl
@[simp] theorem HL:Au.agg=true∧Au.zero=[.int .i64 0,.vs 8 [] .nil]∧Au.kind= .struct [(0,3,1),(1,239,1)]:=⟨rfl,rfl,rfl⟩
def Bd:TI:={size:=2,bytes:=32,agg:=true,zero:=[.int .i64 0,.vs 8 [] .nil],kind:=.struct [(0,3,1),(1,239,1)],id:=241}
@[simp] theorem K4:Bd.size=2:=rfl
@[simp] theorem MX:Bd.agg=true∧Bd.zero=[.int .i64 0,.vs 8 [] .nil]∧Bd.kind= .struct [(0,3,1),(1,239,1)]:=⟨rfl,rfl,rfl⟩
def Bg:TI:={size:=1,bytes:=24,agg:=false,zero:=[.vs 3 [] .nil],kind:=.slice 271,id:=242}
@[simp] theorem K6:Bg.size=1:=rfl
@[simp] theorem MY:Bg.agg=false∧Bg.zero=[.vs 3 [] .nil]∧Bg.kind= .slice 271:=⟨rfl,rfl,rfl⟩
def Az:TI:={size:=2,bytes:=32,agg:=true,zero:=[.int .i64 0,.vs 3 [] .nil],kind:=.struct [(0,3,1),(1,242,1)],id:=243}
@[simp] theorem Gx:Az.size=2:=rfl
@[simp] theorem HQ:Az.agg=true∧Az.zero=[.int .i64 0,.vs 3 [] .nil]∧Az.kind= .struct [(0,3,1),(1,242,1)]:=⟨rfl,rfl,rfl⟩
def Bm:TI:={size:=2,bytes:=32,agg:=true,zero:=[.int .i64 0,.vs 3 [] .nil],kind:=.struct [(0,3,1),(1,242,1)],id:=244}
@[simp] theorem Lj:Bm.size=2:=rfl
@[simp] theorem Mq:Bm.agg=true∧Bm.zero=[.int .i64 0,.vs 3 [] .nil]∧Bm.kind= .struct [(0,3,1),(1,242,1)]:=⟨rfl,rfl,rfl⟩
def Pf:TI:={size:=1,bytes:=8,agg:=false,zero:=[.int .u64 0],kind:=.int .u64,id:=247}
@[simp] theorem aD:Pf.size=1:=rfl
@[simp] theorem dQ:Pf.agg=false∧Pf.zero=[.int .u64 0]∧Pf.kind= .int .u64:=⟨rfl,rfl,rfl⟩
def Ec:TI:={size:=1,bytes:=8,agg:=false,zero:=[.nil],kind:=.ptr 254,id:=249}
@[simp] theorem Uy:Ec.size=1:=rfl
@[simp] theorem Wn:Ec.agg=false∧Ec.zero=[.nil]∧Ec.kind= .ptr 254:=⟨rfl,rfl,rfl⟩
def Be:TI:={size:=1,bytes:=8,agg:=false,zero:=[.nilfn],kind:=.func,id:=250}
@[simp] theorem LC:Be.size=1:=rfl
@[simp] theorem MT:Be.agg=false∧Be.zero=[.nilfn]∧Be.kind= .func:=⟨rfl,rfl,rfl⟩
def Eq:TI:={size:=1,bytes:=24,agg:=false,zero:=[.vs 3 [] .nil],kind:=.slice 256,id:=252}
@[simp] theorem Vg:Eq.size=1:=rfl
@[simp] theorem Xm:Eq.agg=false∧Eq.zero=[.vs 3 [] .nil]∧Eq.kind= .slice 256:=⟨rfl,rfl,rfl⟩
def Aj:TI:={size:=2,bytes:=32,agg:=true,zero:=[.vs 3 [] .nil,.nilfn],kind:=.struct [(0,252,1),(1,250,1)],id:=253}
@[simp] theorem FV:Aj.size=2:=rfl
@[simp] theorem F1:Aj.agg=true∧Aj.zero=[.vs 3 [] .nil,.nilfn]∧Aj.kind= .struct [(0,252,1),(1,250,1)]:=⟨rfl,rfl,rfl⟩
def FO:TI:={size:=2,bytes:=32,agg:=true,zero:=[.vs 3 [] .nil,.nilfn],kind:=.struct [(0,252,1),(1,250,1)],id:=254}
@[simp] theorem WW:FO.size=2:=rfl
@[simp] theorem X4:FO.agg=true∧FO.zero=[.vs 3 [] .nil,.nilfn]∧FO.kind= .struct [(0,252,1),(1,250,1)]:=⟨rfl,rfl,rfl⟩
def Bb:TI:={size:=3,bytes:=48,agg:=true,zero:=[.str [],.int .i64 0,.vs 1 [] .nil],kind:=.struct [(0,225,2),(2,42,1)],id:=255}
@[simp] theorem Ks:Bb.size=3:=rfl
@[simp] theorem L0:Bb.agg=true∧Bb.zero=[.str [],.int .i64 0,.vs 1 [] .nil]∧Bb.kind= .struct [(0,225,2),(2,42,1)]:=⟨rfl,rfl,rfl⟩
def Gm:TI:={size:=3,bytes:=48,agg:=true,zero:=[.str [],.int .i64 0,.vs 1 [] .nil],kind:=.struct [(0,225,2),(2,42,1)],id:=256}
@[simp] theorem XK:Gm.size=3:=rfl
@[simp] theorem Yv:Gm.agg=true∧Gm.zero=[.str [],.int .i64 0,.vs 1 [] .nil]∧Gm.kind= .struct [(0,225,2),(2,42,1)]:=⟨rfl,rfl,rfl⟩
def Ez:TI:={size:=1,bytes:=8,agg:=false,zero:=[.nil],kind:=.ptr 256,id:=258}
@[simp] theorem V0:Ez.size=1:=rfl
@[simp] theorem Xo:Ez.agg=false∧Ez.zero=[.nil]∧Ez.kind= .ptr 256:=⟨rfl,rfl,rfl⟩
def I1:TI:={size:=1,bytes:=8,agg:=false,zero:=[.nil],kind:=.ptr 5,id:=264}
@[simp] theorem YO:I1.size=1:=rfl
@[simp] theorem aa:I1.agg=false∧I1.zero=[.nil]∧I1.kind= .ptr 5:=⟨rfl,rfl,rfl⟩
def BC:TI:={size:=8,bytes:=96,agg:=true,zero:=[.str [],.int .i64 0,.bool false,.int .i64 0,.int .i64 0,.int .i64 0,.vs 2 [] .nil,.str []],kind:=.struct [(0,9,1),(1,95,7)],id:=266}
@[simp] theorem I3:BC.size=8:=rfl
@[simp] theorem Jo:BC.agg=true∧BC.zero=[.str [],.int .i64 0,.bool false,.int .i64 0,.int .i64 0,.int .i64 0,.vs 2 [] .nil,.str []]∧BC.kind= .struct [(0,9,1),(1,95,7)]:=⟨rfl,rfl,rfl⟩
def Bn:TI:={size:=8,bytes:=96,agg:=true,zero:=[.str [],.int .i64 0,.bool false,.int .i64 0,.int .i64 0,.int .i64 0,.vs 2 [] .nil,.str []],kind:=.struct [(0,9,1),(1,95,7)],id:=267}
@[simp] theorem Lg:Bn.size=8:=rfl
@[simp] theorem M6:Bn.agg=true∧Bn.zero=[.str [],.int .i64 0,.bool false,.int .i64 0,.int .i64 0,.int .i64 0,.vs 2 [] .nil,.str []]∧Bn.kind= .struct [(0,9,1),(1,95,7)]:=⟨rfl,rfl,rfl⟩
def BH:TI:={size:=3,bytes:=48,agg:=true,zero:=[.str [],.int .i64 0,.vs 2 [] .nil],kind:=.struct [(0,9,1),(1,156,2)],id:=270}
@[simp] theorem JA:BH.size=3:=rfl
@[simp] theorem Ju:BH.agg=true∧BH.zero=[.str [],.int .i64 0,.vs 2 [] .nil]∧BH.kind= .struct [(0,9,1),(1,156,2)]:=⟨rfl,rfl,rfl⟩
def Bp:TI:={size:=3,bytes:=48,agg:=true,zero:=[.str [],.int .i64 0,.vs 2 [] .nil],kind:=.struct [(0,9,1),(1,156,2)],id:=271}
@[simp] theorem L2:Bp.size=3:=rfl
@[simp] theorem NS:Bp.agg=true∧Bp.zero=[.str [],.int .i64 0,.vs 2 [] .nil]∧Bp.kind= .struct [(0,9,1),(1,156,2)]:=⟨rfl,rfl,rfl⟩
def Ab:TI:={size:=1,bytes:=16,agg:=false,zero:=[.nilifc],kind:=.iface,id:=273}
@[simp] theorem FL:Ab.size=1:=rfl
@[simp] theorem Fu:Ab.agg=false∧Ab.zero=[.nilifc]∧Ab.kind= .iface:=⟨rfl,rfl,rfl⟩
def Dn:TI:={size:=1,bytes:=16,agg:=false,zero:=[.nilifc],kind:=.iface,id:=274}
@[simp] theorem TP:Dn.size=1:=rfl
@[simp] theorem U4:Dn.agg=false∧Dn.zero=[.nilifc]∧Dn.kind= .iface:=⟨rfl,rfl,rfl⟩
def B9:TI:={size:=0,bytes:=0,agg:=true,zero:=[],kind:=.array 0 16,id:=305}
@[simp] theorem M8:B9.size=0:=rfl
@[simp] theorem N6:B9.agg=true∧B9.zero=[]∧B9.kind= .array 0 16:=⟨rfl,rfl,rfl⟩
def BR:TI:={size:=0,bytes:=0,agg:=true,zero:=[],kind:=.struct [(0,305,0)],id:=306}
@[simp] theorem Jw:BR.size=0:=rfl
@[simp] theorem K3:BR.agg=true∧BR.zero=[]∧BR.kind= .struct [(0,305,0)]:=⟨rfl,rfl,rfl⟩
def CZ:TI:={size:=0,bytes:=0,agg:=true,zero:=[],kind:=.struct [(0,305,0)],id:=307}
@[simp] theorem Ou:CZ.size=0:=rfl
@[simp] theorem Qb:CZ.agg=true∧CZ.zero=[]∧CZ.kind= .struct [(0,305,0)]:=⟨rfl,rfl,rfl⟩
def Gd:TI:={size:=1,bytes:=1,agg:=false,zero:=[.int .u8 0],kind:=.int .u8,id:=308}
@[simp] theorem XA:Gd.size=1:=rfl
@[simp] theorem Y5:Gd.agg=false∧Gd.zero=[.int .u8 0]∧Gd.kind= .int .u8:=⟨rfl,rfl,rfl⟩
def Ho:TI:={size:=1,bytes:=1,agg:=false,zero:=[.int .u8 0],kind:=.int .u8,id:=309}
@[simp] theorem Xp:Ho.size=1:=rfl
@[simp] theorem aB:Ho.agg=false∧Ho.zero=[.int .u8 0]∧Ho.kind= .int .u8:=⟨rfl,rfl,rfl⟩
def A8:TI:={size:=1,bytes:=8,agg:=false,zero:=[.nilfn],kind:=.func,id:=310}
@[simp] theorem IQ:A8.size=1:=rfl
@[simp] theorem I2:A8.agg=false∧A8.zero=[.nilfn]∧A8.kind= .func:=⟨rfl,rfl,rfl⟩
def Eu:TI:={size:=1,bytes:=4,agg:=false,zero:=[.int .i32 0],kind:=.int .i32,id:=311}
@[simp] theorem Ve:Eu.size=1:=rfl
@[simp] theorem Xe:Eu.agg=false∧Eu.zero=[.int .i32 0]∧Eu.kind= .int .i32:=⟨rfl,rfl,rfl⟩
def Ep:TI:={size:=1,bytes:=4,agg:=false,zero:=[.int .i32 0],kind:=.int .i32,id:=312}
@[simp] theorem Vq:Ep.size=1:=rfl
@[simp] theorem Xa:Ep.agg=false∧Ep.zero=[.int .i32 0]∧Ep.kind= .int .i32:=⟨rfl,rfl,rfl⟩
def Aa:TI:={size:=11,bytes:=48,agg:=true,zero:=[.int .u64 0,.int .u64 0,.int .u32 0,.int .u8 0,.int .u8 0,.int .u8 0,.int .u8 0,.nilfn,.nil,.int .i32 0,.int .i32 0],kind:=.struct [(0,12,1),(1,12,1),(2,226,1),(3,308,1),(4,5,1),(5,5,1),(6,309,1),(7,310,1),(8,264,1),(9,311,1),(10,312,1)],id:=313}
@[simp] theorem FI:Aa.size=11:=rfl
@[simp] theorem Fx:Aa.agg=true∧Aa.zero=[.int .u64 0,.int .u64 0,.int .u32 0,.int .u8 0,.int .u8 0,.int .u8 0,.int .u8 0,.nilfn,.nil,.int .i32 0,.int .i32 0]∧Aa.kind= .struct [(0,12,1),(1,12,1),(2,226,1),(3,308,1),(4,5,1),(5,5,1),(6,309,1),(7,310,1),(8,264,1),(9,311,1),(10,312,1)]:=⟨rfl,rfl,rfl⟩
def HW:TI:={size:=11,bytes:=48,agg:=true,zero:=[.int .u64 0,.int .u64 0,.int .u32 0,.int .u8 0,.int .u8 0,.int .u8 0,.int .u8 0,.nilfn,.nil,.int .i32 0,.int .i32 0],kind:=.struct [(0,12,1),(1,12,1),(2,226,1),(3,308,1),(4,5,1),(5,5,1),(6,309,1),(7,310,1),(8,264,1),(9,311,1),(10,312,1)],id:=314}
@[simp] theorem Xi:HW.size=11:=rfl
@[simp] theorem ZK:HW.agg=true∧HW.zero=[.int .u64 0,.int .u64 0,.int .u32 0,.int .u8 0,.int .u8 0,.int .u8 0,.int .u8 0,.nilfn,.nil,.int .i32 0,.int .i32 0]∧HW.kind= .struct [(0,12,1),(1,12,1),(2,226,1),(3,308,1),(4,5,1),(5,5,1),(6,309,1),(7,310,1),(8,264,1),(9,311,1),(10,312,1)]:=⟨rfl,rfl,rfl⟩
def J3:TI:={size:=0,bytes:=0,agg:=true,zero:=[],kind:=.struct [],id:=315}
@[simp] theorem Yw:J3.size=0:=rfl
@[simp] theorem bC:J3.agg=true∧J3.zero=[]∧J3.kind= .struct []:=⟨rfl,rfl,rfl⟩
def BJ:TI:={size:=3,bytes:=32,agg:=true,zero:=[.int .i64 0,.str [],.int .i64 0],kind:=.struct [(0,3,1),(1,9,1),(2,3,1)],id:=316}
@[simp] theorem JY:BJ.size=3:=rfl
@[simp] theorem KA:BJ.agg=true∧BJ.zero=[.int .i64 0,.str [],.int .i64 0]∧BJ.kind= .struct [(0,3,1),(1,9,1),(2,3,1)]:=⟨rfl,rfl,rfl⟩
def D3:TI:={size:=3,bytes:=32,agg:=true,zero:=[.int .i64 0,.str [],.int .i64 0],kind:=.struct [(0,3,1),(1,9,1),(2,3,1)],id:=317}
@[simp] theorem Ud:D3.size=3:=rfl
@[simp] theorem V6:D3.agg=true∧D3.zero=[.int .i64 0,.str [],.int .i64 0]∧D3.kind= .struct [(0,3,1),(1,9,1),(2,3,1)]:=⟨rfl,rfl,rfl⟩
def bp:Nat→TI
 |1=>QB
 |2=>M7
 |3=>AR
 |4=>G4
 |5=>IB
 |6=>Ci
 |7=>AZ
 |8=>Cf
 |9=>AM
 |10=>Ce
 |12=>Ix
 |16=>CM
 |17=>Fl
 |20=>GX
 |21=>Md
 |22=>C5
 |23=>Gl
 |24=>Bl
 |25=>BV
 |26=>AH
 |27=>DY
 |29=>BA
 |30=>D6
 |31=>Cg
 |32=>Ax
 |33=>DR
 |34=>Bv
 |35=>E1
 |40=>BG
 |41=>EP
 |42=>AW
 |46=>Bz
 |47=>BS
 |48=>Ey
 |49=>CV
 |50=>A5
 |51=>BE
 |52=>Bi
 |53=>AP
 |54=>Cr
 |56=>Ad
 |61=>Ay
 |62=>DP
 |63=>Cj
 |67=>D9
 |69=>Bt
 |70=>Eo
 |71=>DA
 |77=>Ae
 |78=>Cw
 |80=>CY
 |81=>Ac
 |82=>AI
 |89=>BY
 |90=>AY
 |91=>AE
 |94=>AU
 |95=>Ef
 |96=>AT
 |98=>EQ
 |100=>Dm
 |102=>Df
 |104=>Dj
 |105=>H8
 |106=>Am
 |107=>GY
 |108=>Af
 |109=>D8
 |112=>EA
 |121=>C0
 |124=>A0
 |125=>Dq
 |129=>Dh
 |130=>Ar
 |131=>Fh
 |134=>Cp
 |149=>Bq
 |151=>Ak
 |152=>EU
 |153=>B5
 |155=>BP
 |156=>Ev
 |157=>A3
 |158=>EX
 |160=>Mc
 |163=>Bh
 |164=>Bx
 |165=>A7
 |166=>B3
 |167=>AX
 |168=>DF
 |173=>Bf
 |174=>Cm
 |175=>B8
 |176=>An
 |189=>BD
 |190=>Bs
 |191=>C1
 |196=>Cb
 |197=>Aq
 |198=>EZ
 |199=>BM
 |200=>A2
 |201=>B7
 |202=>BW
 |204=>BQ
 |205=>A4
 |206=>CD
 |207=>Ba
 |209=>B4
 |210=>As
 |219=>FW
 |221=>Et
 |224=>By
 |225=>Gq
 |226=>KW
 |228=>C4
 |229=>FD
 |230=>A6
 |231=>CS
 |232=>CT
 |233=>Mv
 |239=>Bc
 |240=>Au
 |241=>Bd
 |242=>Bg
 |243=>Az
 |244=>Bm
 |247=>Pf
 |249=>Ec
 |250=>Be
 |252=>Eq
 |253=>Aj
 |254=>FO
 |255=>Bb
 |256=>Gm
 |258=>Ez
 |264=>I1
 |266=>BC
 |267=>Bn
 |270=>BH
 |271=>Bp
 |273=>Ab
 |274=>Dn
 |305=>B9
 |306=>BR
 |307=>CZ
 |308=>Gd
 |309=>Ho
 |310=>A8
 |311=>Eu
 |312=>Ep
 |313=>Aa
 |314=>HW
 |315=>J3
 |316=>BJ
 |317=>D3
 |n=>{size:=0,bytes:=0,agg:=false,zero:=[],kind:=match n with|0|36|44|55|58|64|72|87|113|115|119|132|140|142|145|161|178|183|194|216|234|261|280|283|285|291=>.tuple|_=>.other}
def dh:Nat→Nat→Bool
 |3,3=>true
 |3,7=>true
 |3,8=>true
 |4,3=>true
 |4,4=>true
 |4,7=>true
 |4,13=>true
 |4,15=>true
 |4,17=>true
 |5,2=>true
 |5,5=>true
 |5,7=>true
 |5,15=>true
 |6,3=>true
 |6,5=>true
 |6,8=>true
 |6,10=>true
 |7,1=>true
 |7,4=>true
 |7,5=>true
 |7,9=>true
 |9,4=>true
 |10,4=>true
 |12,4=>true
 |13,2=>true
 |13,5=>true
 |13,6=>true
 |14,6=>true
 |14,10=>true
 |14,18=>true
 |15,3=>true
 |15,6=>true
 |15,14=>true
 |17,7=>true
 |21,6=>true
 |22,4=>true
 |23,1=>true
 |23,3=>true
 |23,4=>true
 |23,5=>true
 |26,1=>true
 |27,2=>true
 |27,3=>true
 |27,4=>true
 |27,6=>true
 |28,2=>true
 |28,3=>true
 |29,3=>true
 |29,4=>true
 |29,5=>true
 |29,6=>true
 |30,2=>true
 |30,4=>true
 |30,6=>true
 |31,4=>true
 |32,2=>true
 |33,1=>true
 |34,7=>true
 |34,12=>true
 |34,13=>true
 |34,15=>true
 |34,17=>true
 |35,1=>true
 |36,2=>true
 |39,1=>true
 |40,1=>true
 |43,2=>true
 |43,3=>true
 |43,4=>true
 |44,5=>true
 |45,3=>true
 |45,6=>true
 |45,8=>true
 |45,10=>true
 |46,2=>true
 |50,6=>true
 |54,2=>true
 |54,7=>true
 |59,2=>true
 |60,2=>true
 |61,2=>true
 |63,9=>true
 |64,1=>true
 |65,2=>true
 |65,4=>true
 |68,8=>true
 |68,10=>true
 |69,7=>true
 |69,10=>true
 |74,3=>true
 |74,8=>true
 |74,10=>true
 |75,1=>true
 |76,1=>true
 |77,1=>true
 |79,2=>true
 |82,8=>true
 |84,4=>true
 |88,10=>true
 |91,8=>true
 |92,9=>true
 |93,2=>true
 |93,7=>true
 |93,11=>true
 |97,11=>true
 |98,1=>true
 |99,3=>true
 |99,6=>true
 |99,8=>true
 |100,4=>true
 |101,1=>true
 |101,2=>true
 |102,5=>true
 |105,1=>true
 |116,4=>true
 |117,5=>true
 |119,5=>true
 |126,3=>true
 |126,11=>true
 |128,4=>true
 |128,7=>true
 |128,8=>true
 |129,5=>true
 |131,1=>true
 |136,2=>true
 |137,4=>true
 |137,7=>true
 |137,8=>true
 |138,5=>true
 |139,2=>true
 |139,3=>true
 |148,1=>true
 |149,7=>true
 |150,1=>true
 |151,6=>true
 |152,4=>true
 |158,6=>true
 |159,4=>true
 |214,4=>true
 |_,_=>false
def ah:Nat→Nat→List Nat×List Nat
 |3,8=>([22],[])
 |4,8=>([44],[3,4])
 |4,23=>([129],[15,17])
 |5,14=>([70],[7])
 |5,19=>([83],[])
 |12,4=>([10],[])
 |13,4=>([14],[2])
 |14,5=>([36],[6,10])
 |15,4=>([],[3,6])
 |18,3=>([3,7],[])
 |28,4=>([5],[2,3])
 |30,3=>([11],[2,4])
 |35,3=>([3,7],[1])
 |42,1=>([],[])
 |45,3=>([17],[3,8])
 |51,3=>([3,4],[])
 |51,6=>([3,5],[])
 |51,11=>([6,7],[])
 |74,3=>([27],[])
 |74,11=>([59],[])
 |75,2=>([3],[1])
 |76,3=>([3,4],[1])
 |77,3=>([3,4],[1])
 |78,4=>([2,17],[])
 |85,3=>([3,11],[])
 |86,3=>([3,11],[])
 |87,6=>([0,4,5,6],[])
 |89,4=>([5,6,7],[])
 |90,7=>([6],[])
 |93,3=>([22],[2])
 |93,11=>([9,45],[2])
 |96,3=>([0,3,4],[])
 |96,5=>([5],[])
 |97,6=>([32],[])
 |99,5=>([29],[6])
 |108,3=>([7,8],[])
 |111,4=>([3],[])
 |112,3=>([5,6],[])
 |113,2=>([5],[])
 |114,3=>([5,6],[])
 |115,3=>([3,4],[])
 |119,3=>([3,8],[])
 |120,4=>([4,13],[])
 |120,12=>([7],[])
 |121,3=>([3,7],[])
 |126,16=>([66],[])
 |130,4=>([5],[])
 |131,4=>([3],[1])
 |136,2=>([5],[2])
 |140,2=>([3],[])
 |149,3=>([5,10],[])
 |150,2=>([8],[1])
 |151,2=>([12],[])
 |158,2=>([12],[])
 |160,2=>([7],[])
 |161,0=>([1],[])
 |_,_=>([],[])
def Zl:List Nat:=[1,2,3,4,5,6,7,8,9,10,12,16,17,20,21,22,23,24,25,26,27,29,30,31,32,33,34,35,40,41,42,46,47,48,49,50,51,52,53,54,56,61,62,63,67,69,70,71,77,78,80,81,82,89,90,91,94,95,96,98,100,102,104,105,106,107,108,109,112,121,124,125,129,130,131,134,149,151,152,153,155,156,157,158,160,163,164,165,166,167,168,173,174,175,176,189,190,191,196,197,198,199,200,201,202,204,205,206,207,209,210,219,221,224,225,226,228,229,230,231,232,233,239,240,241,242,243,244,247,249,250,252,253,254,255,256,258,264,266,267,270,271,273,274,305,306,307,308,309,310,311,312,313,314,315,316,317]
def ev:Nat:=533931573829036425805510797572852318908689773841888875591938140559269193285004014669377337235454
def WR(t:Nat):Bool:=Nat.testBit ev t
def bw:List Nat:=[7,8,29,30,32,33,34,35,46,47,69,70,71,77,78,209,210,224,225,315,316,317]
def Yj:Nat→Bool
 |7=>true
 |8=>true
 |29=>true
 |30=>true
 |32=>true
 |33=>true
 |34=>true
 |35=>true
 |46=>true
 |47=>true
 |69=>true
 |70=>true
 |71=>true
 |77=>true
 |78=>true
 |209=>true
 |210=>true
 |224=>true
 |225=>true
 |315=>true
 |316=>true
 |317=>true
 |_=>false
def Z0:Nat→Bool
 |176=>true
 |256=>true
 |_=>false
def Sw(t:Nat)(m:String):Option Nat:=
 match t with
 |249=>if m= "Len" then some Nc else if m= "Less" then some NB else if m= "Pop" then some Nk else if m= "Swap" then some Mt else none
 |_=>none
def eo:Nat→Nat→Bool
 |78,2=>true
 |78,3=>true
 |78,4=>true
 |78,38=>true
 |78,40=>true
 |78,43=>true
 |_,_=>false
def C:Ctx:={ty:=bp,has:=WR,eqk:=Yj,loc:=dh,byref:=Z0,meth:=Sw,live:=ah,tk:=eo}
@[simp] theorem eu:C.meth=Sw:=rfl
noncomputable def En(w0:World):Env:=⟨Tryz.prog,C,w0⟩
theorem UQ{m n t:Nat}(h:Nat.ble (m.log2+1) n=true)(c:¬t < n):m.testBit t=false:=by
 by_cases h0:m=0
 ·rw[h0];exact Nat.zero_testBit t
 ·exact Nat.testBit_lt_two_pow (Nat.lt_of_lt_of_le ((Nat.log2_lt h0).1 (Nat.le_of_ble_eq_true h)) (Nat.pow_le_pow_right (by decide) (Nat.le_of_not_lt c)))
theorem XO:∀t,WR t=true→Zl.elem t=true:=by
 intro t h
 by_cases c:t < 318
 ·have h2:=List.all_eq_true.1 (show (List.range 318).all (fun t=>!(WR t)||Zl.elem t)=true by kernel_rfl) t (List.mem_range.2 c)
  rw[h] at h2;simpa using h2
 ·unfold WR at h;rw[UQ (n:=318) (by kernel_rfl) c] at h
  cases h
theorem XN:∀t,Yj t=true→bw.elem t=true:=by
 intro t h;unfold Yj at h;split at h<;>first|rfl|cases h
theorem dz:Zl.all (fun t=>O4 Tryz.prog t (bp t))=true:=by kernel_rfl
theorem dr:bw.all (fun t=>Ke Tryz.prog t (bp t).zero)=true:=by kernel_rfl
theorem dU(v:Value)(w:World):(method (Tryz.prog.types.size+Made.depth) 249 v "Len").run Tryz.prog w= .ok (141,v) w:=by kernel_rfl
theorem dt(v:Value)(w:World):(method (Tryz.prog.types.size+Made.depth) 249 v "Less").run Tryz.prog w= .ok (213,v) w:=by kernel_rfl
theorem dV(v:Value)(w:World):(method (Tryz.prog.types.size+Made.depth) 249 v "Pop").run Tryz.prog w= .ok (214,v) w:=by kernel_rfl
theorem dv(v:Value)(w:World):(method (Tryz.prog.types.size+Made.depth) 249 v "Swap").run Tryz.prog w= .ok (215,v) w:=by kernel_rfl
theorem bt:∀t m g,Sw t m=some g→∀v w,(method (Tryz.prog.types.size+Made.depth) t v m).run Tryz.prog w= .ok (g,v) w:=by
 intro t m g h v w;unfold Sw at h;split at h
 ·split at h
  ·rename_i e;subst e;cases h;exact dU v w
  split at h
  ·rename_i e;subst e;cases h;exact dt v w
  split at h
  ·rename_i e;subst e;cases h;exact dV v w
  split at h
  ·rename_i e;subst e;cases h;exact dv v w
  cases h
 ·cases h
theorem agree(w0:World):Agree (En w0):=YH (En w0) Zl bw XO XN dz dr bt
theorem mixed:Tryz.prog.follows .mixedOrders=true:=by kernel_rfl
theorem My(w0:World):HH (En w0) (AN (En w0)):=fun _ _ _ _ h=>h
theorem HI(w0:World):CX (AN (En w0)):=fun g xs S Q Q' h hq=>⟨h.1,fun G w hr hro args' hl ha=>(h.2 G w hr hro args' hl ha).mono fun e w' ⟨v,r,S',G',h1,h2,h3⟩=>⟨v,r,S',G',h1,hq _ _ h2,h3⟩⟩
theorem eI(w0:World){n:Nat}{fn:Func}(hf:Tryz.prog.funcs[n]? =some fn)(hname:(fn.name== "runtime.NumGoroutine")=false) {args:List AV} {S:St} {Q:AV→St→Prop}
  (h:WF C (AN (En w0)) n (Drw C (AN (En w0)) n) fn args S Q):AN (En w0) n args S Q:=
 To (E:=En w0) (agree w0) (My w0) (HI w0) (RO (agree w0) (My w0) (HI w0) mixed) (QH (HI w0)) hf hname h
abbrev AC(w0:World):=AN (En w0)
abbrev CaT:=Nat→List AV→St→(AV→St→Prop)→Prop
abbrev QT:=AV→St→Prop
theorem BK(w0:World){n:Nat}{fn:Func}(hf:Tryz.prog.funcs[n]? =some fn){args:List AV}{S:St}{Q:QT}{P:Prop}(h:P)(hname:(fn.name== "runtime.NumGoroutine")=false:=by kernel_rfl) (e:WF C (AN (En w0)) n (Drw C (AN (En w0)) n) fn args S Q=P:=by kernel_rfl):AN (En w0) n args S Q:=eI w0 hf hname (by rw[e];exact h)
theorem SE{w0:World}{g:Nat}{xs:List AV}{S:St}{Q Q':AV→St→Prop}(h:AC w0 g xs S Q)(hq:∀r S',Q r S'→Q' r S'):AC w0 g xs S Q':=HI w0 g xs S Q Q' h hq
abbrev Kk:=@Tryz.underlying3
abbrev Zj:=@Tryz.underlying4
abbrev Yt:=@Tryz.underlying5
abbrev YQ:=@Tryz.isAgg5
abbrev Ya:=@Tryz.sizeOf5
abbrev Yl:=@Tryz.zeroValue5
abbrev Iz:=@Tryz.underlying9
abbrev DI:=@Tryz.underlying40
abbrev UR:=@Tryz.underlying42
abbrev RP:=@Tryz.underlying78
abbrev Ox:=@Tryz.underlying89
abbrev EO:=@Tryz.underlying91
abbrev Q1:=@Tryz.underlying210
theorem Wo:Tryz.prog.cellsOf C3=1:=by kernel_rfl
theorem KG:Tryz.prog.cellsOf L4=7:=by kernel_rfl
theorem Qo:Tryz.prog.cellsOf FP=2:=by kernel_rfl
abbrev Nh:=@Tryz.func106
abbrev Mj:=@Tryz.func124
abbrev I4:=@Tryz.func133
set_option maxHeartbeats 2000000
open Go.Proofs
def OC(Ca:CaT)(a0:List (List AV))(a0r:Rt)(S0:St)(Q:QT):Prop:=ifK (.bool (decide ((List.length a0:Int) > 8))) (Q (.int .i64 0) S0) (AK (fun (S_5:St)=>Q (.int .i64 1) S_5) fun j_2=>DK ([(.int .i64 0)],[]) (fun v bx=>([v 10],[])) (fun nx v bx S=>AA (AJ .lss (v 10) (.int .i64 (List.length a0:Int))) fun t11=>ifK t11 (AA (BB AE (.vs 7 a0 (Rt.strip a0r)) (v 10)) fun t12=>AA (Ap AE S t12) fun t13=>AA (Ai AE (some AE.zero) 0 (AV.strip t13)) fun b4=>AA (AB AE (some b4) 0) fun t14=>A1 Ca GV [(AV.strip t14)] S fun t15 S_2=>AA (AJ .eql t15 (.int .i64 0)) fun t16=>AK (fun (x20:AV) (S_4:St)=>AA (AS (AV.strip t16) (.bool true) x20) fun t21=>ifK (AV.strip t21) (Q (.int .i64 0) S_4) (AA (AJ .add (v 10) (.int .i64 1)) fun t22=>nx ([(AV.strip t22)],[]) S_4)) fun j=>ifK (AV.strip t16) (j (.tup []) S_2) (AA (AB AE (some b4) 0) fun t18=>A1 Ca GT [(AV.strip t18)] S_2 fun t19 S_3=>AA (unA .not t19) fun t20=>j t20 S_3)) (j_2 S)) S0)
theorem SR{w0 a0 a0r S0 Q}(h:OC (AN (En w0)) a0 a0r S0 Q):AC w0 J1 [(.vs 7 a0 a0r)] S0 Q:=BK w0 Tryz.func12 h
def LJ(Ca:CaT)(a0:List (List AV))(a0r:Rt)(S0:St)(Q:QT):Prop:=ifK (.bool (decide ((List.length a0:Int) > 8))) (Q (.tup [(.agg [(.vs 2 [] .nil),(.int .i64 0)]),(.bool false)]) S0) (AK (fun (y2:Option (List AV)) (S_5:St)=>Ca JS [(.vs 7 a0 (Rt.strip (Rt.strip a0r)))] S_5 fun t30 S_6=>AA (Ah t30 0) fun t31=>AA (Ah (AQ t30 0) 1) fun t32=>AA (Ai AH (some [(.vs 2 [] .nil),(.int .i64 0)]) 0 t31) fun b6=>AA (AB AH (some b6) 0) fun t33=>AA (AJ .eql (AV.strip t32) (.int .i64 0)) fun t35=>AK (fun (x41:AV) (S_8:St)=>AA (AS (AV.strip t35) x41 (.bool false)) fun t42=>AA (Ai AH y2 0 (AV.strip t33)) fun b2_2=>AA ((AB AH (some b2_2) 0).map AV.strip) fun r2_2=>Q (.tup [(AV.flat r2_2),(AV.flat (AV.strip t42))]) S_8) fun j_2=>ifK (AV.strip t35) (AA (AB AH (some b6) 0) fun t37=>A1 Ca DV [(AV.strip t37)] S_6 fun t38 S_7=>AA (AJ .eql t38 (.int .i64 (List.length a0:Int))) fun t41=>j_2 t41 S_7) (j_2 (.tup []) S_6)) fun j_3=>DK ([(.int .i64 0)],[(some [(.vs 2 [] .nil),(.int .i64 0)])]) (fun v bx=>([v 14],[bx 2])) (fun nx v bx S=>AA (AJ .lss (v 14) (.int .i64 (List.length a0:Int))) fun t15=>ifK t15 (AA (BB AE (.vs 7 a0 (Rt.strip a0r)) (v 14)) fun t16=>AA (Ap AE S t16) fun t17=>AA (Ai AE (some AE.zero) 0 (AV.strip t17)) fun b5=>AA (AB AE (some b5) 0) fun t18=>A1 Ca GV [(AV.strip t18)] S fun t19 S_2=>AA (AJ .eql t19 (.int .i64 0)) fun t20=>AK (fun (x24:AV) (S_4:St)=>AA (AS (AV.strip t20) (.bool true) x24) fun t25=>ifK (AV.strip t25) (AA (Ai AH (bx 2) 0 (.agg [(.vs 2 [] .nil),(.int .i64 0)])) fun b2=>AA ((AB AH (some b2) 0).map AV.strip) fun r2=>Q (.tup [(AV.flat r2),(.bool false)]) S_4) (AA (AJ .add (v 14) (.int .i64 1)) fun t27=>nx ([(AV.strip t27)],[(bx 2)]) S_4)) fun j=>ifK (AV.strip t20) (j (.tup []) S_2) (AA (AB AE (some b5) 0) fun t22=>A1 Ca GT [(AV.strip t22)] S_2 fun t23 S_3=>AA (unA .not t23) fun t24=>j t24 S_3)) (j_3 (bx 2) S)) S0)
theorem QG{w0 a0 a0r S0 Q}(h:LJ (AN (En w0)) a0 a0r S0 Q):AC w0 Ic [(.vs 7 a0 a0r)] S0 Q:=BK w0 Tryz.func13 h
def Oe(Ca:CaT)(a0a:List (List AV))(a0ar:Rt)(a0b:Int)(a1:List UInt8)(a2:Bool)(S0:St)(Q:QT):Prop:=AA (Du AH (.agg [(.vs 2 a0a a0ar),(.int .i64 a0b)])) fun c3=>AA (AB AH (some c3) 0) fun t19=>A1 Ca Jx [(AV.strip t19)] S0 fun t20 S=>A1 Ca L3 [t20,(.str a1),(.bool a2)] S fun t23 S_2=>AA (Ah t23 0) fun t24=>AA (Ah (AQ t23 0) 1) fun t25=>AA (AJ .neq (AV.strip t25) (.int .i64 0)) fun t27=>ifK t27 (Q (.tup [(.agg AP.zero),(AV.flat (AV.strip t25))]) S_2) (DK ([],[(some c3),(some AP.zero)]) (fun v bx=>([],[bx 3,bx 6])) (fun nx v bx S_3=>A1 Ca EM [(AV.strip t24)] S_3 fun t32 S_4=>AA (Ah t32 0) fun t33=>AA (Ah (AQ t32 0) 1) fun t34=>AA (Ah (AQ (AQ t32 0) 1) 2) fun t35=>AA (Ah (AQ (AQ (AQ t32 0) 1) 2) 3) fun t36=>AA (unA .not (AV.strip t36)) fun t38=>ifK t38 (A1 Ca EY [(AV.strip t24)] S_4 fun t40 S_5=>AA (Ai AP (bx 6) 0 t40) fun b6=>AA ((AB AP (some b6) 0).map AV.strip) fun r6=>Q (.tup [(AV.flat r6),(.int .i64 0)]) S_5) (AA (AB AH (bx 3) 0) fun t42=>A1 Ca KY [(AV.strip t42),(AV.strip t34),(AV.strip t35)] S_4 fun t45 S_6=>AA (Ah t45 0) fun t46=>AA (Ah (AQ t45 0) 1) fun t47=>AA (Ai BE (some BE.zero) 0 t46) fun b14=>AK (fun (x16:AV) (S_9:St)=>AA (AB BE (some b14) 0) fun t64=>A1 Ca D0 [(AV.strip t24),(AV.strip t64),(AV.strip t47),(AV.strip x16)] S_9 fun t67 S_10=>AA (AJ .neq (AV.strip t67) (.int .i64 0)) fun t69=>ifK t69 (AA (Ai AP (bx 6) 0 (.agg AP.zero)) fun b6_2=>AA ((AB AP (some b6_2) 0).map AV.strip) fun r6_2=>Q (.tup [(AV.flat r6_2),(AV.flat (AV.strip t67))]) S_10) (nx ([],[(bx 3),(bx 6)]) S_10)) fun j_2=>AK (fun (x52:AV)=>AA (AS (AV.strip (AV.strip t47)) x52 (.bool false)) fun t53=>ifK (AV.strip t53) (AA (AB AH (bx 3) 0) fun t54=>AA (AB AR (some b14) 1) fun t57=>AA (AB AR (some b14) 2) fun t61=>A1 Ca DL [(AV.strip t54),(AV.strip t57)] S_6 fun t58 S_7=>A1 Ca DD [t58,(AV.strip t61)] S_7 fun t62 S_8=>j_2 t62 S_8) (j_2 (.str []) S_6)) fun j=>ifK (AV.strip (AV.strip t47)) (AA (AB AR (some b14) 0) fun t51=>AA (AJ .eql (AV.strip t51) (.int .i64 3)) fun t52=>j t52) (j (.tup [])))) S_2)
theorem TL{w0 a0a a0ar a0b a1 a2 S0 Q}(h:Oe (AN (En w0)) a0a a0ar a0b a1 a2 S0 Q):AC w0 IF [(.agg [(.vs 2 a0a a0ar),(.int .i64 a0b)]),(.str a1),(.bool a2)] S0 Q:=BK w0 Tryz.func15 h
def J4(Ca:CaT)(S0:St)(Q:QT):Prop:=Ca KU [(.str [120,121,122])] S0 fun t8 S=>Ca JB [(.vs 1 [] .nil),(.vs 7 [] .nil)] S fun t9 S_2=>AA (Cu 7 [t8,t9]) fun e10=>Ca JB [(.vs 1 [[(.str [97])],[(.str [100])]] .full),(.vs 7 e10 .full)] S_2 fun t11 S_3=>AA (Cu 7 [t11]) fun e12=>Ca JS [(.vs 7 e12 .full)] S_3 fun t13 S_4=>AA (Ah t13 0) fun t14=>AA (Ah (AQ t13 0) 1) fun t15=>AA (Ai AH (some [(.vs 2 [] .nil),(.int .i64 0)]) 0 t14) fun b1=>AA (AJ .neq (AV.strip t15) (.int .i64 0)) fun t17=>AK (fun (x21:AV) (S_6:St)=>AA (AS (AV.strip t17) (.bool true) x21) fun t22=>ifK (AV.strip t22) (Q (.bool false) S_6) (AA (AB AH (some b1) 0) fun t23=>A1 Ca GM [(AV.strip t23),(.agg [(.int .i64 4),(.str [97]),(.int .i64 1),(.int .i64 9),(.int .i64 0),(.str [])])] S_6 fun t25 S_7=>AA (Ai AI (some AI.zero) 0 t25) fun b3=>AA (AB AH (some b1) 0) fun t26=>A1 Ca GM [(AV.strip t26),(.agg [(.int .i64 4),(.str [100]),(.int .i64 0),(.int .i64 0),(.int .i64 0),(.str [])])] S_7 fun t28 S_8=>AA (Ai AI (some AI.zero) 0 t28) fun b4=>AA (AB AH (some b1) 0) fun t29=>A1 Ca GM [(AV.strip t29),(.agg [(.int .i64 3),(.str [97]),(.int .i64 0),(.int .i64 0),(.int .i64 0),(.str [])])] S_8 fun t31 S_9=>AA (Ai AI (some AI.zero) 0 t31) fun b5=>AA (AB AM (some b3) 5) fun t33=>AA (AJ .eql (AV.strip t33) (.str [121,122])) fun t34=>AK (fun (x38:AV)=>AA (AS (AV.strip t34) x38 (.bool false)) fun t39=>AK (fun (x43:AV)=>AA (AS (AV.strip (AV.strip t39)) x43 (.bool false)) fun t44=>AA (AS (AV.strip (AV.strip t44)) (.bool true) (.bool false)) fun t46=>Q (AV.strip t46) S_9) fun j_2=>ifK (AV.strip (AV.strip t39)) (AA (AB Cr (some b5) 0) fun t42=>AA (AJ .eql (AV.strip t42) (.int .i64 1)) fun t43=>j_2 t43) (j_2 (.tup []))) fun j_3=>ifK (AV.strip t34) (AA (AB Cr (some b4) 0) fun t37=>AA (AJ .eql (AV.strip t37) (.int .i64 5)) fun t38=>j_3 t38) (j_3 (.tup [])))) fun j=>ifK (AV.strip t17) (j (.tup []) S_4) (AA (AB AH (some b1) 0) fun t19=>A1 Ca DV [(AV.strip t19)] S_4 fun t20 S_5=>AA (AJ .neq t20 (.int .i64 1)) fun t21=>j t21 S_5)
theorem Ot{w0  S0 Q}(h:J4 (AN (En w0))  S0 Q):AC w0 Hn [] S0 Q:=BK w0 Tryz.func23 h
def QA(Ca:CaT)(a0:Int)(S0:St)(Q:QT):Prop:=AK (fun (x7:AV)=>AA (AS (.bool (decide (a0≥1))) x7 (.bool false)) fun t8=>Q (AV.strip t8) S0) fun j=>ifK (.bool (decide (a0≥1))) (j (.bool (decide (a0≤4)))) (j (.tup []))
theorem T6{w0 a0 S0 Q}(h:QA (AN (En w0)) a0 S0 Q):AC w0 Hu [(.int .i64 a0)] S0 Q:=BK w0 Tryz.func24 h
def Jb(Ca:CaT)(a0:Int)(S0:St)(Q:QT):Prop:=AK (fun (x7:AV)=>AA (AS (.bool (a0==2)) (.bool true) x7) fun t8=>AK (fun (x11:AV)=>AA (AS (AV.strip (AV.strip t8)) (.bool true) x11) fun t12=>Q (AV.strip t12) S0) fun j=>ifK (AV.strip (AV.strip t8)) (j (.tup [])) (j (.bool (a0==5)))) fun j_2=>ifK (.bool (a0==2)) (j_2 (.tup [])) (j_2 (.bool (a0==4)))
theorem Na{w0 a0 S0 Q}(h:Jb (AN (En w0)) a0 S0 Q):AC w0 EB [(.int .i64 a0)] S0 Q:=BK w0 Tryz.func25 h
def LZ(Ca:CaT)(a0a:Int)(a0b:List UInt8)(a0c a0d a0e:Int)(a0f:List UInt8)(S0:St)(Q:QT):Prop:=AA (Du Cw (.agg [(.int .i64 a0a),(.str a0b),(.int .i64 a0c),(.int .i64 a0d),(.int .i64 a0e),(.str a0f)])) fun c1=>AA (AB AR (some c1) 0) fun t4=>AA (AJ .eql (AV.strip t4) (.int .i64 4)) fun t5=>AK (fun (x14:AV)=>AA (AS (AV.strip t5) x14 (.bool false)) fun t15=>AK (fun (x24:AV)=>AA (AS (AV.strip (AV.strip t15)) (.bool true) x24) fun t25=>ifK (AV.strip t25) (Q (.int .i64 1) S0) (Q (.int .i64 0) S0)) fun j_3=>ifK (AV.strip (AV.strip t15)) (j_3 (.tup [])) (AA (AB AR (some c1) 0) fun t18=>AA (AJ .eql (AV.strip t18) (.int .i64 6)) fun t19=>AK (fun (x23:AV)=>AA (AS (AV.strip t19) x23 (.bool false)) fun t24=>j_3 (AV.strip t24)) fun j_2=>gK (AV.strip t19) (AA (AB AR (some c1) 3) fun t22=>AA (AJ .lss (AV.strip t22) (.int .i64 1)) fun t23=>j_2 t23) (j_2 (.tup [])) (j_2 (.tup [])))) fun j_4=>ifK (AV.strip t5) (AA (AB AR (some c1) 2) fun t8=>AA (AJ .lss (AV.strip t8) (.int .i64 0)) fun t9=>AK (fun (x13:AV)=>AA (AS (AV.strip t9) (.bool true) x13) fun t14=>j_4 (AV.strip t14)) fun j=>gK (AV.strip t9) (j (.tup [])) (AA (AB AR (some c1) 3) fun t12=>AA (AJ .lss (AV.strip t12) (.int .i64 0)) fun t13=>j t13) (j (.tup []))) (j_4 (.tup []))
theorem PL{w0 a0a a0b a0c a0d a0e a0f S0 Q}(h:LZ (AN (En w0)) a0a a0b a0c a0d a0e a0f S0 Q):AC w0 Er [(.agg [(.int .i64 a0a),(.str a0b),(.int .i64 a0c),(.int .i64 a0d),(.int .i64 a0e),(.str a0f)])] S0 Q:=BK w0 Tryz.func26 h
def Pj(Ca:CaT)(a0a:List (List AV))(a0ar:Rt)(a0b a1a:Int)(a1b:List UInt8)(a1c a1d a1e:Int)(a1f:List UInt8)(S0:St)(Q:QT):Prop:=AA (Du AH (.agg [(.vs 2 a0a a0ar),(.int .i64 a0b)])) fun c2=>AA (Du Cw (.agg [(.int .i64 a1a),(.str a1b),(.int .i64 a1c),(.int .i64 a1d),(.int .i64 a1e),(.str a1f)])) fun c3=>AA (AB AR (some c3) 0) fun t9=>A1 Ca Hu [(AV.strip t9)] S0 fun t10 S=>AA (unA .not t10) fun t11=>ifK t11 (Ca Dc [(.int .i64 1)] S fun t12 S_2=>AA (Ai AI (some AI.zero) 0 t12) fun b4=>AA ((AB AI (some b4) 0).map AV.strip) fun r4=>Q r4 S_2) (AA (AB Cw (some c3) 0) fun t13=>A1 Ca Er [(AV.strip t13)] S fun t14 S_3=>AA (AJ .neq (AV.strip t14) (.int .i64 0)) fun t16=>ifK t16 (A1 Ca Dc [(AV.strip t14)] S_3 fun t18 S_4=>AA (Ai AI (some AI.zero) 0 t18) fun b4_2=>AA ((AB AI (some b4_2) 0).map AV.strip) fun r4_2=>Q r4_2 S_4) (AA (AB AH (some c2) 0) fun t20=>AA (AB AM (some c3) 1) fun t22=>AA (AB AR (some c3) 0) fun t24=>A1 Ca EB [(AV.strip t24)] S_3 fun t25 S_5=>A1 Ca IF [(AV.strip t20),(AV.strip t22),t25] S_5 fun t26 S_6=>AA (Ah t26 0) fun t27=>AA (Ah (AQ t26 0) 1) fun t28=>AA (Ai AP (some AP.zero) 0 t27) fun b6=>AA (AJ .neq (AV.strip t28) (.int .i64 0)) fun t30=>ifK t30 (A1 Ca Dc [(AV.strip t28)] S_6 fun t32 S_7=>AA (Ai AI (some AI.zero) 0 t32) fun b4_3=>AA ((AB AI (some b4_3) 0).map AV.strip) fun r4_3=>Q r4_3 S_7) (AA (AB AH (some c2) 0) fun t33=>AA (AB Cw (some c3) 0) fun t34=>AA (AB AP (some b6) 0) fun t35=>A1 Ca Fc [(AV.strip t33),(AV.strip t34),(AV.strip t35)] S_6 fun t36 S_8=>AA (Ai AI (some AI.zero) 0 t36) fun b4_4=>AA ((AB AI (some b4_4) 0).map AV.strip) fun r4_4=>Q r4_4 S_8)))
theorem Tv{w0 a0a a0ar a0b a1a a1b a1c a1d a1e a1f S0 Q}(h:Pj (AN (En w0)) a0a a0ar a0b a1a a1b a1c a1d a1e a1f S0 Q):AC w0 GM [(.agg [(.vs 2 a0a a0ar),(.int .i64 a0b)]),(.agg [(.int .i64 a1a),(.str a1b),(.int .i64 a1c),(.int .i64 a1d),(.int .i64 a1e),(.str a1f)])] S0 Q:=BK w0 Tryz.func27 h
def NI(Ca:CaT)(a0a a0b a0c a0d a0e:Int)(a0f:List UInt8)(a0g:List (List AV))(a0gr:Rt)(a0h:Bool)(a1a a1b a1c a1d a1e:Int)(a1f:List UInt8)(a1g:List (List AV))(a1gr:Rt)(a1h:Bool)(S0:St)(Q:QT):Prop:=AA (Du AI (.agg [(.int .i64 a0a),(.int .i64 a0b),(.int .i64 a0c),(.int .i64 a0d),(.int .i64 a0e),(.str a0f),(.vs 1 a0g a0gr),(.bool a0h)])) fun c2=>AA (Du AI (.agg [(.int .i64 a1a),(.int .i64 a1b),(.int .i64 a1c),(.int .i64 a1d),(.int .i64 a1e),(.str a1f),(.vs 1 a1g a1gr),(.bool a1h)])) fun c3=>AA (AB Cr (some c2) 0) fun t7=>AA (AB Cr (some c3) 0) fun t9=>AA (AJ .neq (AV.strip t7) (AV.strip t9)) fun t10=>AK (fun (x16:AV)=>AA (AS (AV.strip t10) (.bool true) x16) fun t17=>AK (fun (x23:AV)=>AA (AS (AV.strip (AV.strip t17)) (.bool true) x23) fun t24=>AK (fun (x30:AV)=>AA (AS (AV.strip (AV.strip t24)) (.bool true) x30) fun t31=>AK (fun (x37:AV)=>AA (AS (AV.strip (AV.strip t31)) (.bool true) x37) fun t38=>AK (fun (x44:AV)=>AA (AS (AV.strip (AV.strip t38)) (.bool true) x44) fun t45=>AK (fun (x51:AV)=>AA (AS (AV.strip (AV.strip t45)) (.bool true) x51) fun t52=>AK (fun (x60:AV)=>AA (AS (AV.strip (AV.strip t52)) (.bool true) x60) fun t61=>ifK (AV.strip t61) (Q (.bool false) S0) (AK (fun (S_2:St)=>Q (.bool true) S_2) fun j_8=>DK ([(.int .i64 0)],[(some c2),(some c3)]) (fun v bx=>([v 5],[bx 2,bx 3])) (fun nx v bx S=>AA (bx 2) fun _=>AA (AB AW (bx 2) 6) fun t64=>AA (BU (AV.strip t64)) fun t65=>AA (AJ .lss (AV.strip (v 5)) t65) fun t66=>ifK t66 (AA (bx 2) fun _=>AA (AB AW (bx 2) 6) fun t70=>AA (BB AM (AV.strip t70) (AV.strip (v 5))) fun t72=>AA (Ap AM S t72) fun t73=>AA (bx 3) fun _=>AA (AB AW (bx 3) 6) fun t75=>AA (BB AM (AV.strip t75) (AV.strip (v 5))) fun t77=>AA (Ap AM S t77) fun t78=>AA (AJ .neq (AV.strip t73) (AV.strip t78)) fun t79=>ifK t79 (Q (.bool false) S) (AA (AJ .add (AV.strip (v 5)) (.int .i64 1)) fun t68=>nx ([t68],[(bx 2),(bx 3)]) S)) (j_8 S)) S0)) fun j=>ifK (AV.strip (AV.strip t52)) (j (.tup [])) (AA (AB AW (some c2) 6) fun t55=>AA (BU (AV.strip t55)) fun t56=>AA (AB AW (some c3) 6) fun t58=>AA (BU (AV.strip t58)) fun t59=>AA (AJ .neq t56 t59) fun t60=>j t60)) fun j_2=>ifK (AV.strip (AV.strip t45)) (j_2 (.tup [])) (AA (AB G4 (some c2) 7) fun t48=>AA (AB G4 (some c3) 7) fun t50=>AA (GC .bool .neq (AV.strip t48) (AV.strip t50)) fun t51=>j_2 t51)) fun j_3=>ifK (AV.strip (AV.strip t38)) (j_3 (.tup [])) (AA (AB AM (some c2) 5) fun t41=>AA (AB AM (some c3) 5) fun t43=>AA (AJ .neq (AV.strip t41) (AV.strip t43)) fun t44=>j_3 t44)) fun j_4=>ifK (AV.strip (AV.strip t31)) (j_4 (.tup [])) (AA (AB AR (some c2) 4) fun t34=>AA (AB AR (some c3) 4) fun t36=>AA (AJ .neq (AV.strip t34) (AV.strip t36)) fun t37=>j_4 t37)) fun j_5=>ifK (AV.strip (AV.strip t24)) (j_5 (.tup [])) (AA (AB AR (some c2) 3) fun t27=>AA (AB AR (some c3) 3) fun t29=>AA (AJ .neq (AV.strip t27) (AV.strip t29)) fun t30=>j_5 t30)) fun j_6=>ifK (AV.strip (AV.strip t17)) (j_6 (.tup [])) (AA (AB AR (some c2) 2) fun t20=>AA (AB AR (some c3) 2) fun t22=>AA (AJ .neq (AV.strip t20) (AV.strip t22)) fun t23=>j_6 t23)) fun j_7=>ifK (AV.strip t10) (j_7 (.tup [])) (AA (AB AR (some c2) 1) fun t13=>AA (AB AR (some c3) 1) fun t15=>AA (AJ .neq (AV.strip t13) (AV.strip t15)) fun t16=>j_7 t16)
theorem Q6{w0 a0a a0b a0c a0d a0e a0f a0g a0gr a0h a1a a1b a1c a1d a1e a1f a1g a1gr a1h S0 Q}(h:NI (AN (En w0)) a0a a0b a0c a0d a0e a0f a0g a0gr a0h a1a a1b a1c a1d a1e a1f a1g a1gr a1h S0 Q):AC w0 JO [(.agg [(.int .i64 a0a),(.int .i64 a0b),(.int .i64 a0c),(.int .i64 a0d),(.int .i64 a0e),(.str a0f),(.vs 1 a0g a0gr),(.bool a0h)]),(.agg [(.int .i64 a1a),(.int .i64 a1b),(.int .i64 a1c),(.int .i64 a1d),(.int .i64 a1e),(.str a1f),(.vs 1 a1g a1gr),(.bool a1h)])] S0 Q:=BK w0 Tryz.func28 h
def KQ(Ca:CaT)(a0a:List (List AV))(a0ar:Rt)(a0b a1a:Int)(a1b:List UInt8)(a1c a1d a1e:Int)(a1f a2a:List UInt8)(a2ba a2bba a2bbb:Int)(a2bc:List (List AV))(a2bcr:Rt)(S0:St)(Q:QT):Prop:=AA (Du AH (.agg [(.vs 2 a0a a0ar),(.int .i64 a0b)])) fun c3=>AA (Du Cw (.agg [(.int .i64 a1a),(.str a1b),(.int .i64 a1c),(.int .i64 a1d),(.int .i64 a1e),(.str a1f)])) fun c4=>AA (Du AP (.agg [(.str a2a),(.int .i64 a2ba),(.int .i64 a2bba),(.int .i64 a2bbb),(.vs 2 a2bc a2bcr)])) fun c5=>AA (AB AH (some c3) 0) fun t8=>AA (AB AR (some c5) 2) fun t12=>A1 Ca DL [(AV.strip t8),(AV.strip t12)] S0 fun t13 S=>AA (AB AR (some c4) 0) fun t16=>AA (AJ .eql (AV.strip t16) (.int .i64 1)) fun t17=>AK (fun (x20:AV)=>AA (AS (AV.strip t17) x20 (.bool false)) fun t21=>ifK (AV.strip t21) (AA (AB AR (some c5) 1) fun t24=>AA (Ck AI 1 [(1,(AV.strip t24)),(3,(.int .i64 (-1)))]) fun t25=>AA (Ai AI (some AI.zero) 0 t25) fun b6=>AA ((AB AI (some b6) 0).map AV.strip) fun r6=>Q r6 S) (AA (AB AR (some c4) 0) fun t28=>AA (AJ .eql (AV.strip t28) (.int .i64 1)) fun t29=>ifK t29 (AA (AB AR (some c5) 1) fun t32=>AA (AB AH (some c3) 0) fun t33=>AA (AB AR (some c5) 2) fun t37=>A1 Ca F8 [(AV.strip t33),(AV.strip t37)] S fun t38 S_2=>AA (Ck AI 1 [(1,(AV.strip t32)),(3,t38)]) fun t39=>AA (Ai AI (some AI.zero) 0 t39) fun b6_2=>AA ((AB AI (some b6_2) 0).map AV.strip) fun r6_2=>Q r6_2 S_2) (AA (AB AR (some c4) 0) fun t42=>AA (AJ .eql (AV.strip t42) (.int .i64 2)) fun t43=>AK (fun (x48:AV)=>AA (AS (AV.strip t43) x48 (.bool false)) fun t49=>ifK (AV.strip t49) (AA (AB AR (some c5) 1) fun t52=>AA (Ck AI 1 [(1,(AV.strip t52))]) fun t53=>AA (Ai AI (some AI.zero) 0 t53) fun b6_3=>AA ((AB AI (some b6_3) 0).map AV.strip) fun r6_3=>Q r6_3 S) (AA (AB AR (some c4) 0) fun t56=>AA (AJ .eql (AV.strip t56) (.int .i64 2)) fun t57=>ifK t57 (AA (AB AR (some c5) 1) fun t60=>AA (AB AR (some c5) 3) fun t65=>A1 Ca Ee [(AV.strip t13),(AV.strip t65)] S fun t66 S_3=>AA (Ck AI 1 [(1,(AV.strip t60)),(2,t66)]) fun t67=>AA (Ai AI (some AI.zero) 0 t67) fun b6_4=>AA ((AB AI (some b6_4) 0).map AV.strip) fun r6_4=>Q r6_4 S_3) (AA (AB AR (some c4) 0) fun t70=>AA (AJ .eql (AV.strip t70) (.int .i64 3)) fun t71=>AK (fun (x76:AV)=>AA (AS (AV.strip t71) x76 (.bool false)) fun t77=>ifK (AV.strip t77) (AA (AB AR (some c5) 3) fun t82=>A1 Ca DD [(AV.strip t13),(AV.strip t82)] S fun t83 S_4=>AA (Ck AI 1 [(5,t83)]) fun t84=>AA (Ai AI (some AI.zero) 0 t84) fun b6_5=>AA ((AB AI (some b6_5) 0).map AV.strip) fun r6_5=>Q r6_5 S_4) (AA (AB AR (some c4) 0) fun t87=>AA (AJ .eql (AV.strip t87) (.int .i64 4)) fun t88=>AK (fun (x93:AV)=>AA (AS (AV.strip t88) x93 (.bool false)) fun t94=>ifK (AV.strip t94) (Ca Dc [(.int .i64 5)] S fun t95 S_5=>AA (Ai AI (some AI.zero) 0 t95) fun b6_6=>AA ((AB AI (some b6_6) 0).map AV.strip) fun r6_6=>Q r6_6 S_5) (AA (AB AR (some c4) 0) fun t98=>AA (AJ .eql (AV.strip t98) (.int .i64 4)) fun t99=>ifK t99 (AA (AB AR (some c5) 3) fun t104=>AA (AB AR (some c4) 2) fun t106=>AA (AB AR (some c4) 3) fun t108=>A1 Ca Eb [(AV.strip t13),(AV.strip t104),(AV.strip t106),(AV.strip t108)] S fun t109 S_6=>AA (Ck AI 1 [(5,t109)]) fun t110=>AA (Ai AI (some AI.zero) 0 t110) fun b6_7=>AA ((AB AI (some b6_7) 0).map AV.strip) fun r6_7=>Q r6_7 S_6) (Ca Dc [(.int .i64 1)] S fun t111 S_7=>AA (Ai AI (some AI.zero) 0 t111) fun b6_8=>AA ((AB AI (some b6_8) 0).map AV.strip) fun r6_8=>Q r6_8 S_7))) fun j=>ifK (AV.strip t88) (AA (AB AR (some c5) 1) fun t92=>AA (AJ .eql (AV.strip t92) (.int .i64 2)) fun t93=>j t93) (j (.tup [])))) fun j_2=>ifK (AV.strip t71) (AA (AB AR (some c5) 1) fun t75=>AA (AJ .eql (AV.strip t75) (.int .i64 3)) fun t76=>j_2 t76) (j_2 (.tup []))))) fun j_3=>ifK (AV.strip t43) (AA (AB AR (some c5) 1) fun t47=>AA (AJ .eql (AV.strip t47) (.int .i64 2)) fun t48=>j_3 t48) (j_3 (.tup []))))) fun j_4=>ifK (AV.strip t17) (AA (GC .ptr .eql (AV.strip t13) .nil) fun t20=>j_4 t20) (j_4 (.tup []))
theorem Oh{w0 a0a a0ar a0b a1a a1b a1c a1d a1e a1f a2a a2ba a2bba a2bbb a2bc a2bcr S0 Q}(h:KQ (AN (En w0)) a0a a0ar a0b a1a a1b a1c a1d a1e a1f a2a a2ba a2bba a2bbb a2bc a2bcr S0 Q):AC w0 Fc [(.agg [(.vs 2 a0a a0ar),(.int .i64 a0b)]),(.agg [(.int .i64 a1a),(.str a1b),(.int .i64 a1c),(.int .i64 a1d),(.int .i64 a1e),(.str a1f)]),(.agg [(.str a2a),(.int .i64 a2ba),(.int .i64 a2bba),(.int .i64 a2bbb),(.vs 2 a2bc a2bcr)])] S0 Q:=BK w0 Tryz.func29 h
def QQ(Ca:CaT)(a0:List (List AV))(a0r:Rt)(S0:St)(Q:QT):Prop:=AK (fun (y2:Option (List AV)) (y4:Option (List AV)) (S_4:St)=>AA (AB AH y4 0) fun t36=>AA (Ai AH y2 0 (AV.strip t36)) fun b2_3=>AA ((AB AH (some b2_3) 0).map AV.strip) fun r2_3=>Q (.tup [(AV.flat r2_3),(.int .i64 0)]) S_4) fun j=>DK ([(.int .i64 0)],[(some [(.vs 2 [] .nil),(.int .i64 0)]),(some [(.vs 2 [] .nil),(.int .i64 0)])]) (fun v bx=>([v 11],[bx 2,bx 4])) (fun nx v bx S=>AA (AJ .lss (v 11) (.int .i64 (List.length a0:Int))) fun t12=>ifK t12 (AA (BB AE (.vs 7 a0 (Rt.strip a0r)) (v 11)) fun t13=>AA (Ap AE S t13) fun t14=>AA (Ai AE (some AE.zero) 0 (AV.strip t14)) fun b6=>AA (AB AE (some b6) 0) fun t16=>A1 Ca I7 [(AV.strip t16)] S fun t17 S_2=>AA (Ah t17 0) fun t18=>AA (Ah (AQ t17 0) 1) fun t19=>AA (AJ .neq (AV.strip t19) (.int .i64 0)) fun t21=>ifK t21 (AA (Ai AH (bx 2) 0 (.agg [(.vs 2 [] .nil),(.int .i64 0)])) fun b2=>AA ((AB AH (some b2) 0).map AV.strip) fun r2=>Q (.tup [(AV.flat r2),(AV.flat (AV.strip t19))]) S_2) (AA (AB AH (bx 4) 0) fun t25=>A1 Ca Fe [(AV.strip t25),(AV.strip t18)] S_2 fun t27 S_3=>AA (Ah t27 0) fun t28=>AA (Ah (AQ t27 0) 1) fun t29=>AA (Ah (AQ (AQ t27 0) 1) 2) fun t30=>AA (Ai AH (bx 4) 0 t28) fun b4=>AA (AJ .neq (AV.strip t30) (.int .i64 0)) fun t32=>ifK t32 (AA (Ai AH (bx 2) 0 (.agg [(.vs 2 [] .nil),(.int .i64 0)])) fun b2_2=>AA ((AB AH (some b2_2) 0).map AV.strip) fun r2_2=>Q (.tup [(AV.flat r2_2),(AV.flat (AV.strip t30))]) S_3) (AA (AJ .add (v 11) (.int .i64 1)) fun t35=>nx ([(AV.strip t35)],[(bx 2),(some b4)]) S_3))) (j (bx 2) (bx 4) S)) S0
theorem UJ{w0 a0 a0r S0 Q}(h:QQ (AN (En w0)) a0 a0r S0 Q):AC w0 JS [(.vs 7 a0 a0r)] S0 Q:=BK w0 Tryz.func30 h
def Pp(Ca:CaT)(a0:List (List AV))(a0r:Rt)(a1:List (List AV))(a1r:Rt)(S0:St)(Q:QT):Prop:=Ca CK [(.vs 1 a0 (Rt.strip (Rt.strip a0r)))] S0 fun t6 S=>Ca CW [(.vs 7 a1 (Rt.strip (Rt.strip a1r)))] S fun t8 S_2=>AA (Ck AE 1 [(0,(.int .i64 2)),(2,t6),(3,t8)]) fun t9=>AA (Ai AE (some AE.zero) 0 t9) fun b4=>AA ((AB AE (some b4) 0).map AV.strip) fun r4=>Q r4 S_2
theorem Td{w0 a0 a0r a1 a1r S0 Q}(h:Pp (AN (En w0)) a0 a0r a1 a1r S0 Q):AC w0 JB [(.vs 1 a0 a0r),(.vs 7 a1 a1r)] S0 Q:=BK w0 Tryz.func31 h
def IN(Ca:CaT)(a0a:List (List AV))(a0ar:Rt)(a0b:Int)(S0:St)(Q:QT):Prop:=AA (Du AH (.agg [(.vs 2 a0a a0ar),(.int .i64 a0b)])) fun c1=>AA (AB Bl (some c1) 0) fun t4=>AA (BU (AV.strip t4)) fun t5=>Q t5 S0
theorem Lu{w0 a0a a0ar a0b S0 Q}(h:IN (AN (En w0)) a0a a0ar a0b S0 Q):AC w0 DV [(.agg [(.vs 2 a0a a0ar),(.int .i64 a0b)])] S0 Q:=BK w0 Tryz.func33 h
def Ob(Ca:CaT)(a0a:List (List AV))(a0ar:Rt)(a0b:Int)(S0:St)(Q:QT):Prop:=AA (Du AH (.agg [(.vs 2 a0a a0ar),(.int .i64 a0b)])) fun c1=>AK (fun (x3:AV) (S_5:St)=>Q (AV.strip x3) S_5) fun j=>AA (AB AH (some c1) 0) fun t5=>A1 Ca DV [(AV.strip t5)] S0 fun t6 S=>DK ([(.vs 2 [] .nil),(.int .i64 0)],[(some c1)]) (fun v bx=>([v 3,v 7],[bx 1])) (fun nx v bx S_2=>AA (AJ .lss (v 7) t6) fun t8=>ifK t8 (AA (Ck BS 1 [(0,(AV.strip (AV.strip (v 7)))),(1,(.int .i64 0))]) fun t12=>AA (Cu 2 [t12]) fun e13=>AA (BN BS S_2 (v 3) (.vs 2 e13 .full)) fun t14=>AA (AB AH (bx 1) 0) fun t15=>A1 Ca DL [(AV.strip t15),(AV.strip (AV.strip (v 7)))] S_2 fun t17 S_3=>A1 Ca DC [t17,(.int .i64 0)] S_3 fun t18 S_4=>ifK t18 (j t14 S_4) (AA (AJ .add (v 7) (.int .i64 1)) fun t19=>nx ([t14,(AV.strip t19)],[(bx 1)]) S_4)) (j (v 3) S_2)) S
theorem Sm{w0 a0a a0ar a0b S0 Q}(h:Ob (AN (En w0)) a0a a0ar a0b S0 Q):AC w0 Jx [(.agg [(.vs 2 a0a a0ar),(.int .i64 a0b)])] S0 Q:=BK w0 Tryz.func35 h
def LW(Ca:CaT)(a0a:Int)(a0b:Bool)(a0c:List (List AV))(a0cr:Rt)(a0d:List (List AV))(a0dr:Rt)(a0e:Int)(a0f:List (List AV))(a0fr:Rt)(a0g:List UInt8)(S0:St)(Q:QT):Prop:=AA (Du AE (.agg [(.int .i64 a0a),(.bool a0b),(.vs 1 a0c a0cr),(.vs 7 a0d a0dr),(.int .i64 a0e),(.vs 2 a0f a0fr),(.str a0g)])) fun c1=>AA (CU AR (S0++[Obj.cells AR.zero Dp]) (.ptr S0.length 0) (.int .i64 400)) fun S=>AA (AB AE (some c1) 0) fun t4=>A1 Ca GO [(AV.strip t4),(.int .i64 30),(.ptr S0.length 0)] S fun t5 S_2=>AA (unA .not t5) fun t6=>ifK t6 (Q (.int .i64 0) S_2) (Q (.int .i64 1) S_2)
theorem P9{w0 a0a a0b a0c a0cr a0d a0dr a0e a0f a0fr a0g S0 Q}(h:LW (AN (En w0)) a0a a0b a0c a0cr a0d a0dr a0e a0f a0fr a0g S0 Q):AC w0 GV [(.agg [(.int .i64 a0a),(.bool a0b),(.vs 1 a0c a0cr),(.vs 7 a0d a0dr),(.int .i64 a0e),(.vs 2 a0f a0fr),(.str a0g)])] S0 Q:=BK w0 Tryz.func39 h
def LO(Ca:CaT)(a0a:Int)(a0b:Bool)(a0c:List (List AV))(a0cr:Rt)(a0d:List (List AV))(a0dr:Rt)(a0e:Int)(a0f:List (List AV))(a0fr:Rt)(a0g:List UInt8)(S0:St)(Q:QT):Prop:=AA (Du AE (.agg [(.int .i64 a0a),(.bool a0b),(.vs 1 a0c a0cr),(.vs 7 a0d a0dr),(.int .i64 a0e),(.vs 2 a0f a0fr),(.str a0g)])) fun c1=>AA (AB AR (some c1) 0) fun t4=>AA (AJ .eql (AV.strip t4) (.int .i64 2)) fun t5=>AK (fun (x8:AV) (S_2:St)=>AA (AS (AV.strip t5) x8 (.bool false)) fun t9=>AK (fun (x13:AV) (S_4:St)=>AA (AS (AV.strip (AV.strip t9)) x13 (.bool false)) fun t14=>AK (fun (x18:AV) (S_6:St)=>AA (AS (AV.strip (AV.strip t14)) x18 (.bool false)) fun t19=>Q (AV.strip t19) S_6) fun j=>ifK (AV.strip (AV.strip t14)) (AA (AB AE (some c1) 0) fun t16=>A1 Ca GW [(AV.strip t16)] S_4 fun t17 S_5=>AA (AJ .leq t17 (.int .i64 15)) fun t18=>j t18 S_5) (j (.tup []) S_4)) fun j_2=>ifK (AV.strip (AV.strip t9)) (AA (AB AE (some c1) 0) fun t11=>A1 Ca GS [(AV.strip t11)] S_2 fun t12 S_3=>AA (AJ .leq t12 (.int .i64 4096)) fun t13=>j_2 t13 S_3) (j_2 (.tup []) S_2)) fun j_3=>ifK (AV.strip t5) (AA (AB AE (some c1) 0) fun t7=>A1 Ca IA [(AV.strip t7)] S0 fun t8 S=>j_3 t8 S) (j_3 (.tup []) S0)
theorem PY{w0 a0a a0b a0c a0cr a0d a0dr a0e a0f a0fr a0g S0 Q}(h:LO (AN (En w0)) a0a a0b a0c a0cr a0d a0dr a0e a0f a0fr a0g S0 Q):AC w0 GT [(.agg [(.int .i64 a0a),(.bool a0b),(.vs 1 a0c a0cr),(.vs 7 a0d a0dr),(.int .i64 a0e),(.vs 2 a0f a0fr),(.str a0g)])] S0 Q:=BK w0 Tryz.func40 h
def Ps(Ca:CaT)(a0:List (List AV))(a0r:Rt)(a1:List UInt8)(a2:Bool)(S0:St)(Q:QT):Prop:=Ca FY [(.str a1)] S0 fun t13 S=>AA (Ah t13 0) fun t14=>AA (Ah (AQ t13 0) 1) fun t15=>AA (Ah (AQ (AQ t13 0) 1) 2) fun t16=>AA (AJ .neq (AV.strip t16) (.int .i64 0)) fun t18=>ifK t18 (Q (.tup [.nil,(AV.flat (AV.strip t16))]) S) (AA (Ck DF 1 [(0,(AV.strip t14)),(1,(.vs 2 [[(.str [47]),(.vs 2 a0 (Rt.strip (Rt.strip (Rt.strip a0r))))]] .full)),(2,(.bool a2))]) fun t25=>AA (Du DF t25) fun c26=>Q (.tup [(.ptr S.length 0),(.int .i64 0)]) (S++[Obj.cells c26 Bo]))
theorem T9{w0 a0 a0r a1 a2 S0 Q}(h:Ps (AN (En w0)) a0 a0r a1 a2 S0 Q):AC w0 L3 [(.vs 2 a0 a0r),(.str a1),(.bool a2)] S0 Q:=BK w0 Tryz.func41 h
def IM(Ca:CaT)(a0 a0o:Nat)(S0:St)(Q:QT):Prop:=AK (fun (S_6:St)=>Q (.tup [(.str []),(.vs 2 [] .nil),(.str []),(.bool false)]) S_6) fun j_2=>DK ([],[]) (fun v bx=>([],[])) (fun nx v bx S=>AA (Ap B3 S (.ptr a0 (a0o+4))) fun t9=>AA (GC .ptr .eql (AV.strip t9) .nil) fun t10=>AK (fun (x17:AV)=>AA (AS (AV.strip t10) x17 (.bool false)) fun t18=>ifK (AV.strip t18) (AA (Ap AW S (.ptr a0 (a0o+0))) fun t22=>AA (BB AM (AV.strip t22) (.int .i64 0)) fun t23=>AA (Ap AM S t23) fun t24=>AA (AJ .neq (AV.strip t24) (.str [46,46])) fun t25=>ifK t25 (AA (Ap AW S (.ptr a0 (a0o+0))) fun t35=>AA (BB AM (AV.strip t35) (.int .i64 0)) fun t36=>AA (Ap AM S t36) fun t37=>Ca Do [(.ptr a0 a0o)] S fun t27 S_2=>(AA (Ap AM S_2 t36) fun t37_2=>((AV.strip t37_2):AV)=(AV.strip t37))∧((AA (Ap AW S_2 (.ptr a0 (a0o+0))) fun t35_2=>((AV.strip t35_2):AV)=(AV.strip t35))∧(AA (He AM t27 0) fun t28=>Ca Do [(.ptr a0 a0o)] S_2 fun t30 S_3=>(AA (Ap AM S_3 t36) fun t37_3=>((AV.strip t37_3):AV)=(AV.strip t37))∧((AA (Ap AW S_3 (.ptr a0 (a0o+0))) fun t35_3=>((AV.strip t35_3):AV)=(AV.strip t35))∧(AA (He CV t30 1) fun t31=>Q (.tup [(AV.flat (AV.strip t28)),(AV.flat (AV.strip t31)),(AV.flat (AV.strip t37)),(.bool true)]) S_3))))) (AA (Ap AW S (.ptr a0 (a0o+0))) fun t42=>AA (Dv AM (AV.strip0 t42) (some (.int .i64 1)) none none) fun t43=>AA (CU AW (stripMem S (.ptr a0 (a0o+0))) (.ptr a0 (a0o+0)) t43) fun S_4=>AA (Ap A7 S_4 (.ptr a0 (a0o+1))) fun t49=>AA (BU (AV.strip t49)) fun t50=>AA (AJ .gtr t50 (.int .i64 1)) fun t51=>ifK t51 (AA (Ap A7 S_4 (.ptr a0 (a0o+1))) fun t56=>AA (Ap A7 S_4 (.ptr a0 (a0o+1))) fun t60=>AA (BU (AV.strip t60)) fun t61=>AA (AJ .sub t61 (.int .i64 1)) fun t62=>AA (Dv Bx (AV.strip t56) none (some t62) none) fun t63=>AA (CU A7 S_4 (.ptr a0 (a0o+1)) t63) fun S_5=>nx ([],[]) S_5) (nx ([],[]) S_4))) (j_2 S)) fun j=>ifK (AV.strip t10) (AA (Ap AW S (.ptr a0 (a0o+0))) fun t15=>AA (BU (AV.strip t15)) fun t16=>AA (AJ .gtr t16 (.int .i64 0)) fun t17=>j t17) (j (.tup []))) S0
theorem Lp{w0 a0 a0o S0 Q}(h:IM (AN (En w0)) a0 a0o S0 Q):AC w0 EM [(.ptr a0 a0o)] S0 Q:=BK w0 Tryz.func42 h
def Gj(Ca:CaT)(a0 a0o:Nat)(S0:St)(Q:QT):Prop:=AA (Ap B3 S0 (.ptr a0 (a0o+4))) fun t8=>AA (GC .ptr .neq (AV.strip t8) .nil) fun t9=>ifK t9 (AA (Ap B3 S0 (.ptr a0 (a0o+4))) fun t13=>AA (Lr (AV.strip t13)) fun t14=>AA (Ap AP S0 t14) fun t15=>AA (Ai AP (some AP.zero) 0 (AV.strip t15)) fun b2=>AA ((AB AP (some b2) 0).map AV.strip) fun r2=>Q r2 S0) (Ca Do [(.ptr a0 a0o)] S0 fun t17 S=>AA (Ai Bx (some [(.str []),(.vs 2 [] .nil)]) 0 t17) fun b3=>AA (AB AM (some b3) 0) fun t19=>AA (AB CV (some b3) 1) fun t21=>AA (Ck BE 1 [(0,(.int .i64 2)),(2,(AV.strip t21))]) fun t22=>AA (Ck AP 1 [(0,(AV.strip t19)),(1,t22)]) fun t23=>AA (Ai AP (some AP.zero) 0 t23) fun b4=>AK (fun (y4:Option (List AV))=>AA (AB AP y4 0) fun t34=>AA (Ai AP (some AP.zero) 0 (AV.strip t34)) fun b2_2=>AA ((AB AP (some b2_2) 0).map AV.strip) fun r2_2=>Q r2_2 S) fun j=>AA (AB CV (some b3) 1) fun t25=>AA (BU (AV.strip t25)) fun t26=>AA (AJ .gtr t26 (.int .i64 0)) fun t27=>ifK t27 (AA (AB CV (some b3) 1) fun t29=>AA (BB BS (AV.strip t29) (.int .i64 0)) fun t30=>AA (Ap BS S t30) fun t31=>AA (Ai BS (some b4) 2 (AV.strip t31)) fun b4_2=>j (some b4_2)) (j (some b4)))
theorem Ji{w0 a0 a0o S0 Q}(h:Gj (AN (En w0)) a0 a0o S0 Q):AC w0 EY [(.ptr a0 a0o)] S0 Q:=BK w0 Tryz.func43 h
def HY(Ca:CaT)(a0 a0o:Nat)(a1a a1ba a1bb:Int)(a1c:List (List AV))(a1cr:Rt)(a2:Bool)(a3:List UInt8)(S0:St)(Q:QT):Prop:=AA (Du BE (.agg [(.int .i64 a1a),(.int .i64 a1ba),(.int .i64 a1bb),(.vs 2 a1c a1cr)])) fun c5=>Ca EM [(.ptr a0 a0o)] S0 fun t16 S=>AA (Ah t16 0) fun t17=>AA (Ah (AQ t16 0) 1) fun t18=>AA (Ah (AQ (AQ t16 0) 1) 2) fun t19=>AA (Ah (AQ (AQ (AQ t16 0) 1) 2) 3) fun t20=>AA (unA .not (AV.strip t20)) fun t22=>ifK t22 (Q (.int .i64 1) S) (ifK (.bool (!a2)) (Q (.int .i64 2) S) (AA (Ap AW S (.ptr a0 (a0o+0))) fun t29=>AA (Dv AM (AV.strip0 t29) (some (.int .i64 1)) none none) fun t30=>AA (CU AW (stripMem S (.ptr a0 (a0o+0))) (.ptr a0 (a0o+0)) t30) fun S_2=>AA (Ap AW S_2 (.ptr a0 (a0o+0))) fun t36=>AA (BU (AV.strip t36)) fun t37=>AA (AJ .eql t37 (.int .i64 0)) fun t38=>AK (fun (S_8:St)=>Q (.int .i64 0) S_8) fun j_3=>AA (AB AR (some c5) 0) fun t50=>AA (AJ .eql (AV.strip t50) (.int .i64 3)) fun t51=>AK (fun (x60:AV)=>AA (AS (AV.strip t51) x60 (.bool false)) fun t61=>ifK (AV.strip t61) (Ca E8 [(.ptr a0 a0o),(.str a3)] S_2 fun t64 S_3=>Q t64 S_3) (AA (AB AR (some c5) 0) fun t67=>AA (AJ .eql (AV.strip t67) (.int .i64 2)) fun t68=>ifK t68 (AA (Ap A7 S_2 (.ptr a0 (a0o+1))) fun t73=>AA (Ap A7 S_2 (.ptr a0 (a0o+1))) fun t77=>AA (BU (AV.strip t77)) fun t78=>AA (Ap A7 S_2 (.ptr a0 (a0o+1))) fun t82=>AA (BU (AV.strip t82)) fun t83=>AA (Dv Bx (AV.strip t73) none (some t78) (some t83)) fun t84=>AA (AB CV (some c5) 3) fun t89=>A1 Ca HD [(AV.strip t17),(AV.strip t19)] S_2 fun t87 S_4=>(AA (Ap A7 S_4 (.ptr a0 (a0o+1))) fun t82_2=>((AV.strip t82_2):AV)=(AV.strip t82))∧((AA (Ap A7 S_4 (.ptr a0 (a0o+1))) fun t77_2=>((AV.strip t77_2):AV)=(AV.strip t77))∧((AA (Ap A7 S_4 (.ptr a0 (a0o+1))) fun t73_2=>((AV.strip t73_2):AV)=(AV.strip t73))∧(AA (Ck Bx 1 [(0,t87),(1,(AV.strip t89))]) fun t90=>AA (Cu 2 [t90]) fun e91=>AA (BN Bx S_4 t84 (.vs 2 e91 .full)) fun t92=>AA (CU A7 S_4 (.ptr a0 (a0o+1)) t92) fun S_5=>j_3 S_5)))) (AA (unA .not (AV.strip t38)) fun t97=>ifK t97 (Q (.int .i64 3) S_2) (AA (AB BE (some c5) 0) fun t43=>A1 Ca HD [(AV.strip t17),(AV.strip t19)] S_2 fun t42 S_6=>AA (Ck AP 1 [(0,t42),(1,(AV.strip t43))]) fun t44=>AA (Du AP t44) fun c45=>AA (CU B3 (S_6++[Obj.cells c45 GQ]) (.ptr a0 (a0o+4)) (.ptr S_6.length 0)) fun S_7=>j_3 S_7)))) fun j_2=>ifK (AV.strip t51) (AA (unA .not (AV.strip t38)) fun t54=>AK (fun (x59:AV)=>AA (AS (AV.strip t54) (.bool true) x59) fun t60=>j_2 (AV.strip t60)) fun j=>gK (AV.strip t54) (j (.tup [])) (AA (Ap G4 S_2 (.ptr a0 (a0o+2))) fun t59=>j (AV.strip t59)) (j (.tup []))) (j_2 (.tup []))))
theorem K9{w0 a0 a0o a1a a1ba a1bb a1c a1cr a2 a3 S0 Q}(h:HY (AN (En w0)) a0 a0o a1a a1ba a1bb a1c a1cr a2 a3 S0 Q):AC w0 D0 [(.ptr a0 a0o),(.agg [(.int .i64 a1a),(.int .i64 a1ba),(.int .i64 a1bb),(.vs 2 a1c a1cr)]),(.bool a2),(.str a3)] S0 Q:=BK w0 Tryz.func44 h
def OR(Ca:CaT)(a0a:List (List AV))(a0ar:Rt)(a0b:Int)(a1:List (List AV))(a1r:Rt)(a2:List UInt8)(S0:St)(Q:QT):Prop:=AA (Du AH (.agg [(.vs 2 a0a a0ar),(.int .i64 a0b)])) fun c3=>AK (fun (y8_3:Option (List AV)) (S_7:St)=>AA (AB BE y8_3 0) fun t77=>AA y8_3 fun _=>AA (AB AR y8_3 0) fun t79=>AA (AJ .neq (AV.strip t79) (.int .i64 0)) fun t80=>AA (Ai BE (some BE.zero) 0 (AV.strip t77)) fun b6=>AA ((AB BE (some b6) 0).map AV.strip) fun r6=>Q (.tup [(AV.flat r6),(AV.flat t80)]) S_7) fun j_4=>DK ([(.int .i64 0)],[(some c3),(some BE.zero)]) (fun v bx=>([v 17],[bx 3,bx 8])) (fun nx v bx S=>AA (AJ .lss (v 17) (.int .i64 (List.length a1:Int))) fun t18=>ifK t18 (AK (fun (y8_2:Option (List AV)) (S_6:St)=>AA (AJ .add (v 17) (.int .i64 1)) fun t76=>nx ([(AV.strip t76)],[(bx 3),y8_2]) S_6) fun j_3=>AA (BB BS (.vs 2 a1 (Rt.strip a1r)) (v 17)) fun t19=>AA (Ap BS S t19) fun t20=>AA (Ai BS (some [(.int .i64 0),(.int .i64 0)]) 0 (AV.strip t20)) fun b10=>AA (AB AH (bx 3) 0) fun t21=>AA (AB AR (some b10) 0) fun t23=>A1 Ca DL [(AV.strip t21),(AV.strip t23)] S fun t24 S_2=>AA (GC .ptr .eql (AV.strip t24) .nil) fun t26=>ifK t26 (j_3 (bx 8) S_2) (AA (AB AR (some b10) 1) fun t30=>A1 Ca EW [(AV.strip t24),(AV.strip t30),(.str a2)] S_2 fun t32 S_3=>AA (Ah t32 0) fun t33=>AA (Ah (AQ t32 0) 1) fun t34=>AA (unA .not (AV.strip t34)) fun t36=>ifK t36 (j_3 (bx 8) S_3) (A1 Ca EV [(AV.strip t24),(AV.strip t33)] S_3 fun t39 S_4=>AA (AJ .neq (AV.strip t39) (.int .i64 2)) fun t41=>ifK t41 (AA (bx 8) fun _=>AA (AB AR (bx 8) 0) fun t43=>AA (AJ .eql (AV.strip t43) (.int .i64 0)) fun t44=>AK (fun (x47:AV)=>AA (AS (AV.strip t44) x47 (.bool false)) fun t48=>ifK (AV.strip t48) (AA (AB AR (some b10) 0) fun t51=>AA (Ck BS 1 [(0,(AV.strip t51)),(1,(AV.strip t33))]) fun t53=>AA (Ck BE 1 [(0,(AV.strip t39)),(1,t53)]) fun t54=>AA (Ai BE (bx 8) 0 t54) fun b8=>j_4 (some b8) S_4) (j_4 (bx 8) S_4)) fun j=>ifK (AV.strip t44) (AA (AJ .neq (AV.strip t39) (.int .i64 4)) fun t47=>j t47) (j (.tup []))) (AK (fun (y8:Option (List AV))=>AA y8 fun _=>AA (AB CV y8 3) fun t65=>AA (AB AR (some b10) 0) fun t67=>AA (Ck BS 1 [(0,(AV.strip t67)),(1,(AV.strip t33))]) fun t69=>AA (Cu 2 [t69]) fun e70=>AA (BN BS S_4 (AV.strip0 t65) (.vs 2 e70 .full)) fun t71=>AA (C7 y8 3) fun _=>AA (Ai CV (C7 y8 3) 3 t71) fun b8_3=>A1 Ca DC [(AV.strip t24),(AV.strip t33)] S_4 fun t75 S_5=>ifK t75 (j_4 (some b8_3) S_5) (j_3 (some b8_3) S_5)) fun j_2=>AA (bx 8) fun _=>AA (AB AR (bx 8) 0) fun t56=>AA (AJ .eql (AV.strip t56) (.int .i64 0)) fun t57=>ifK t57 (AA (AB AR (some b10) 0) fun t60=>AA (Ck BS 1 [(0,(AV.strip t60)),(1,(AV.strip t33))]) fun t62=>AA (Ck BE 1 [(0,(AV.strip t39)),(1,t62)]) fun t63=>AA (Ai BE (bx 8) 0 t63) fun b8_2=>j_2 (some b8_2)) (j_2 (bx 8)))))) (j_4 (bx 8) S)) S0
theorem Sh{w0 a0a a0ar a0b a1 a1r a2 S0 Q}(h:OR (AN (En w0)) a0a a0ar a0b a1 a1r a2 S0 Q):AC w0 KY [(.agg [(.vs 2 a0a a0ar),(.int .i64 a0b)]),(.vs 2 a1 a1r),(.str a2)] S0 Q:=BK w0 Tryz.func45 h
def Im(Ca:CaT)(a0a:List (List AV))(a0ar:Rt)(a0b a1:Int)(S0:St)(Q:QT):Prop:=AA (Du AH (.agg [(.vs 2 a0a a0ar),(.int .i64 a0b)])) fun c2=>AK (fun (x12:AV)=>AA (AS (.bool (decide (a1 < 0))) (.bool true) x12) fun t13=>ifK (AV.strip t13) (Q .nil S0) (AA (AB Bl (some c2) 0) fun t15=>AA (BB Cm (AV.strip t15) (.int .i64 a1)) fun t17=>AA (D2 t17 1) fun t18=>AA (Ap C0 S0 t18) fun t19=>Q (AV.strip t19) S0)) fun j=>ifK (.bool (decide (a1 < 0))) (j (.tup [])) (AA (AB Bl (some c2) 0) fun t10=>AA (BU (AV.strip t10)) fun t11=>AA (AJ .geq (.int .i64 a1) t11) fun t12=>j t12)
theorem NN{w0 a0a a0ar a0b a1 S0 Q}(h:Im (AN (En w0)) a0a a0ar a0b a1 S0 Q):AC w0 DL [(.agg [(.vs 2 a0a a0ar),(.int .i64 a0b)]),(.int .i64 a1)] S0 Q:=BK w0 Tryz.func46 h
def FZ(Ca:CaT)(a0 a0o:Nat)(a1:Int)(S0:St)(Q:QT):Prop:=Ca CB [(.ptr a0 a0o),(.int .i64 a1)] S0 fun t7 S=>AA (He AE t7 0) fun t8=>AA (He AM (AV.strip t8) 6) fun t9=>Q (AV.strip t9) S
theorem Iw{w0 a0 a0o a1 S0 Q}(h:FZ (AN (En w0)) a0 a0o a1 S0 Q):AC w0 DD [(.ptr a0 a0o),(.int .i64 a1)] S0 Q:=BK w0 Tryz.func47 h
set_option maxHeartbeats 2000000
open Go.Proofs
def OT(Ca:CaT)(a0:List UInt8)(S0:St)(Q:QT):Prop:=Ca J2 [(.str a0)] S0 fun t6 S=>AA (Ck AE 1 [(0,(.int .i64 1)),(4,(.int .i64 (List.length a0:Int))),(5,t6)]) fun t7=>AA (Ai AE (some AE.zero) 0 t7) fun b2=>AA ((AB AE (some b2) 0).map AV.strip) fun r2=>Q r2 S
theorem Su{w0 a0 S0 Q}(h:OT (AN (En w0)) a0 S0 Q):AC w0 KU [(.str a0)] S0 Q:=BK w0 Tryz.func59 h
def LL(Ca:CaT)(a0:Int)(S0:St)(Q:QT):Prop:=Q (.agg [(.int .i64 a0),(.int .i64 0),(.int .i64 0),(.int .i64 0),(.int .i64 0),(.str []),(.vs 1 [] .nil),(.bool false)]) S0
theorem P8{w0 a0 S0 Q}(h:LL (AN (En w0)) a0 S0 Q):AC w0 Dc [(.int .i64 a0)] S0 Q:=BK w0 Tryz.func60 h
def Iy(Ca:CaT)(a0a:List (List AV))(a0ar:Rt)(a0b a1:Int)(S0:St)(Q:QT):Prop:=AA (Du AH (.agg [(.vs 2 a0a a0ar),(.int .i64 a0b)])) fun c2=>AK (fun (x12:AV)=>AA (AS (.bool (decide (a1 < 0))) (.bool true) x12) fun t13=>ifK (AV.strip t13) (Q (.int .i64 (-1)) S0) (AA (AB Bl (some c2) 0) fun t15=>AA (BB Cm (AV.strip t15) (.int .i64 a1)) fun t17=>AA (D2 t17 0) fun t18=>AA (Ap AR S0 t18) fun t19=>Q (AV.strip t19) S0)) fun j=>ifK (.bool (decide (a1 < 0))) (j (.tup [])) (AA (AB Bl (some c2) 0) fun t10=>AA (BU (AV.strip t10)) fun t11=>AA (AJ .geq (.int .i64 a1) t11) fun t12=>j t12)
theorem NG{w0 a0a a0ar a0b a1 S0 Q}(h:Iy (AN (En w0)) a0a a0ar a0b a1 S0 Q):AC w0 F8 [(.agg [(.vs 2 a0a a0ar),(.int .i64 a0b)]),(.int .i64 a1)] S0 Q:=BK w0 Tryz.func61 h
def Gi(Ca:CaT)(a0 a0o:Nat)(a1:Int)(S0:St)(Q:QT):Prop:=Ca CB [(.ptr a0 a0o),(.int .i64 a1)] S0 fun t7 S=>AA (He AE t7 0) fun t8=>AA (He AR (AV.strip t8) 4) fun t9=>Q (AV.strip t9) S
theorem Js{w0 a0 a0o a1 S0 Q}(h:Gi (AN (En w0)) a0 a0o a1 S0 Q):AC w0 Ee [(.ptr a0 a0o),(.int .i64 a1)] S0 Q:=BK w0 Tryz.func62 h
def Ge(Ca:CaT)(a0 a0o:Nat)(a1 a2 a3:Int)(S0:St)(Q:QT):Prop:=Ca CB [(.ptr a0 a0o),(.int .i64 a1)] S0 fun t12 S=>AA (Ai An (some An.zero) 0 t12) fun b9=>AA (AB AR (some b9) 4) fun t15=>AA (AB BY (some b9) 5) fun t18=>A1 Ca IU [(AV.strip t15),(AV.strip t18),(.int .i64 a2),(.int .i64 a3)] S fun t21 S_2=>Q t21 S_2
theorem Jn{w0 a0 a0o a1 a2 a3 S0 Q}(h:Ge (AN (En w0)) a0 a0o a1 a2 a3 S0 Q):AC w0 Eb [(.ptr a0 a0o),(.int .i64 a1),(.int .i64 a2),(.int .i64 a3)] S0 Q:=BK w0 Tryz.func63 h
def Mw(Ca:CaT)(a0a:Int)(a0b:Bool)(a0c:List (List AV))(a0cr:Rt)(a0d:List (List AV))(a0dr:Rt)(a0e:Int)(a0f:List (List AV))(a0fr:Rt)(a0g:List UInt8)(S0:St)(Q:QT):Prop:=AA (Du AE (.agg [(.int .i64 a0a),(.bool a0b),(.vs 1 a0c a0cr),(.vs 7 a0d a0dr),(.int .i64 a0e),(.vs 2 a0f a0fr),(.str a0g)])) fun c1=>AA (AB AE (some c1) 0) fun t5=>A1 Ca JE [(AV.strip t5)] S0 fun t6 S=>AA (unA .not t6) fun t7=>ifK t7 (Q (.tup [.nil,(.int .i64 1)]) S) (AA (Du C1 (.agg [(.vs 8 [] .nil)])) fun c9=>AA (AB AE (some c1) 0) fun t11=>A1 Ca Dd [(.ptr S.length 0),(AV.strip t11)] (S++[Obj.cells c9 Cd]) fun t12 S_2=>Q (.tup [(.ptr S.length 0),(.int .i64 0)]) S_2)
theorem Qp{w0 a0a a0b a0c a0cr a0d a0dr a0e a0f a0fr a0g S0 Q}(h:Mw (AN (En w0)) a0a a0b a0c a0cr a0d a0dr a0e a0f a0fr a0g S0 Q):AC w0 I7 [(.agg [(.int .i64 a0a),(.bool a0b),(.vs 1 a0c a0cr),(.vs 7 a0d a0dr),(.int .i64 a0e),(.vs 2 a0f a0fr),(.str a0g)])] S0 Q:=BK w0 Tryz.func64 h
def IG(Ca:CaT)(a0a:List (List AV))(a0ar:Rt)(a0b:Int)(a1:AV)(S0:St)(Q:QT):Prop:=AA (Du AH (.agg [(.vs 2 a0a a0ar),(.int .i64 a0b)])) fun c2=>AA (AB Bl (some c2) 0) fun t8=>AA (BU (AV.strip t8)) fun t9=>AA (AJ .geq t9 (.int .i64 64)) fun t10=>ifK t10 (AA (AB AH (some c2) 0) fun t11=>AA (Ai AH (some [(.vs 2 [] .nil),(.int .i64 0)]) 0 (AV.strip t11)) fun b4=>AA ((AB AH (some b4) 0).map AV.strip) fun r4=>Q (.tup [(AV.flat r4),(.int .i64 0),(.int .i64 6)]) S0) (AA (AB AR (some c2) 1) fun t13=>AA (Ck Cm 1 [(0,(AV.strip t13)),(1,(AV.strip a1))]) fun t15=>AA (Cu 2 [t15]) fun e16=>AA (AB Bl (some c2) 0) fun t18=>AA (AB AR (some c2) 1) fun t21=>AA (AJ .add (AV.strip t21) (.int .i64 1)) fun t22=>AA (AB AR (some c2) 1) fun t25=>AA (BN Cm S0 (.vs 2 e16 .full) (AV.strip t18)) fun t19=>AA (Ck AH 1 [(0,t19),(1,t22)]) fun t23=>AA (Ai AH (some [(.vs 2 [] .nil),(.int .i64 0)]) 0 t23) fun b4_2=>AA ((AB AH (some b4_2) 0).map AV.strip) fun r4_2=>Q (.tup [(AV.flat r4_2),(AV.flat (AV.strip t25)),(.int .i64 0)]) S0)
theorem MF{w0 a0a a0ar a0b a1 S0 Q}(h:IG (AN (En w0)) a0a a0ar a0b a1 S0 Q):AC w0 Fe [(.agg [(.vs 2 a0a a0ar),(.int .i64 a0b)]),a1] S0 Q:=BK w0 Tryz.func65 h
def Dt(Ca:CaT)(a0:List (List AV))(a0r:Rt)(S0:St)(Q:QT):Prop:=AA (GC .slice .eql (.vs 1 a0 (Rt.strip a0r)) (.vs 1 [] .nil)) fun t4=>ifK t4 (Q (.vs 1 [] .nil) S0) (AA (BN AM S0 (.vs 1 [] .full) (.vs 1 a0 (Rt.strip a0r))) fun t7=>Q t7 S0)
theorem Fy{w0 a0 a0r S0 Q}(h:Dt (AN (En w0)) a0 a0r S0 Q):AC w0 CK [(.vs 1 a0 a0r)] S0 Q:=BK w0 Tryz.func66 h
def DM(Ca:CaT)(a0:List (List AV))(a0r:Rt)(S0:St)(Q:QT):Prop:=AA (GC .slice .eql (.vs 7 a0 (Rt.strip a0r)) (.vs 7 [] .nil)) fun t4=>ifK t4 (Q (.vs 7 [] .nil) S0) (AA (BN AE S0 (.vs 7 [] .full) (.vs 7 a0 (Rt.strip a0r))) fun t7=>Q t7 S0)
theorem E0{w0 a0 a0r S0 Q}(h:DM (AN (En w0)) a0 a0r S0 Q):AC w0 CW [(.vs 7 a0 a0r)] S0 Q:=BK w0 Tryz.func67 h
def FT(Ca:CaT)(a0 a0o:Nat)(a1:Int)(S0:St)(Q:QT):Prop:=Ca CB [(.ptr a0 a0o),(.int .i64 a1)] S0 fun t7 S=>AA (He AE t7 0) fun t8=>AA (He G4 (AV.strip t8) 1) fun t9=>Q (AV.strip t9) S
theorem Iq{w0 a0 a0o a1 S0 Q}(h:FT (AN (En w0)) a0 a0o a1 S0 Q):AC w0 DC [(.ptr a0 a0o),(.int .i64 a1)] S0 Q:=BK w0 Tryz.func70 h
def Ld(Ca:CaT)(a0a:Int)(a0b:Bool)(a0c:List (List AV))(a0cr:Rt)(a0d:List (List AV))(a0dr:Rt)(a0e:Int)(a0f:List (List AV))(a0fr:Rt)(a0g:List UInt8)(a1:Int)(a2:AV)(S0:St)(Q:QT):Prop:=AA (Du AE (.agg [(.int .i64 a0a),(.bool a0b),(.vs 1 a0c a0cr),(.vs 7 a0d a0dr),(.int .i64 a0e),(.vs 2 a0f a0fr),(.str a0g)])) fun c3=>AA (Lr (AV.strip a2)) fun t12=>AA (Ap AR S0 t12) fun t13=>AA (AB AW (some c3) 2) fun t15=>AA (BU (AV.strip t15)) fun t16=>AA (AJ .add (.int .i64 1) t16) fun t17=>AA (AB BY (some c3) 5) fun t19=>AA (BU (AV.strip t19)) fun t20=>AA (AJ .add t17 t20) fun t21=>AA (AJ .sub (AV.strip t13) t21) fun t22=>AA (Lr (AV.strip a2)) fun t23=>AA (CU AR S0 t23 t22) fun S=>AK (fun (S_4:St)=>AA (Lr (AV.strip a2)) fun t41=>AA (Ap AR S_4 t41) fun t42=>AA (AB AM (some c3) 6) fun t44=>AA (DE (AV.strip t44)) fun t45=>AA (AJ .sub (AV.strip t42) t45) fun t46=>AA (Lr (AV.strip a2)) fun t47=>AA (CU AR S_4 t47 t46) fun S_5=>AA (Lr (AV.strip a2)) fun t49=>AA (Ap AR S_5 t49) fun t50=>AA (AJ .lss (AV.strip t50) (.int .i64 0)) fun t51=>AK (fun (x54:AV)=>AA (AS (AV.strip t51) (.bool true) x54) fun t55=>ifK (AV.strip t55) (Q (.bool false) S_5) (AK (fun (S_8:St)=>Q (.bool true) S_8) fun j_2=>AA (AB BG (some c3) 3) fun t57=>AA (BU (AV.strip t57)) fun t58=>DK ([(.int .i64 0)],[]) (fun v_2 bx_2=>([v_2 59],[])) (fun nx_2 v_2 bx_2 S_6=>AA (AJ .lss (v_2 59) t58) fun t60=>ifK t60 (AA (BB AE (AV.strip t57) (v_2 59)) fun t61=>AA (Ap AE S_6 t61) fun t62=>AA (Ai AE (some AE.zero) 0 (AV.strip t62)) fun b10=>AA (AB AE (some b10) 0) fun t63=>A1 Ca GO [(AV.strip t63),(.int .i64 (IntKind.i64.wrap (a1 - 1))),(AV.strip a2)] S_6 fun t67 S_7=>AA (unA .not t67) fun t68=>ifK t68 (Q (.bool false) S_7) (AA (AJ .add (v_2 59) (.int .i64 1)) fun t69=>nx_2 ([(AV.strip t69)],[]) S_7)) (j_2 S_6)) S_5)) fun j=>ifK (AV.strip t51) (j (.tup [])) (j (.bool (decide (a1 < 0))))) fun j_3=>AA (AB BY (some c3) 5) fun t25=>AA (BU (AV.strip t25)) fun t26=>DK ([(.int .i64 0)],[]) (fun v bx=>([v 27],[])) (fun nx v bx S_2=>AA (AJ .lss (v 27) t26) fun t28=>ifK t28 (AA (BB As (AV.strip t25) (v 27)) fun t29=>AA (Ap As S_2 t29) fun t30=>AA (Ai As (some [(.int .i64 0),(.str [])]) 0 (AV.strip t30)) fun b8=>AA (Lr (AV.strip a2)) fun t32=>AA (Ap AR S_2 t32) fun t33=>AA (AB AM (some b8) 1) fun t35=>AA (DE (AV.strip t35)) fun t36=>AA (AJ .sub (AV.strip t33) t36) fun t37=>AA (Lr (AV.strip a2)) fun t38=>AA (CU AR S_2 t38 t37) fun S_3=>AA (AJ .add (v 27) (.int .i64 1)) fun t39=>nx ([(AV.strip t39)],[]) S_3) (j_3 S_2)) S
theorem QK{w0 a0a a0b a0c a0cr a0d a0dr a0e a0f a0fr a0g a1 a2 S0 Q}(h:Ld (AN (En w0)) a0a a0b a0c a0cr a0d a0dr a0e a0f a0fr a0g a1 a2 S0 Q):AC w0 GO [(.agg [(.int .i64 a0a),(.bool a0b),(.vs 1 a0c a0cr),(.vs 7 a0d a0dr),(.int .i64 a0e),(.vs 2 a0f a0fr),(.str a0g)]),(.int .i64 a1),a2] S0 Q:=BK w0 Tryz.func74 h
def OF(Ca:CaT)(a0a:Int)(a0b:Bool)(a0c:List (List AV))(a0cr:Rt)(a0d:List (List AV))(a0dr:Rt)(a0e:Int)(a0f:List (List AV))(a0fr:Rt)(a0g:List UInt8)(S0:St)(Q:QT):Prop:=AA (Du AE (.agg [(.int .i64 a0a),(.bool a0b),(.vs 1 a0c a0cr),(.vs 7 a0d a0dr),(.int .i64 a0e),(.vs 2 a0f a0fr),(.str a0g)])) fun c1=>AK (fun (y1:Option (List AV)) (S_3:St)=>AA (AB AE y1 0) fun t18=>A1 Ca J8 [(AV.strip t18)] S_3 fun t19 S_4=>Q t19 S_4) fun j=>DK ([(.int .i64 0)],[(some c1)]) (fun v bx=>([v 3],[bx 1])) (fun nx v bx S=>AA (bx 1) fun _=>AA (AB BG (bx 1) 3) fun t6=>AA (BU (AV.strip t6)) fun t7=>AA (AJ .lss (AV.strip (v 3)) t7) fun t8=>ifK t8 (AA (bx 1) fun _=>AA (AB BG (bx 1) 3) fun t12=>AA (BB AE (AV.strip t12) (AV.strip (v 3))) fun t14=>AA (Ap AE S t14) fun t15=>A1 Ca IA [(AV.strip t15)] S fun t16 S_2=>AA (unA .not t16) fun t17=>ifK t17 (Q (.bool false) S_2) (AA (AJ .add (AV.strip (v 3)) (.int .i64 1)) fun t10=>nx ([t10],[(bx 1)]) S_2)) (j (bx 1) S)) S0
theorem TF{w0 a0a a0b a0c a0cr a0d a0dr a0e a0f a0fr a0g S0 Q}(h:OF (AN (En w0)) a0a a0b a0c a0cr a0d a0dr a0e a0f a0fr a0g S0 Q):AC w0 IA [(.agg [(.int .i64 a0a),(.bool a0b),(.vs 1 a0c a0cr),(.vs 7 a0d a0dr),(.int .i64 a0e),(.vs 2 a0f a0fr),(.str a0g)])] S0 Q:=BK w0 Tryz.func75 h
def LM(Ca:CaT)(a0a:Int)(a0b:Bool)(a0c:List (List AV))(a0cr:Rt)(a0d:List (List AV))(a0dr:Rt)(a0e:Int)(a0f:List (List AV))(a0fr:Rt)(a0g:List UInt8)(S0:St)(Q:QT):Prop:=AA (Du AE (.agg [(.int .i64 a0a),(.bool a0b),(.vs 1 a0c a0cr),(.vs 7 a0d a0dr),(.int .i64 a0e),(.vs 2 a0f a0fr),(.str a0g)])) fun c1=>AK (fun (x3:AV) (S_3:St)=>Q (AV.strip x3) S_3) fun j=>DK ([(.int .i64 1),(.int .i64 0)],[(some c1)]) (fun v bx=>([v 3,v 4],[bx 1])) (fun nx v bx S=>AA (bx 1) fun _=>AA (AB BG (bx 1) 3) fun t7=>AA (BU (AV.strip t7)) fun t8=>AA (AJ .lss (AV.strip (v 4)) t8) fun t9=>ifK t9 (AA (bx 1) fun _=>AA (AB BG (bx 1) 3) fun t14=>AA (BB AE (AV.strip t14) (AV.strip (v 4))) fun t16=>AA (Ap AE S t16) fun t17=>A1 Ca GS [(AV.strip t17)] S fun t18 S_2=>AA (AJ .add (AV.strip (v 3)) t18) fun t19=>AA (AJ .add (AV.strip (v 4)) (.int .i64 1)) fun t11=>nx ([t19,t11],[(bx 1)]) S_2) (j (v 3) S)) S0
theorem Pr{w0 a0a a0b a0c a0cr a0d a0dr a0e a0f a0fr a0g S0 Q}(h:LM (AN (En w0)) a0a a0b a0c a0cr a0d a0dr a0e a0f a0fr a0g S0 Q):AC w0 GS [(.agg [(.int .i64 a0a),(.bool a0b),(.vs 1 a0c a0cr),(.vs 7 a0d a0dr),(.int .i64 a0e),(.vs 2 a0f a0fr),(.str a0g)])] S0 Q:=BK w0 Tryz.func76 h
def LV(Ca:CaT)(a0a:Int)(a0b:Bool)(a0c:List (List AV))(a0cr:Rt)(a0d:List (List AV))(a0dr:Rt)(a0e:Int)(a0f:List (List AV))(a0fr:Rt)(a0g:List UInt8)(S0:St)(Q:QT):Prop:=AA (Du AE (.agg [(.int .i64 a0a),(.bool a0b),(.vs 1 a0c a0cr),(.vs 7 a0d a0dr),(.int .i64 a0e),(.vs 2 a0f a0fr),(.str a0g)])) fun c1=>AK (fun (x3_2:AV) (S_4:St)=>Q (AV.strip x3_2) S_4) fun j_2=>DK ([(.int .i64 0),(.int .i64 0)],[(some c1)]) (fun v bx=>([v 3,v 4],[bx 1])) (fun nx v bx S=>AA (bx 1) fun _=>AA (AB BG (bx 1) 3) fun t8=>AA (BU (AV.strip t8)) fun t9=>AA (AJ .lss (AV.strip (v 4)) t9) fun t10=>ifK t10 (AK (fun (x3:AV) (S_3:St)=>AA (AJ .add (AV.strip (v 4)) (.int .i64 1)) fun t12=>nx ([x3,t12],[(bx 1)]) S_3) fun j=>AA (bx 1) fun _=>AA (AB BG (bx 1) 3) fun t14=>AA (BB AE (AV.strip t14) (AV.strip (v 4))) fun t16=>AA (Ap AE S t16) fun t17=>A1 Ca GW [(AV.strip t17)] S fun t18 S_2=>AA (AJ .add t18 (.int .i64 1)) fun t19=>AA (AJ .gtr (AV.strip t19) (AV.strip (v 3))) fun t22=>ifK t22 (j (AV.strip t19) S_2) (j (v 3) S_2)) (j_2 (v 3) S)) S0
theorem PD{w0 a0a a0b a0c a0cr a0d a0dr a0e a0f a0fr a0g S0 Q}(h:LV (AN (En w0)) a0a a0b a0c a0cr a0d a0dr a0e a0f a0fr a0g S0 Q):AC w0 GW [(.agg [(.int .i64 a0a),(.bool a0b),(.vs 1 a0c a0cr),(.vs 7 a0d a0dr),(.int .i64 a0e),(.vs 2 a0f a0fr),(.str a0g)])] S0 Q:=BK w0 Tryz.func77 h
def M3(Ca:CaT)(a0:List UInt8)(S0:St)(Q:QT):Prop:=AK (fun (x12:AV)=>AA (AS (.bool (a0==[])) (.bool true) x12) fun t13=>ifK (AV.strip t13) (Q (.tup [(.vs 1 [] .nil),(.bool false),(.int .i64 1)]) S0) (AK (fun (x2_2:AV) (S_6:St)=>AA (FX (.str a0) (.int .i64 0)) fun t42=>AA (AJ .eql t42 (.int .u8 47)) fun t43=>Q (.tup [(AV.flat x2_2),(AV.flat t43),(.int .i64 0)]) S_6) fun j_5=>Ca Jd [(.str a0),(.str [47])] S0 fun t15 S=>AA (BU t15) fun t16=>DK ([(.vs 1 [] .nil),(.int .i64 0)],[]) (fun v bx=>([v 2,v 17],[])) (fun nx v bx S_2=>AA (AJ .lss (v 17) t16) fun t18=>ifK t18 (AK (fun (x2:AV) (S_5:St)=>AA (AJ .add (v 17) (.int .i64 1)) fun t39=>nx ([x2,(AV.strip t39)],[]) S_5) fun j_4=>AA (BB AM t15 (v 17)) fun t19=>AA (Ap AM S_2 t19) fun t20=>AA (AJ .eql (AV.strip (AV.strip t20)) (.str [])) fun t23=>AK (fun (x26:AV)=>AA (AS (AV.strip t23) (.bool true) x26) fun t27=>ifK (AV.strip t27) (j_4 (v 2) S_2) (AA (AJ .eql (AV.strip (AV.strip t20)) (.str [46,46])) fun t30=>AK (fun (x33:AV) (S_4:St)=>AA (AS (AV.strip t30) (.bool true) x33) fun t34=>ifK (AV.strip t34) (AA (Cu 1 [(AV.strip (AV.strip t20))]) fun e37=>AA (BN AM S_4 (v 2) (.vs 1 e37 .full)) fun t38=>j_4 t38 S_4) (Q (.tup [(.vs 1 [] .nil),(.bool false),(.int .i64 1)]) S_4)) fun j_2=>ifK (AV.strip t30) (j_2 (.tup []) S_2) (A1 Ca HB [(AV.strip (AV.strip t20))] S_2 fun t33 S_3=>j_2 t33 S_3))) fun j_3=>ifK (AV.strip t23) (j_3 (.tup [])) (AA (AJ .eql (AV.strip (AV.strip t20)) (.str [46])) fun t26=>j_3 t26)) (j_5 (v 2) S_2)) S)) fun j=>ifK (.bool (a0==[])) (j (.tup [])) (j (.bool (decide ((List.length a0:Int) > 1024))))
theorem Qg{w0 a0 S0 Q}(h:M3 (AN (En w0)) a0 S0 Q):AC w0 FY [(.str a0)] S0 Q:=BK w0 Tryz.func78 h
def I0(Ca:CaT)(a0 a0o:Nat)(S0:St)(Q:QT):Prop:=AA (Ap A7 S0 (.ptr a0 (a0o+1))) fun t6=>AA (Ap A7 S0 (.ptr a0 (a0o+1))) fun t10=>AA (BU (AV.strip t10)) fun t11=>AA (AJ .sub t11 (.int .i64 1)) fun t12=>AA (BB Bx (AV.strip t6) t12) fun t13=>AA (Ap Bx S0 t13) fun t14=>AA (Ai Bx (some [(.str []),(.vs 2 [] .nil)]) 0 (AV.strip t14)) fun b2=>AA ((AB Bx (some b2) 0).map AV.strip) fun r2=>Q r2 S0
theorem Mp{w0 a0 a0o S0 Q}(h:I0 (AN (En w0)) a0 a0o S0 Q):AC w0 Do [(.ptr a0 a0o)] S0 Q:=BK w0 Tryz.func79 h
def HT(Ca:CaT)(a0 a0o:Nat)(a1:List UInt8)(S0:St)(Q:QT):Prop:=AA (Ap AR S0 (.ptr a0 (a0o+3))) fun t11=>AA (AJ .add (AV.strip t11) (.int .i64 1)) fun t12=>AA (CU AR S0 (.ptr a0 (a0o+3)) t12) fun S=>AA (Ap AR S (.ptr a0 (a0o+3))) fun t18=>AA (AJ .gtr (AV.strip t18) (.int .i64 40)) fun t19=>ifK t19 (Q (.int .i64 4) S) (Ca FY [(.str a1)] S fun t22 S_2=>AA (Ah t22 0) fun t23=>AA (Ah (AQ t22 0) 1) fun t24=>AA (Ah (AQ (AQ t22 0) 1) 2) fun t25=>AA (AJ .neq (AV.strip t25) (.int .i64 0)) fun t27=>ifK t27 (Q (AV.strip t25) S_2) (AK (fun (S_4:St)=>AA (Ap AW S_4 (.ptr a0 (a0o+0))) fun t43=>AA (BN AM S_4 t23 (AV.strip t43)) fun t44=>AA (CU AW S_4 (.ptr a0 (a0o+0)) t44) fun S_5=>Q (.int .i64 0) S_5) fun j=>ifK (AV.strip t24) (AA (Ap A7 S_2 (.ptr a0 (a0o+1))) fun t34=>AA (Dv Bx (AV.strip0 t34) none (some (.int .i64 1)) none) fun t35=>AA (CU A7 (stripMem S_2 (.ptr a0 (a0o+1))) (.ptr a0 (a0o+1)) t35) fun S_3=>j S_3) (j S_2)))
theorem LE{w0 a0 a0o a1 S0 Q}(h:HT (AN (En w0)) a0 a0o a1 S0 Q):AC w0 E8 [(.ptr a0 a0o),(.str a1)] S0 Q:=BK w0 Tryz.func80 h
def Mi(Ca:CaT)(a0 a1:List UInt8)(S0:St)(Q:QT):Prop:=ifK (.bool (a0==[47])) (AA (AJ .add (.str a0) (.str a1)) fun t9=>Q t9 S0) (AA (AJ .add (.str a0) (.str [47])) fun t11=>AA (AJ .add t11 (.str a1)) fun t13=>Q t13 S0)
theorem Q2{w0 a0 a1 S0 Q}(h:Mi (AN (En w0)) a0 a1 S0 Q):AC w0 HD [(.str a0),(.str a1)] S0 Q:=BK w0 Tryz.func81 h
def Gb(Ca:CaT)(a0 a0o:Nat)(a1:Int)(a2:List UInt8)(S0:St)(Q:QT):Prop:=Ca CB [(.ptr a0 a0o),(.int .i64 a1)] S0 fun t13 S=>AA (Ai An (some An.zero) 0 t13) fun b8=>AA (AB AW (some b8) 2) fun t17=>A1 Ca CI [(AV.strip t17),(.str a2)] S fun t19 S_2=>AA (Ah t19 0) fun t20=>AA (Ah (AQ t19 0) 1) fun t21=>AA (unA .not (AV.strip t21)) fun t23=>ifK t23 (Q (.tup [(.int .i64 0),(.bool false)]) S_2) (AA (AB H8 (some b8) 7) fun t25=>AA (BB AR (AV.strip t25) (AV.strip t20)) fun t27=>AA (Ap AR S_2 t27) fun t28=>Q (.tup [(AV.flat (AV.strip t28)),(.bool true)]) S_2)
theorem Jm{w0 a0 a0o a1 a2 S0 Q}(h:Gb (AN (En w0)) a0 a0o a1 a2 S0 Q):AC w0 EW [(.ptr a0 a0o),(.int .i64 a1),(.str a2)] S0 Q:=BK w0 Tryz.func82 h
def Gg(Ca:CaT)(a0 a0o:Nat)(a1:Int)(S0:St)(Q:QT):Prop:=Ca CB [(.ptr a0 a0o),(.int .i64 a1)] S0 fun t7 S=>AA (He AE t7 0) fun t8=>AA (He AR (AV.strip t8) 0) fun t9=>Q (AV.strip t9) S
theorem Jk{w0 a0 a0o a1 S0 Q}(h:Gg (AN (En w0)) a0 a0o a1 S0 Q):AC w0 EV [(.ptr a0 a0o),(.int .i64 a1)] S0 Q:=BK w0 Tryz.func83 h
def Hi(Ca:CaT)(a0 a0o:Nat)(a1:Int)(S0:St)(Q:QT):Prop:=AK (fun (x14:AV)=>AA (AS (.bool (decide (a1 < 0))) (.bool true) x14) fun t15=>ifK (AV.strip t15) (Q (.agg An.zero) S0) (AA (Ap BD S0 (.ptr a0 (a0o+0))) fun t20=>AA (BB An (AV.strip t20) (.int .i64 a1)) fun t22=>AA (Ap An S0 t22) fun t23=>AA (Ai An (some An.zero) 0 (AV.strip t23)) fun b4=>AA ((AB An (some b4) 0).map AV.strip) fun r4=>Q r4 S0)) fun j=>ifK (.bool (decide (a1 < 0))) (j (.tup [])) (AA (Ap BD S0 (.ptr a0 (a0o+0))) fun t12=>AA (BU (AV.strip t12)) fun t13=>AA (AJ .geq (.int .i64 a1) t13) fun t14=>j t14)
theorem K8{w0 a0 a0o a1 S0 Q}(h:Hi (AN (En w0)) a0 a0o a1 S0 Q):AC w0 CB [(.ptr a0 a0o),(.int .i64 a1)] S0 Q:=BK w0 Tryz.func84 h
def LH(Ca:CaT)(a0:List UInt8)(S0:St)(Q:QT):Prop:=AK (fun (x14:AV)=>AA (AS (.bool (decide ((List.length a0:Int) < 1))) (.bool true) x14) fun t15=>ifK (AV.strip t15) (Q (.tup [(.vs 1 [] .nil),(.bool false)]) S0) (AK (fun (x4_2:AV) (S_5:St)=>Q (.tup [(AV.flat (AV.strip x4_2)),(.bool true)]) S_5) fun j_6=>DK ([(.str a0),(.vs 1 [] .full),(.int .i64 0),(.int .i64 0)],[]) (fun v bx=>([v 0,v 4,v 5,v 6],[])) (fun nx v bx S=>AA (DE (AV.strip (v 0))) fun t19=>AA (AJ .leq (AV.strip (v 6)) t19) fun t20=>ifK t20 (AK (fun (x0:AV) (x4:AV) (x5:AV) (S_4:St)=>AA (AJ .add (AV.strip (v 6)) (.int .i64 1)) fun t22=>nx ([x0,x4,x5,t22],[]) S_4) fun j_5=>AA (DE (AV.strip (v 0))) fun t25=>AA (AJ .lss (AV.strip (v 6)) t25) fun t26=>AK (fun (x31:AV)=>AA (AS (AV.strip t26) x31 (.bool false)) fun t32=>ifK (AV.strip t32) (j_5 (v 0) (v 4) (v 5) S) (AA (Cz (v 0) (some (AV.strip (v 5))) (some (AV.strip (v 6)))) fun t36=>AA (AJ .add (AV.strip (v 6)) (.int .i64 1)) fun t38=>AA (AJ .eql (AV.strip t36) (.str [])) fun t40=>AK (fun (x43:AV)=>AA (AS (AV.strip t40) (.bool true) x43) fun t44=>ifK (AV.strip t44) (j_5 (AV.strip (v 0)) (v 4) t38 S) (AA (AJ .neq (AV.strip t36) (.str [46,46])) fun t46=>AK (fun (x50:AV) (S_3:St)=>AA (AS (AV.strip t46) x50 (.bool false)) fun t51=>ifK (AV.strip t51) (Q (.tup [(.vs 1 [] .nil),(.bool false)]) S_3) (AA (Cu 1 [(AV.strip t36)]) fun e54=>AA (BN AM S_3 (v 4) (.vs 1 e54 .full)) fun t55=>j_5 (AV.strip (v 0)) t55 t38 S_3)) fun j_4=>ifK (AV.strip t46) (A1 Ca GR [(AV.strip t36)] S fun t49 S_2=>AA (unA .not t49) fun t50=>j_4 t50 S_2) (j_4 (.tup []) S))) fun j_3=>ifK (AV.strip t40) (j_3 (.tup [])) (AA (AJ .eql (AV.strip t36) (.str [46])) fun t43=>j_3 t43))) fun j_2=>ifK (AV.strip t26) (AA (FX (AV.strip (v 0)) (AV.strip (v 6))) fun t30=>AA (AJ .neq t30 (.int .u8 47)) fun t31=>j_2 t31) (j_2 (.tup []))) (j_6 (v 4) S)) S0)) fun j=>ifK (.bool (decide ((List.length a0:Int) < 1))) (j (.tup [])) (j (.bool (decide ((List.length a0:Int) > 1024))))
theorem PS{w0 a0 S0 Q}(h:LH (AN (En w0)) a0 S0 Q):AC w0 GP [(.str a0)] S0 Q:=BK w0 Tryz.func87 h
def OB(Ca:CaT)(a0:List UInt8)(S0:St)(Q:QT):Prop:=AK (fun (x3_2:AV) (S_4:St)=>Q (AV.strip x3_2) S_4) fun j_4=>DK ([(.str a0),(.vs 2 [] .nil),(.int .i64 0)],[]) (fun v bx=>([v 0,v 3,v 4],[])) (fun nx v bx S=>AA (DE (AV.strip (v 0))) fun t8=>AA (AJ .lss (AV.strip (v 4)) t8) fun t9=>ifK t9 (AK (fun (x5:AV) (S_3:St)=>AK (fun (x0:AV) (x3:AV)=>AA (AJ .add (AV.strip x5) (.int .i64 1)) fun t36=>nx ([x0,x3,t36],[]) S_3) fun j_2=>AA (AJ .gtr (AV.strip x5) (AV.strip (v 4))) fun t25=>ifK t25 (AA (Cz (v 0) (some (AV.strip (v 4))) (some (AV.strip x5))) fun t31=>AA (Ck As 1 [(0,(AV.strip (v 4))),(1,t31)]) fun t32=>AA (Cu 2 [t32]) fun e33=>AA (BN As S_3 (v 3) (.vs 2 e33 .full)) fun t34=>j_2 (AV.strip (v 0)) t34) (j_2 (v 0) (v 3))) fun j_3=>DK ([(AV.strip (v 4))],[]) (fun v_2 bx_2=>([v_2 5],[])) (fun nx_2 v_2 bx_2 S_2=>AA (DE (AV.strip (v 0))) fun t13=>AA (AJ .lss (AV.strip (v_2 5)) t13) fun t14=>AK (fun (x19:AV)=>AA (AS (AV.strip t14) x19 (.bool false)) fun t20=>ifK (AV.strip t20) (AA (AJ .add (AV.strip (v_2 5)) (.int .i64 1)) fun t22=>nx_2 ([t22],[]) S_2) (j_3 (v_2 5) S_2)) fun j=>ifK (AV.strip t14) (AA (FX (AV.strip (v 0)) (AV.strip (v_2 5))) fun t18=>AA (AJ .neq t18 (.int .u8 0)) fun t19=>j t19) (j (.tup []))) S) (j_4 (v 3) S)) S0
theorem R6{w0 a0 S0 Q}(h:OB (AN (En w0)) a0 S0 Q):AC w0 J2 [(.str a0)] S0 Q:=BK w0 Tryz.func96 h
def LR(Ca:CaT)(a0:Int)(a1:List (List AV))(a1r:Rt)(a2 a3:Int)(S0:St)(Q:QT):Prop:=AK (fun (x19:AV)=>AA (AS (.bool (decide (a2 < 0))) (.bool true) x19) fun t20=>AK (fun (x23:AV)=>AA (AS (AV.strip (AV.strip t20)) (.bool true) x23) fun t24=>ifK (AV.strip t24) (Q (.str []) S0) (AK (fun (S_8:St)=>Ca Ch [(.ptr S0.length 0)] S_8 fun t76 S_9=>AA (AJ .sub (.int .i64 (if (IntKind.i64.wrap (a0 - a2)) < a3 then (IntKind.i64.wrap (a0 - a2)) else a3)) t76) fun t77=>A1 Ca GH [(.str [0]),t77] S_9 fun t78 S_10=>A1 Ca Bu [(.ptr S0.length 0),t78] S_10 fun t79 S_11=>Ca Es [(.ptr S0.length 0)] S_11 fun t80 S_12=>Q t80 S_12) fun j_4=>DK ([(.int .i64 0)],[]) (fun v bx=>([v 32],[])) (fun nx v bx S=>AA (AJ .lss (v 32) (.int .i64 (List.length a1:Int))) fun t33=>ifK t33 (AK (fun (S_7:St)=>AA (AJ .add (v 32) (.int .i64 1)) fun t74=>nx ([(AV.strip t74)],[]) S_7) fun j_3=>AA (BB As (.vs 2 a1 (Rt.strip a1r)) (v 32)) fun t34=>AA (Ap As S t34) fun t35=>AA (Ai As (some [(.int .i64 0),(.str [])]) 0 (AV.strip t35)) fun b11=>AA (AB AR (some b11) 0) fun t37=>AA (AB AR (some b11) 0) fun t43=>AA (AB AM (some b11) 1) fun t45=>AA (DE (AV.strip t45)) fun t46=>AA (AJ .add (AV.strip t43) t46) fun t47=>AA (XX [t47,(.int .i64 (IntKind.i64.wrap (a2+(if (IntKind.i64.wrap (a0 - a2)) < a3 then (IntKind.i64.wrap (a0 - a2)) else a3))))]) fun t51=>Ca Ch [(.ptr S0.length 0)] S fun t39 S_2=>AA (AJ .add (.int .i64 a2) t39) fun t40=>AA (TE [(AV.strip t37),t40]) fun t41=>AA (AJ .geq (AV.strip t41) (AV.strip t51)) fun t54=>ifK t54 (j_3 S_2) (AA (AJ .sub (AV.strip t41) (.int .i64 a2)) fun t57=>Ca Ch [(.ptr S0.length 0)] S_2 fun t58 S_3=>AA (AJ .sub t57 t58) fun t59=>A1 Ca GH [(.str [0]),t59] S_3 fun t60 S_4=>A1 Ca Bu [(.ptr S0.length 0),t60] S_4 fun t61 S_5=>AA (AB AM (some b11) 1) fun t63=>AA (C7 (some b11) 1) fun _=>AA (AB AR (C7 (some b11) 1) 0) fun t66=>AA (AJ .sub (AV.strip t41) (AV.strip t66)) fun t67=>AA (C7 (some b11) 1) fun _=>AA (AB AR (C7 (some b11) 1) 0) fun t70=>AA (AJ .sub (AV.strip t51) (AV.strip t70)) fun t71=>AA (Cz (AV.strip0 t63) (some t67) (some t71)) fun t72=>A1 Ca Bu [(.ptr S0.length 0),t72] S_5 fun t73 S_6=>j_3 S_6)) (j_4 S)) (S0++[Obj.cells CS.zero CQ]))) fun j=>ifK (AV.strip (AV.strip t20)) (j (.tup [])) (j (.bool (decide (a3 < 1))))) fun j_2=>ifK (.bool (decide (a2 < 0))) (j_2 (.tup [])) (j_2 (.bool (decide (a2≥a0))))
theorem PT{w0 a0 a1 a1r a2 a3 S0 Q}(h:LR (AN (En w0)) a0 a1 a1r a2 a3 S0 Q):AC w0 IU [(.int .i64 a0),(.vs 2 a1 a1r),(.int .i64 a2),(.int .i64 a3)] S0 Q:=BK w0 Tryz.func97 h
def Mm(Ca:CaT)(a0a:Int)(a0b:Bool)(a0c:List (List AV))(a0cr:Rt)(a0d:List (List AV))(a0dr:Rt)(a0e:Int)(a0f:List (List AV))(a0fr:Rt)(a0g:List UInt8)(S0:St)(Q:QT):Prop:=AA (Du AE (.agg [(.int .i64 a0a),(.bool a0b),(.vs 1 a0c a0cr),(.vs 7 a0d a0dr),(.int .i64 a0e),(.vs 2 a0f a0fr),(.str a0g)])) fun c1=>AA (CU AR (S0++[Obj.cells AR.zero Dp]) (.ptr S0.length 0) (.int .i64 4096)) fun S=>AA (AB AR (some c1) 0) fun t5=>AA (AJ .eql (AV.strip t5) (.int .i64 2)) fun t6=>AK (fun (x9:AV) (S_3:St)=>AA (AS (AV.strip t6) x9 (.bool false)) fun t10=>Q (AV.strip t10) S_3) fun j=>ifK (AV.strip t6) (AA (AB AE (some c1) 0) fun t8=>A1 Ca HK [(AV.strip t8),(.int .i64 0),(.ptr S0.length 0)] S fun t9 S_2=>j t9 S_2) (j (.tup []) S)
theorem Qc{w0 a0a a0b a0c a0cr a0d a0dr a0e a0f a0fr a0g S0 Q}(h:Mm (AN (En w0)) a0a a0b a0c a0cr a0d a0dr a0e a0f a0fr a0g S0 Q):AC w0 JE [(.agg [(.int .i64 a0a),(.bool a0b),(.vs 1 a0c a0cr),(.vs 7 a0d a0dr),(.int .i64 a0e),(.vs 2 a0f a0fr),(.str a0g)])] S0 Q:=BK w0 Tryz.func98 h
def G9(Ca:CaT)(a0 a0o:Nat)(a1a:Int)(a1b:Bool)(a1c:List (List AV))(a1cr:Rt)(a1d:List (List AV))(a1dr:Rt)(a1e:Int)(a1f:List (List AV))(a1fr:Rt)(a1g:List UInt8)(S0:St)(Q:QT):Prop:=AA (Du AE (.agg [(.int .i64 a1a),(.bool a1b),(.vs 1 a1c a1cr),(.vs 7 a1d a1dr),(.int .i64 a1e),(.vs 2 a1f a1fr),(.str a1g)])) fun c3=>AA (Ap BD S0 (.ptr a0 (a0o+0))) fun t12=>AA (BU (AV.strip t12)) fun t13=>AA (Ap BD S0 (.ptr a0 (a0o+0))) fun t18=>AA (appendR An (stripMem S0 (.ptr a0 (a0o+0))) (AV.strip0 t18) (.vs 8 [An.zero] .full)) fun p21=>AA (CU BD p21.2 (.ptr a0 (a0o+0)) p21.1) fun S=>AA (AB AE (some c3) 0) fun t24=>AA (Ck An 1 [(0,(AV.strip t24))]) fun t25=>AA (Ai An (some An.zero) 0 t25) fun b6=>AK (fun (y6:Option (List AV)) (S_4:St)=>AA (AB AW (some c3) 2) fun t43=>AA (AB BY (some c3) 5) fun t46=>AA y6 fun _=>AA y6 fun _=>A1 Ca CK [(AV.strip t43)] S_4 fun t44 S_5=>A1 Ca CC [(AV.strip t46)] S_5 fun t47 S_6=>AA (Ai BG y6 3 (.vs 7 [] .nil)) fun b6_3=>AA (Ai AW (some b6_3) 2 t44) fun b6_4=>AA (Ai BY (some b6_4) 5 t47) fun b6_5=>AA (Ap BD S_6 (.ptr a0 (a0o+0))) fun t57=>AA (AB An (some b6_5) 0) fun t59=>AA (BB An (AV.strip t57) (AV.strip t13)) fun t60=>AA (CU An S_6 t60 (AV.strip t59)) fun S_7=>Q (AV.strip t13) S_7) fun j=>AA (AB BG (some c3) 3) fun t27=>AA (BU (AV.strip t27)) fun t28=>DK ([(.int .i64 0)],[(some b6)]) (fun v bx=>([v 29],[bx 6])) (fun nx v bx S_2=>AA (AJ .lss (v 29) t28) fun t30=>ifK t30 (AA (BB AE (AV.strip t27) (v 29)) fun t31=>AA (Ap AE S_2 t31) fun t32=>AA (Ai AE (some AE.zero) 0 (AV.strip t32)) fun b8=>AA (bx 6) fun _=>AA (AB AE (some b8) 0) fun t36=>AA (AB H8 (bx 6) 7) fun t34=>A1 Ca Dd [(.ptr a0 a0o),(AV.strip t36)] S_2 fun t37 S_3=>AA (Cu 1 [t37]) fun e38=>AA (BN AR S_3 (AV.strip0 t34) (.vs 1 e38 .full)) fun t39=>AA (C7 (bx 6) 7) fun _=>AA (Ai H8 (C7 (bx 6) 7) 7 t39) fun b6_2=>AA (AJ .add (v 29) (.int .i64 1)) fun t41=>nx ([(AV.strip t41)],[(some b6_2)]) S_3) (j (bx 6) S_2)) S
theorem KO{w0 a0 a0o a1a a1b a1c a1cr a1d a1dr a1e a1f a1fr a1g S0 Q}(h:G9 (AN (En w0)) a0 a0o a1a a1b a1c a1cr a1d a1dr a1e a1f a1fr a1g S0 Q):AC w0 Dd [(.ptr a0 a0o),(.agg [(.int .i64 a1a),(.bool a1b),(.vs 1 a1c a1cr),(.vs 7 a1d a1dr),(.int .i64 a1e),(.vs 2 a1f a1fr),(.str a1g)])] S0 Q:=BK w0 Tryz.func99 h
def OW(Ca:CaT)(a0a:Int)(a0b:Bool)(a0c:List (List AV))(a0cr:Rt)(a0d:List (List AV))(a0dr:Rt)(a0e:Int)(a0f:List (List AV))(a0fr:Rt)(a0g:List UInt8)(S0:St)(Q:QT):Prop:=AA (Du AE (.agg [(.int .i64 a0a),(.bool a0b),(.vs 1 a0c a0cr),(.vs 7 a0d a0dr),(.int .i64 a0e),(.vs 2 a0f a0fr),(.str a0g)])) fun c1=>AA (AB G4 (some c1) 1) fun t8=>AA (unA .not (AV.strip t8)) fun t9=>AK (fun (x14:AV)=>AA (AS (AV.strip t9) x14 (.bool false)) fun t15=>AK (fun (x20:AV)=>AA (AS (AV.strip (AV.strip t15)) x20 (.bool false)) fun t21=>AA (AB AR (some c1) 4) fun t23=>AA (AJ .eql (AV.strip t23) (.int .i64 0)) fun t24=>AK (fun (x29:AV)=>AA (AS (AV.strip t24) x29 (.bool false)) fun t30=>AA (AB AR (some c1) 0) fun t32=>AA (AJ .eql (AV.strip t32) (.int .i64 1)) fun t34=>ifK t34 (AK (fun (x39:AV)=>AA (AS (AV.strip (AV.strip (AV.strip t21))) x39 (.bool false)) fun t40=>AK (fun (x46:AV) (S_2:St)=>AA (AS (AV.strip (AV.strip t40)) x46 (.bool false)) fun t47=>Q (AV.strip t47) S_2) fun j=>ifK (AV.strip (AV.strip t40)) (AA (AB AR (some c1) 4) fun t43=>AA (AB BY (some c1) 5) fun t45=>A1 Ca IS [(AV.strip t43),(AV.strip t45)] S0 fun t46 S=>j t46 S) (j (.tup []) S0)) fun j_2=>ifK (AV.strip (AV.strip (AV.strip t21))) (AA (AB AM (some c1) 6) fun t38=>AA (AJ .eql (AV.strip t38) (.str [])) fun t39=>j_2 t39) (j_2 (.tup []))) (AA (AJ .eql (AV.strip t32) (.int .i64 2)) fun t49=>ifK t49 (AK (fun (x54:AV)=>AA (AS (AV.strip (AV.strip (AV.strip t30))) x54 (.bool false)) fun t55=>AK (fun (x58:AV) (S_4:St)=>AA (AS (AV.strip (AV.strip t55)) x58 (.bool false)) fun t59=>Q (AV.strip t59) S_4) fun j_3=>ifK (AV.strip (AV.strip t55)) (AA (AB AE (some c1) 0) fun t57=>A1 Ca Gv [(AV.strip t57)] S0 fun t58 S_3=>j_3 t58 S_3) (j_3 (.tup []) S0)) fun j_4=>ifK (AV.strip (AV.strip (AV.strip t30))) (AA (AB AM (some c1) 6) fun t53=>AA (AJ .eql (AV.strip t53) (.str [])) fun t54=>j_4 t54) (j_4 (.tup []))) (AA (AJ .eql (AV.strip t32) (.int .i64 3)) fun t61=>ifK t61 (AA (AB AM (some c1) 6) fun t64=>A1 Ca GP [(AV.strip t64)] S0 fun t65 S_5=>AA (Ah t65 0) fun t66=>AA (Ah (AQ t65 0) 1) fun t67=>AK (fun (x70:AV)=>AA (AS (AV.strip (AV.strip (AV.strip t21))) x70 (.bool false)) fun t71=>AK (fun (x73:AV)=>AA (AS (AV.strip (AV.strip t71)) x73 (.bool false)) fun t74=>AK (fun (x79:AV)=>AA (AS (AV.strip (AV.strip t74)) x79 (.bool false)) fun t80=>Q (AV.strip t80) S_5) fun j_5=>ifK (AV.strip (AV.strip t74)) (AA (AB AM (some c1) 6) fun t77=>AA (DE (AV.strip t77)) fun t78=>AA (AJ .leq t78 (.int .i64 256)) fun t79=>j_5 t79) (j_5 (.tup []))) fun j_6=>ifK (AV.strip (AV.strip t71)) (j_6 (AV.strip t67)) (j_6 (.tup []))) fun j_7=>ifK (AV.strip (AV.strip (AV.strip t21))) (j_7 (AV.strip (AV.strip t30))) (j_7 (.tup []))) (AA (AJ .eql (AV.strip t32) (.int .i64 4)) fun t82=>ifK t82 (AK (fun (x85:AV)=>AA (AS (AV.strip (AV.strip (AV.strip t21))) x85 (.bool false)) fun t86=>AK (fun (x90:AV)=>AA (AS (AV.strip (AV.strip t86)) x90 (.bool false)) fun t91=>Q (AV.strip t91) S0) fun j_8=>ifK (AV.strip (AV.strip t86)) (AA (AB AM (some c1) 6) fun t89=>AA (AJ .eql (AV.strip t89) (.str [])) fun t90=>j_8 t90) (j_8 (.tup []))) fun j_9=>ifK (AV.strip (AV.strip (AV.strip t21))) (j_9 (AV.strip (AV.strip t30))) (j_9 (.tup []))) (Q (.bool false) S0))))) fun j_10=>ifK (AV.strip t24) (AA (AB BY (some c1) 5) fun t27=>AA (BU (AV.strip t27)) fun t28=>AA (AJ .eql t28 (.int .i64 0)) fun t29=>j_10 t29) (j_10 (.tup []))) fun j_11=>ifK (AV.strip (AV.strip t15)) (AA (AB BG (some c1) 3) fun t18=>AA (BU (AV.strip t18)) fun t19=>AA (AJ .eql t19 (.int .i64 0)) fun t20=>j_11 t20) (j_11 (.tup []))) fun j_12=>ifK (AV.strip t9) (AA (AB AW (some c1) 2) fun t12=>AA (BU (AV.strip t12)) fun t13=>AA (AJ .eql t13 (.int .i64 0)) fun t14=>j_12 t14) (j_12 (.tup []))
theorem SV{w0 a0a a0b a0c a0cr a0d a0dr a0e a0f a0fr a0g S0 Q}(h:OW (AN (En w0)) a0a a0b a0c a0cr a0d a0dr a0e a0f a0fr a0g S0 Q):AC w0 J8 [(.agg [(.int .i64 a0a),(.bool a0b),(.vs 1 a0c a0cr),(.vs 7 a0d a0dr),(.int .i64 a0e),(.vs 2 a0f a0fr),(.str a0g)])] S0 Q:=BK w0 Tryz.func105 h
def NL(Ca:CaT)(a0:List UInt8)(S0:St)(Q:QT):Prop:=AK (fun (x7:AV)=>AA (AS (.bool (!(a0==[]))) x7 (.bool false)) fun t8=>AK (fun (x11:AV)=>AA (AS (AV.strip (AV.strip t8)) x11 (.bool false)) fun t12=>AK (fun (x16:AV)=>AA (AS (AV.strip (AV.strip t12)) x16 (.bool false)) fun t17=>AK (fun (x21:AV) (S_2:St)=>AA (AS (AV.strip (AV.strip t17)) x21 (.bool false)) fun t22=>Q (AV.strip t22) S_2) fun j=>ifK (AV.strip (AV.strip t17)) (Ca F0 [(.str a0),(.str [47,0])] S0 fun t20 S=>AA (unA .not t20) fun t21=>j t21 S) (j (.tup []) S0)) fun j_2=>ifK (AV.strip (AV.strip t12)) (j_2 (.bool (decide ((List.length a0:Int)≤64)))) (j_2 (.tup []))) fun j_3=>ifK (AV.strip (AV.strip t8)) (j_3 (.bool (!(a0==[46,46])))) (j_3 (.tup []))) fun j_4=>ifK (.bool (!(a0==[]))) (j_4 (.bool (!(a0==[46])))) (j_4 (.tup []))
theorem Ql{w0 a0 S0 Q}(h:NL (AN (En w0)) a0 S0 Q):AC w0 HB [(.str a0)] S0 Q:=BK w0 Tryz.func107 h
def Cx(Ca:CaT)(a0:List (List AV))(a0r:Rt)(a1:List UInt8)(S0:St)(Q:QT):Prop:=AK (fun (x7:AV) (S_3:St)=>AA (AJ .lss (AV.strip x7) (.int .i64 (List.length a0:Int))) fun t34=>AK (fun (x52:AV) (S_8:St)=>AA (AS (AV.strip t34) x52 (.bool false)) fun t53=>Q (.tup [(AV.flat (AV.strip x7)),(AV.flat (AV.strip t53))]) S_8) fun j_3=>ifK (AV.strip t34) (AA (BB AM (.vs 1 a0 (Rt.strip a0r)) (AV.strip x7)) fun t38=>AA (Ap AM S_3 t38) fun t39=>AA (AJ .eql (AV.strip t39) (.str a1)) fun t41=>AK (fun (x51:AV) (S_7:St)=>AA (AS (AV.strip t41) (.bool true) x51) fun t52=>j_3 (AV.strip t52) S_7) fun j_2=>gK (AV.strip t41) (j_2 (.tup []) S_3) (AA (BB AM (.vs 1 a0 (Rt.strip a0r)) (AV.strip x7)) fun t45=>AA (Ap AM S_3 t45) fun t46=>A1 Ca EF [(AV.strip t46)] S_3 fun t47 S_4=>AK (fun (x50:AV) (S_6:St)=>AA (AS (AV.strip t47) x50 (.bool false)) fun t51=>j_2 (AV.strip t51) S_6) fun j=>gK (AV.strip t47) (Ca EF [(.str a1)] S_4 fun t50 S_5=>j t50 S_5) (j (.tup []) S_4) (j (.tup []) S_4)) (j_2 (.tup []) S_3)) (j_3 (.tup []) S_3)) fun j_4=>DK ([(.int .i64 0),(.int .i64 (List.length a0:Int))],[]) (fun v bx=>([v 7,v 8],[])) (fun nx v bx S=>AA (AJ .lss (AV.strip (v 7)) (AV.strip (v 8))) fun t15=>ifK t15 (AA (AJ .add (AV.strip (v 7)) (AV.strip (v 8))) fun t18=>AA (Ij .u64 t18) fun t19=>AA (AJ .shr t19 (.int .u64 1)) fun t20=>AA (Ij .i64 t20) fun t21=>AA (BB AM (.vs 1 a0 (Rt.strip a0r)) (AV.strip t21)) fun t24=>AA (Ap AM S t24) fun t25=>A1 Ca Ff [(AV.strip t25),(.str a1)] S fun t27 S_2=>ifK t27 (AA (AJ .add (AV.strip t21) (.int .i64 1)) fun t29=>nx ([t29,(v 8)],[]) S_2) (nx ([(v 7),(AV.strip t21)],[]) S_2)) (j_4 (v 7) S)) S0
theorem Eh{w0 a0 a0r a1 S0 Q}(h:Cx (AN (En w0)) a0 a0r a1 S0 Q):AC w0 CI [(.vs 1 a0 a0r),(.str a1)] S0 Q:=BK w0 Tryz.func108 h
def LY(Ca:CaT)(a0:List UInt8)(S0:St)(Q:QT):Prop:=AK (fun (x8:AV)=>AA (AS (.bool (a0==[])) (.bool true) x8) fun t9=>AK (fun (x12:AV)=>AA (AS (AV.strip (AV.strip t9)) (.bool true) x12) fun t13=>AK (fun (x17:AV)=>AA (AS (AV.strip (AV.strip t13)) (.bool true) x17) fun t18=>ifK (AV.strip t18) (Q (.bool false) S0) (AK (fun (S_2:St)=>Q (.bool true) S_2) fun j_5=>DK ([(.int .i64 0)],[]) (fun v bx=>([v 3],[])) (fun nx v bx S=>AA (AJ .lss (AV.strip (v 3)) (.int .i64 (List.length a0:Int))) fun t22=>ifK t22 (AA (FX (.str a0) (AV.strip (v 3))) fun t27=>AA (AJ .eql t27 (.int .u8 47)) fun t28=>AK (fun (x33:AV)=>AA (AS (AV.strip t28) (.bool true) x33) fun t34=>ifK (AV.strip t34) (Q (.bool false) S) (AA (AJ .add (AV.strip (v 3)) (.int .i64 1)) fun t24=>nx ([t24],[]) S)) fun j_4=>ifK (AV.strip t28) (j_4 (.tup [])) (AA (FX (.str a0) (AV.strip (v 3))) fun t32=>AA (AJ .eql t32 (.int .u8 0)) fun t33=>j_4 t33)) (j_5 S)) S0)) fun j=>ifK (AV.strip (AV.strip t13)) (j (.tup [])) (j (.bool (decide ((List.length a0:Int) > 64))))) fun j_2=>ifK (AV.strip (AV.strip t9)) (j_2 (.tup [])) (j_2 (.bool (a0==[46,46])))) fun j_3=>ifK (.bool (a0==[])) (j_3 (.tup [])) (j_3 (.bool (a0==[46])))
theorem PE{w0 a0 S0 Q}(h:LY (AN (En w0)) a0 S0 Q):AC w0 GR [(.str a0)] S0 Q:=BK w0 Tryz.func111 h
def M2(Ca:CaT)(a0 a1:List UInt8)(S0:St)(Q:QT):Prop:=AK (fun (S_2:St)=>Q (.bool (decide ((List.length a0:Int) < (List.length a1:Int)))) S_2) fun j_2=>DK ([(.int .i64 0)],[]) (fun v bx=>([v 5],[])) (fun nx v bx S=>AA (AJ .lss (AV.strip (v 5)) (.int .i64 (List.length a0:Int))) fun t9=>AK (fun (x14:AV)=>AA (AS (AV.strip t9) x14 (.bool false)) fun t15=>ifK (AV.strip t15) (AA (FX (.str a0) (AV.strip (v 5))) fun t20=>AA (FX (.str a1) (AV.strip (v 5))) fun t23=>AA (AJ .neq t20 t23) fun t24=>ifK t24 (AA (FX (.str a0) (AV.strip (v 5))) fun t27=>AA (FX (.str a1) (AV.strip (v 5))) fun t30=>AA (AJ .lss t27 t30) fun t31=>Q t31 S) (AA (AJ .add (AV.strip (v 5)) (.int .i64 1)) fun t17=>nx ([t17],[]) S)) (j_2 S)) fun j=>ifK (AV.strip t9) (AA (AJ .lss (AV.strip (v 5)) (.int .i64 (List.length a1:Int))) fun t14=>j t14) (j (.tup []))) S0
theorem Qr{w0 a0 a1 S0 Q}(h:M2 (AN (En w0)) a0 a1 S0 Q):AC w0 JW [(.str a0),(.str a1)] S0 Q:=BK w0 Tryz.func113 h
def Fz(Ca:CaT)(a0 a0o:Nat)(S0:St)(Q:QT):Prop:=AA (Ap FD S0 (.ptr a0 (a0o+1))) fun t6=>AA (BU (AV.strip t6)) fun t7=>Q t7 S0
theorem JL{w0 a0 a0o S0 Q}(h:Fz (AN (En w0)) a0 a0o S0 Q):AC w0 Ch [(.ptr a0 a0o)] S0 Q:=BK w0 Tryz.func122 h
def Dz(Ca:CaT)(a0 a0o:Nat)(a1:List UInt8)(S0:St)(Q:QT):Prop:=Ca EJ [(.ptr a0 a0o)] S0 fun t7 S=>AA (Ap FD S (.ptr a0 (a0o+1))) fun t12=>AA (BN IB (stripMem S (.ptr a0 (a0o+1))) (AV.strip0 t12) (.str a1)) fun t14=>AA (CU FD (stripMem S (.ptr a0 (a0o+1))) (.ptr a0 (a0o+1)) t14) fun S_2=>Q (.tup [(.int .i64 (List.length a1:Int)),.nilifc]) S_2
theorem GB{w0 a0 a0o a1 S0 Q}(h:Dz (AN (En w0)) a0 a0o a1 S0 Q):AC w0 Bu [(.ptr a0 a0o),(.str a1)] S0 Q:=BK w0 Tryz.func123 h
set_option maxHeartbeats 2000000
open Go.Proofs
def NK(Ca:CaT)(a0a:Int)(a0b:Bool)(a0c:List (List AV))(a0cr:Rt)(a0d:List (List AV))(a0dr:Rt)(a0e:Int)(a0f:List (List AV))(a0fr:Rt)(a0g:List UInt8)(a1:Int)(a2:AV)(S0:St)(Q:QT):Prop:=AA (Du AE (.agg [(.int .i64 a0a),(.bool a0b),(.vs 1 a0c a0cr),(.vs 7 a0d a0dr),(.int .i64 a0e),(.vs 2 a0f a0fr),(.str a0g)])) fun c3=>AA (Lr (AV.strip a2)) fun t13=>AA (Ap AR S0 t13) fun t14=>AA (AJ .sub (AV.strip t14) (.int .i64 1)) fun t15=>AA (Lr (AV.strip a2)) fun t16=>AA (CU AR S0 t16 t15) fun S=>AA (Lr (AV.strip a2)) fun t18=>AA (Ap AR S t18) fun t19=>AA (AJ .lss (AV.strip t19) (.int .i64 0)) fun t20=>AK (fun (x23:AV)=>AA (AS (AV.strip t20) (.bool true) x23) fun t24=>AK (fun (x28:AV) (S_3:St)=>AA (AS (AV.strip (AV.strip t24)) (.bool true) x28) fun t29=>ifK (AV.strip t29) (Q (.bool false) S_3) (AK (Q (.bool false) S_3) fun j_5=>AA (AB AR (some c3) 0) fun t31=>AA (AJ .eql (AV.strip t31) (.int .i64 1)) fun t33=>ifK t33 (AA (AB AR (some c3) 4) fun t35=>AA (AB BY (some c3) 5) fun t37=>A1 Ca Hv [(AV.strip t35),(AV.strip t37)] S_3 fun t38 S_4=>Q t38 S_4) (AA (AJ .eql (AV.strip t31) (.int .i64 3)) fun t40=>ifK t40 (AA (AB AM (some c3) 6) fun t43=>A1 Ca FY [(AV.strip t43)] S_3 fun t44 S_5=>AA (Ah t44 0) fun t45=>AA (Ah (AQ t44 0) 1) fun t46=>AA (Ah (AQ (AQ t44 0) 1) 2) fun t47=>AA (AJ .eql (AV.strip t47) (.int .i64 0)) fun t49=>AK (fun (x54:AV)=>AA (AS (AV.strip t49) x54 (.bool false)) fun t55=>Q (AV.strip t55) S_5) fun j_3=>ifK (AV.strip t49) (AA (AB AM (some c3) 6) fun t52=>AA (DE (AV.strip t52)) fun t53=>AA (AJ .leq t53 (.int .i64 256)) fun t54=>j_3 t54) (j_3 (.tup []))) (AA (AJ .eql (AV.strip t31) (.int .i64 4)) fun t57=>ifK t57 (Q (.bool true) S_3) (AA (AJ .eql (AV.strip t31) (.int .i64 2)) fun t59=>ifK t59 (AA (AB AE (some c3) 0) fun t60=>A1 Ca JC [(AV.strip t60)] S_3 fun t61 S_6=>AA (unA .not t61) fun t62=>ifK t62 (Q (.bool false) S_6) (AK (fun (S_9:St)=>Q (.bool true) S_9) fun j_4=>AA (AB BG (some c3) 3) fun t64=>AA (BU (AV.strip t64)) fun t65=>DK ([(.int .i64 0)],[]) (fun v bx=>([v 66],[])) (fun nx v bx S_7=>AA (AJ .lss (v 66) t65) fun t67=>ifK t67 (AA (BB AE (AV.strip t64) (v 66)) fun t68=>AA (Ap AE S_7 t68) fun t69=>AA (Ai AE (some AE.zero) 0 (AV.strip t69)) fun b11=>AA (AB AE (some b11) 0) fun t70=>A1 Ca HK [(AV.strip t70),(.int .i64 (IntKind.i64.wrap (a1+1))),(AV.strip a2)] S_7 fun t74 S_8=>AA (unA .not t74) fun t75=>ifK t75 (Q (.bool false) S_8) (AA (AJ .add (v 66) (.int .i64 1)) fun t76=>nx ([(AV.strip t76)],[]) S_8)) (j_4 S_7)) S_6)) (j_5)))))) fun j=>ifK (AV.strip (AV.strip t24)) (j (.tup []) S) (AA (AB AE (some c3) 0) fun t26=>A1 Ca Kd [(AV.strip t26)] S fun t27 S_2=>AA (unA .not t27) fun t28=>j t28 S_2)) fun j_2=>ifK (AV.strip t20) (j_2 (.tup [])) (j_2 (.bool (decide (a1 > 15))))
theorem RH{w0 a0a a0b a0c a0cr a0d a0dr a0e a0f a0fr a0g a1 a2 S0 Q}(h:NK (AN (En w0)) a0a a0b a0c a0cr a0d a0dr a0e a0f a0fr a0g a1 a2 S0 Q):AC w0 HK [(.agg [(.int .i64 a0a),(.bool a0b),(.vs 1 a0c a0cr),(.vs 7 a0d a0dr),(.int .i64 a0e),(.vs 2 a0f a0fr),(.str a0g)]),(.int .i64 a1),a2] S0 Q:=BK w0 Tryz.func126 h
def Cq(Ca:CaT)(a0:List (List AV))(a0r:Rt)(S0:St)(Q:QT):Prop:=AA (GC .slice .eql (.vs 2 a0 (Rt.strip a0r)) (.vs 2 [] .nil)) fun t4=>ifK t4 (Q (.vs 2 [] .nil) S0) (AA (BN As S0 (.vs 2 [] .full) (.vs 2 a0 (Rt.strip a0r))) fun t7=>Q t7 S0)
theorem EN{w0 a0 a0r S0 Q}(h:Cq (AN (En w0)) a0 a0r S0 Q):AC w0 CC [(.vs 2 a0 a0r)] S0 Q:=BK w0 Tryz.func127 h
def Lf(Ca:CaT)(a0:Int)(a1:List (List AV))(a1r:Rt)(S0:St)(Q:QT):Prop:=AK (fun (x10:AV)=>AA (AS (.bool (decide (a0 < 0))) (.bool true) x10) fun t11=>ifK (AV.strip t11) (Q (.bool false) S0) (AK (fun (S_2:St)=>Q (.bool true) S_2) fun j_6=>DK ([(.int .i64 0)],[]) (fun v bx=>([v 5],[])) (fun nx v bx S=>AA (AJ .lss (AV.strip (v 5)) (.int .i64 (List.length a1:Int))) fun t15=>ifK t15 (AA (BB As (.vs 2 a1 (Rt.strip a1r)) (AV.strip (v 5))) fun t20=>AA (D2 t20 0) fun t21=>AA (Ap AR S t21) fun t22=>AA (AJ .lss (AV.strip t22) (.int .i64 0)) fun t23=>AK (fun (x31:AV)=>AA (AS (AV.strip t23) (.bool true) x31) fun t32=>AK (fun (x40:AV)=>AA (AS (AV.strip (AV.strip t32)) (.bool true) x40) fun t41=>AK (fun (x56:AV)=>AA (AS (AV.strip (AV.strip t41)) (.bool true) x56) fun t57=>ifK (AV.strip t57) (Q (.bool false) S) (AA (AJ .gtr (AV.strip (v 5)) (.int .i64 0)) fun t59=>AK (fun (x80:AV)=>AA (AS (AV.strip t59) x80 (.bool false)) fun t81=>ifK (AV.strip t81) (Q (.bool false) S) (AA (AJ .add (AV.strip (v 5)) (.int .i64 1)) fun t17=>nx ([t17],[]) S)) fun j_5=>ifK (AV.strip t59) (AA (BB As (.vs 2 a1 (Rt.strip a1r)) (AV.strip (v 5))) fun t63=>AA (D2 t63 0) fun t64=>AA (Ap AR S t64) fun t65=>AA (AJ .sub (AV.strip (v 5)) (.int .i64 1)) fun t68=>AA (BB As (.vs 2 a1 (Rt.strip a1r)) t68) fun t69=>AA (D2 t69 0) fun t70=>AA (Ap AR S t70) fun t71=>AA (AJ .sub (AV.strip (v 5)) (.int .i64 1)) fun t74=>AA (BB As (.vs 2 a1 (Rt.strip a1r)) t74) fun t75=>AA (D2 t75 1) fun t76=>AA (Ap AM S t76) fun t77=>AA (DE (AV.strip t77)) fun t78=>AA (AJ .add (AV.strip t71) t78) fun t79=>AA (AJ .lss (AV.strip t65) t79) fun t80=>j_5 t80) (j_5 (.tup [])))) fun j_2=>ifK (AV.strip (AV.strip t41)) (j_2 (.tup [])) (AA (BB As (.vs 2 a1 (Rt.strip a1r)) (AV.strip (v 5))) fun t45=>AA (D2 t45 0) fun t46=>AA (Ap AR S t46) fun t47=>AA (BB As (.vs 2 a1 (Rt.strip a1r)) (AV.strip (v 5))) fun t50=>AA (D2 t50 1) fun t51=>AA (Ap AM S t51) fun t52=>AA (DE (AV.strip t52)) fun t53=>AA (AJ .add (AV.strip t47) t53) fun t54=>AA (AJ .gtr t54 (.int .i64 a0)) fun t56=>j_2 t56)) fun j_3=>ifK (AV.strip (AV.strip t32)) (j_3 (.tup [])) (AA (BB As (.vs 2 a1 (Rt.strip a1r)) (AV.strip (v 5))) fun t36=>AA (D2 t36 1) fun t37=>AA (Ap AM S t37) fun t38=>AA (DE (AV.strip t38)) fun t39=>AA (AJ .lss t39 (.int .i64 1)) fun t40=>j_3 t40)) fun j_4=>ifK (AV.strip t23) (j_4 (.tup [])) (AA (BB As (.vs 2 a1 (Rt.strip a1r)) (AV.strip (v 5))) fun t27=>AA (D2 t27 0) fun t28=>AA (Ap AR S t28) fun t29=>AA (AJ .gtr (AV.strip t29) (.int .i64 a0)) fun t31=>j_4 t31)) (j_6 S)) S0)) fun j=>ifK (.bool (decide (a0 < 0))) (j (.tup [])) (j (.bool (decide (a0 > 1048576))))
theorem Pk{w0 a0 a1 a1r S0 Q}(h:Lf (AN (En w0)) a0 a1 a1r S0 Q):AC w0 IS [(.int .i64 a0),(.vs 2 a1 a1r)] S0 Q:=BK w0 Tryz.func130 h
def Jf(Ca:CaT)(a0a:Int)(a0b:Bool)(a0c:List (List AV))(a0cr:Rt)(a0d:List (List AV))(a0dr:Rt)(a0e:Int)(a0f:List (List AV))(a0fr:Rt)(a0g:List UInt8)(S0:St)(Q:QT):Prop:=AA (Du AE (.agg [(.int .i64 a0a),(.bool a0b),(.vs 1 a0c a0cr),(.vs 7 a0d a0dr),(.int .i64 a0e),(.vs 2 a0f a0fr),(.str a0g)])) fun c1=>AA (AB AW (some c1) 2) fun t5=>AA (BU (AV.strip t5)) fun t6=>AA (AB BG (some c1) 3) fun t8=>AA (BU (AV.strip t8)) fun t9=>AA (AJ .neq t6 t9) fun t10=>ifK t10 (Q (.bool false) S0) (AK (fun (S_6:St)=>Q (.bool true) S_6) fun j_3=>DK ([(.int .i64 0)],[(some c1)]) (fun v bx=>([v 3],[bx 1])) (fun nx v bx S=>AA (bx 1) fun _=>AA (AB AW (bx 1) 2) fun t13=>AA (BU (AV.strip t13)) fun t14=>AA (AJ .lss (AV.strip (v 3)) t14) fun t15=>ifK t15 (AA (bx 1) fun _=>AA (AB AW (bx 1) 2) fun t19=>AA (BB AM (AV.strip t19) (AV.strip (v 3))) fun t21=>AA (Ap AM S t21) fun t22=>A1 Ca GR [(AV.strip t22)] S fun t23 S_2=>AA (unA .not t23) fun t24=>AK (fun (x42:AV) (S_5:St)=>AA (AS (AV.strip t24) (.bool true) x42) fun t43=>ifK (AV.strip t43) (Q (.bool false) S_5) (AA (AJ .add (AV.strip (v 3)) (.int .i64 1)) fun t17=>nx ([t17],[(bx 1)]) S_5)) fun j_2=>ifK (AV.strip t24) (j_2 (.tup []) S_2) (AA (AJ .gtr (AV.strip (v 3)) (.int .i64 0)) fun t27=>AK (fun (x41:AV) (S_4:St)=>AA (AS (AV.strip t27) x41 (.bool false)) fun t42=>j_2 (AV.strip t42) S_4) fun j=>gK (AV.strip t27) (AA (bx 1) fun _=>AA (AB AW (bx 1) 2) fun t30=>AA (AJ .sub (AV.strip (v 3)) (.int .i64 1)) fun t32=>AA (BB AM (AV.strip t30) t32) fun t33=>AA (Ap AM S_2 t33) fun t34=>AA (bx 1) fun _=>AA (AB AW (bx 1) 2) fun t36=>AA (BB AM (AV.strip t36) (AV.strip (v 3))) fun t38=>AA (Ap AM S_2 t38) fun t39=>A1 Ca JW [(AV.strip t34),(AV.strip t39)] S_2 fun t40 S_3=>AA (unA .not t40) fun t41=>j t41 S_3) (j (.tup []) S_2) (j (.tup []) S_2))) (j_3 S)) S0)
theorem N3{w0 a0a a0b a0c a0cr a0d a0dr a0e a0f a0fr a0g S0 Q}(h:Jf (AN (En w0)) a0a a0b a0c a0cr a0d a0dr a0e a0f a0fr a0g S0 Q):AC w0 Gv [(.agg [(.int .i64 a0a),(.bool a0b),(.vs 1 a0c a0cr),(.vs 7 a0d a0dr),(.int .i64 a0e),(.vs 2 a0f a0fr),(.str a0g)])] S0 Q:=BK w0 Tryz.func131 h
def IK(Ca:CaT)(a0 a1:List UInt8)(S0:St)(Q:QT):Prop:=Ca E7 [(.str a0)] S0 fun t6 S=>AK (fun (x10:AV) (S_3:St)=>AA (AS (AV.strip t6) x10 (.bool false)) fun t11=>AK (fun (x15:AV)=>AA (AS (AV.strip (AV.strip t11)) (.bool true) x15) fun t16=>Q (AV.strip t16) S_3) fun j=>ifK (AV.strip (AV.strip t11)) (j (.tup [])) (j (.bool (Op.bytesLess a0 a1)))) fun j_2=>ifK (AV.strip t6) (Ca E7 [(.str a1)] S fun t9 S_2=>AA (unA .not t9) fun t10=>j_2 t10 S_2) (j_2 (.tup []) S)
theorem L1{w0 a0 a1 S0 Q}(h:IK (AN (En w0)) a0 a1 S0 Q):AC w0 Ff [(.str a0),(.str a1)] S0 Q:=BK w0 Tryz.func134 h
def F3(Ca:CaT)(a0:List UInt8)(S0:St)(Q:QT):Prop:=Q (.bool (!(a0==a0))) S0
theorem JT{w0 a0 S0 Q}(h:F3 (AN (En w0)) a0 S0 Q):AC w0 EF [(.str a0)] S0 Q:=BK w0 Tryz.func135 h
def OS(Ca:CaT)(a0a:Int)(a0b:Bool)(a0c:List (List AV))(a0cr:Rt)(a0d:List (List AV))(a0dr:Rt)(a0e:Int)(a0f:List (List AV))(a0fr:Rt)(a0g:List UInt8)(S0:St)(Q:QT):Prop:=AA (Du AE (.agg [(.int .i64 a0a),(.bool a0b),(.vs 1 a0c a0cr),(.vs 7 a0d a0dr),(.int .i64 a0e),(.vs 2 a0f a0fr),(.str a0g)])) fun c1=>AA (AB AR (some c1) 0) fun t7=>AA (AJ .eql (AV.strip t7) (.int .i64 2)) fun t8=>AA (AB AR (some c1) 0) fun t10=>AA (AJ .eql (AV.strip t10) (.int .i64 1)) fun t11=>AA (AB AR (some c1) 0) fun t13=>AA (AJ .eql (AV.strip t13) (.int .i64 3)) fun t14=>AA (unA .not (AV.strip t8)) fun t16=>AK (fun (x31:AV)=>AA (AS (AV.strip t16) x31 (.bool false)) fun t32=>AK (fun (x46:AV)=>AA (AS (AV.strip (AV.strip t32)) (.bool true) x46) fun t47=>ifK (AV.strip t47) (Q (.bool false) S0) (AK (fun (x52:AV)=>AA (AS (AV.strip (AV.strip t14)) (.bool true) x52) fun t53=>Q (AV.strip t53) S0) fun j_7=>ifK (AV.strip (AV.strip t14)) (j_7 (.tup [])) (AA (AB AM (some c1) 6) fun t51=>AA (AJ .eql (AV.strip t51) (.str [])) fun t52=>j_7 t52))) fun j_5=>ifK (AV.strip (AV.strip t32)) (j_5 (.tup [])) (AA (unA .not (AV.strip t11)) fun t35=>AK (fun (x45:AV)=>AA (AS (AV.strip t35) x45 (.bool false)) fun t46=>j_5 (AV.strip t46)) fun j_4=>gK (AV.strip t35) (AA (AB AR (some c1) 4) fun t38=>AA (AJ .neq (AV.strip t38) (.int .i64 0)) fun t39=>AK (fun (x44:AV)=>AA (AS (AV.strip t39) (.bool true) x44) fun t45=>j_4 (AV.strip t45)) fun j_3=>gK (AV.strip t39) (j_3 (.tup [])) (AA (AB BY (some c1) 5) fun t42=>AA (BU (AV.strip t42)) fun t43=>AA (AJ .gtr t43 (.int .i64 0)) fun t44=>j_3 t44) (j_3 (.tup []))) (j_4 (.tup [])) (j_4 (.tup [])))) fun j_6=>ifK (AV.strip t16) (AA (AB G4 (some c1) 1) fun t19=>AK (fun (x24:AV)=>AA (AS (AV.strip (AV.strip t19)) (.bool true) x24) fun t25=>AK (fun (x30:AV)=>AA (AS (AV.strip (AV.strip t25)) (.bool true) x30) fun t31=>j_6 (AV.strip t31)) fun j=>gK (AV.strip (AV.strip t25)) (j (.tup [])) (AA (AB BG (some c1) 3) fun t28=>AA (BU (AV.strip t28)) fun t29=>AA (AJ .gtr t29 (.int .i64 0)) fun t30=>j t30) (j (.tup []))) fun j_2=>gK (AV.strip (AV.strip t19)) (j_2 (.tup [])) (AA (AB AW (some c1) 2) fun t22=>AA (BU (AV.strip t22)) fun t23=>AA (AJ .gtr t23 (.int .i64 0)) fun t24=>j_2 t24) (j_2 (.tup []))) (j_6 (.tup []))
theorem Sd{w0 a0a a0b a0c a0cr a0d a0dr a0e a0f a0fr a0g S0 Q}(h:OS (AN (En w0)) a0a a0b a0c a0cr a0d a0dr a0e a0f a0fr a0g S0 Q):AC w0 Kd [(.agg [(.int .i64 a0a),(.bool a0b),(.vs 1 a0c a0cr),(.vs 7 a0d a0dr),(.int .i64 a0e),(.vs 2 a0f a0fr),(.str a0g)])] S0 Q:=BK w0 Tryz.func148 h
def KS(Ca:CaT)(a0:Int)(a1:List (List AV))(a1r:Rt)(S0:St)(Q:QT):Prop:=AK (fun (S_2:St)=>AK (fun (x44:AV)=>AA (AS (.bool (decide (a0≥0))) x44 (.bool false)) fun t45=>Q (AV.strip t45) S_2) fun j_3=>ifK (.bool (decide (a0≥0))) (j_3 (.bool (decide (a0≤1048576)))) (j_3 (.tup []))) fun j_4=>DK ([(.int .i64 0),(.int .i64 0)],[]) (fun v bx=>([v 5,v 10],[])) (fun nx v bx S=>AA (AJ .lss (v 10) (.int .i64 (List.length a1:Int))) fun t11=>ifK t11 (AA (BB As (.vs 2 a1 (Rt.strip a1r)) (v 10)) fun t12=>AA (Ap As S t12) fun t13=>AA (Ai As (some [(.int .i64 0),(.str [])]) 0 (AV.strip t13)) fun b7=>AA (AB AR (some b7) 0) fun t15=>AA (AJ .lss (AV.strip t15) (AV.strip (v 5))) fun t17=>AK (fun (x21:AV)=>AA (AS (AV.strip t17) (.bool true) x21) fun t22=>AK (fun (x31:AV)=>AA (AS (AV.strip (AV.strip t22)) (.bool true) x31) fun t32=>ifK (AV.strip t32) (Q (.bool false) S) (AA (AB AR (some b7) 0) fun t34=>AA (AB AM (some b7) 1) fun t36=>AA (DE (AV.strip t36)) fun t37=>AA (AJ .add (AV.strip t34) t37) fun t38=>AA (AJ .add (v 10) (.int .i64 1)) fun t39=>nx ([t38,(AV.strip t39)],[]) S)) fun j=>ifK (AV.strip (AV.strip t22)) (j (.tup [])) (AA (AB AM (some b7) 1) fun t25=>AA (DE (AV.strip t25)) fun t26=>AA (AB AR (some b7) 0) fun t29=>AA (AJ .sub (.int .i64 a0) (AV.strip t29)) fun t30=>AA (AJ .gtr t26 t30) fun t31=>j t31)) fun j_2=>ifK (AV.strip t17) (j_2 (.tup [])) (AA (AB AM (some b7) 1) fun t20=>AA (AJ .eql (AV.strip t20) (.str [])) fun t21=>j_2 t21)) (j_4 S)) S0
theorem Oo{w0 a0 a1 a1r S0 Q}(h:KS (AN (En w0)) a0 a1 a1r S0 Q):AC w0 Hv [(.int .i64 a0),(.vs 2 a1 a1r)] S0 Q:=BK w0 Tryz.func149 h
def NM(Ca:CaT)(a0a:Int)(a0b:Bool)(a0c:List (List AV))(a0cr:Rt)(a0d:List (List AV))(a0dr:Rt)(a0e:Int)(a0f:List (List AV))(a0fr:Rt)(a0g:List UInt8)(S0:St)(Q:QT):Prop:=AA (Du AE (.agg [(.int .i64 a0a),(.bool a0b),(.vs 1 a0c a0cr),(.vs 7 a0d a0dr),(.int .i64 a0e),(.vs 2 a0f a0fr),(.str a0g)])) fun c1=>AK (fun (y1:Option (List AV)) (S_3:St)=>AA y1 fun _=>AA (AB AW y1 2) fun t32=>AA (BU (AV.strip t32)) fun t33=>AA y1 fun _=>AA (AB BG y1 3) fun t35=>AA (BU (AV.strip t35)) fun t36=>AA (AJ .eql t33 t36) fun t37=>Q t37 S_3) fun j_3=>AA (AB AW (some c1) 2) fun t6=>AA (BU (AV.strip t6)) fun t7=>DK ([(.int .i64 0)],[(some c1)]) (fun v bx=>([v 8],[bx 1])) (fun nx v bx S=>AA (AJ .lss (v 8) t7) fun t9=>ifK t9 (AA (BB AM (AV.strip t6) (v 8)) fun t11=>AA (Ap AM S t11) fun t12=>A1 Ca HB [(AV.strip (AV.strip t12))] S fun t14 S_2=>AA (unA .not t14) fun t15=>AK (fun (x28:AV)=>AA (AS (AV.strip t15) (.bool true) x28) fun t29=>ifK (AV.strip t29) (Q (.bool false) S_2) (AA (AJ .add (v 8) (.int .i64 1)) fun t30=>nx ([(AV.strip t30)],[(bx 1)]) S_2)) fun j_2=>ifK (AV.strip t15) (j_2 (.tup [])) (AA (AJ .gtr (AV.strip (AV.strip (v 8))) (.int .i64 0)) fun t18=>AK (fun (x27:AV)=>AA (AS (AV.strip t18) x27 (.bool false)) fun t28=>j_2 (AV.strip t28)) fun j=>gK (AV.strip t18) (AA (bx 1) fun _=>AA (AB AW (bx 1) 2) fun t21=>AA (AJ .sub (AV.strip (AV.strip (v 8))) (.int .i64 1)) fun t23=>AA (BB AM (AV.strip t21) t23) fun t24=>AA (Ap AM S_2 t24) fun t25=>AA (AJ .geq (AV.strip t25) (AV.strip (AV.strip t12))) fun t27=>j t27) (j (.tup [])) (j (.tup [])))) (j_3 (bx 1) S)) S0
theorem Qj{w0 a0a a0b a0c a0cr a0d a0dr a0e a0f a0fr a0g S0 Q}(h:NM (AN (En w0)) a0a a0b a0c a0cr a0d a0dr a0e a0f a0fr a0g S0 Q):AC w0 JC [(.agg [(.int .i64 a0a),(.bool a0b),(.vs 1 a0c a0cr),(.vs 7 a0d a0dr),(.int .i64 a0e),(.vs 2 a0f a0fr),(.str a0g)])] S0 Q:=BK w0 Tryz.func150 h
def HX(Ca:CaT)(a0:List UInt8)(S0:St)(Q:QT):Prop:=Q (.bool (!(a0==a0))) S0
theorem LD{w0 a0 S0 Q}(h:HX (AN (En w0)) a0 S0 Q):AC w0 E7 [(.str a0)] S0 Q:=BK w0 Tryz.func157 h
end Go.Av
