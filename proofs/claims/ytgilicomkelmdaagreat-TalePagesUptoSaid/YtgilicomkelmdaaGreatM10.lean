/- Parts of the proofs of this seat: abstract values over the model, and what the functions of the program do. No condition. -/
import Derived.Test.YtgilicomkelmdaaGreatM9
set_option linter.all false
set_option maxHeartbeats 2000000
namespace Go.Av
open Go.Proofs
def H8(Ca:CaT)(a0a:List (List AV))(a0ar:Rt)(a0b a1:Int)(S0:St)(Q:QT):Prop:=
 AA (DV AI (.agg [(.vs 2 a0a a0ar),(.int .i64 a0b)])) fun c2=>
 AA (some c2) fun _=>
 AA (AD BZ (some c2) 0) fun t8=>
 AA (aK Dv [] [(.ptr S0.length 0)]) fun t9=>
 Ac Ca Bw [(AV.strip t8),t9] (S0++[Obj.cells [(.int .i64 a1)] GC]) fun t10 S=>
 AA (AG .lss (AV.strip t10) (.int .i64 0)) fun t12=>
 ifK t12
 (AA (AD AI (some c2) 0) fun t13=>
 AA (AR AI (some [(.vs 2 [] .nil),(.int .i64 0)]) 0 (AV.strip t13)) fun b4=>
 AA ((AD AI (some b4) 0).map AV.strip) fun r4=>
 Q (.tup [(AV.flat r4),(.int .i64 2)]) S)
 (AA (some c2) fun _=>
 AA (AD BZ (some c2) 0) fun t15=>
 AA (AG .add (AV.strip t10) (.int .i64 1)) fun t19=>
 AA (some c2) fun _=>
 AA (AD AU (some c2) 1) fun t22=>
 Ac Ca DF [(AV.strip t15)] S fun t16 S_2=>
 Ac Ca C7 [t16,(AV.strip t10),t19] S_2 fun t20 S_3=>
 AA (B3 AI 1 [(0,t20),(1,(AV.strip t22))]) fun t23=>
 AA (AR AI (some [(.vs 2 [] .nil),(.int .i64 0)]) 0 t23) fun b4_2=>
 AA ((AD AI (some b4_2) 0).map AV.strip) fun r4_2=>
 Q (.tup [(AV.flat r4_2),(.int .i64 0)]) S_3)
theorem Lk{w0 a0a a0ar a0b a1 S0 Q}(h:H8 (AL (En w0)) a0a a0ar a0b a1 S0 Q):AC w0 FX [(.agg [(.vs 2 a0a a0ar),(.int .i64 a0b)]),(.int .i64 a1)] S0 Q:=Ay w0 Tryz.func67 (by kernel_rfl) (by kernel_rfl) h
def Sw(Ca:CaT)(a0:Int)(S0:St)(Q:QT):Prop:=
 AN (fun (x7:AV)=>
 AA (As (.bool (decide (a0≥1))) x7 (.bool false)) fun t8=>
 Q (AV.strip t8) S0) fun j=>
 ifK (.bool (decide (a0≥1)))
 (j (.bool (decide (a0≤4))))
 (j (.tup []))
theorem Ys{w0 a0 S0 Q}(h:Sw (AL (En w0)) a0 S0 Q):AC w0 Nr [(.int .i64 a0)] S0 Q:=Ay w0 Tryz.func68 (by kernel_rfl) (by kernel_rfl) h
def NP(Ca:CaT)(a0:Int)(S0:St)(Q:QT):Prop:=
 Q (.agg [(.int .i64 a0),(.int .i64 0),(.int .i64 0),(.int .i64 0),(.int .i64 0),(.str []),(.vs 1 [] .nil),(.bool false)]) S0
theorem S9{w0 a0 S0 Q}(h:NP (AL (En w0)) a0 S0 Q):AC w0 EO [(.int .i64 a0)] S0 Q:=Ay w0 Tryz.func69 (by kernel_rfl) (by kernel_rfl) h
def LW(Ca:CaT)(a0:Int)(S0:St)(Q:QT):Prop:=
 AN (fun (x7:AV)=>
 AA (As (.bool (a0==2)) (.bool true) x7) fun t8=>
 AN (fun (x11:AV)=>
 AA (As (AV.strip (AV.strip t8)) (.bool true) x11) fun t12=>
 Q (AV.strip t12) S0) fun j=>
 ifK (AV.strip (AV.strip t8))
 (j (.tup []))
 (j (.bool (a0==5)))) fun j_2=>
 ifK (.bool (a0==2))
 (j_2 (.tup []))
 (j_2 (.bool (a0==4)))
theorem QX{w0 a0 S0 Q}(h:LW (AL (En w0)) a0 S0 Q):AC w0 IE [(.int .i64 a0)] S0 Q:=Ay w0 Tryz.func70 (by kernel_rfl) (by kernel_rfl) h
def Lw(Ca:CaT)(a0a:List (List AV))(a0ar:Rt)(a0b a1a:Int)(a1b:List UInt8)(a1c a1d a1e:Int)(a1f a2a:List UInt8)(a2ba a2bba a2bbb:Int)(a2bc:List (List AV))(a2bcr:Rt)(S0:St)(Q:QT):Prop:=
 AA (DV AI (.agg [(.vs 2 a0a a0ar),(.int .i64 a0b)])) fun c3=>
 AA (DV Ck (.agg [(.int .i64 a1a),(.str a1b),(.int .i64 a1c),(.int .i64 a1d),(.int .i64 a1e),(.str a1f)])) fun c4=>
 AA (DV Aa (.agg [(.str a2a),(.int .i64 a2ba),(.int .i64 a2bba),(.int .i64 a2bbb),(.vs 2 a2bc a2bcr)])) fun c5=>
 AA (AD AI (some c3) 0) fun t8=>
 AA (some c5) fun _=>
 AA (some c5) fun _=>
 AA (some c5) fun _=>
 AA (AD AU (some c5) 2) fun t12=>
 Ac Ca Cu [(AV.strip t8),(AV.strip t12)] S0 fun t13 S=>
 AA (some c4) fun _=>
 AA (AD AU (some c4) 0) fun t16=>
 AA (AG .eql (AV.strip t16) (.int .i64 1)) fun t17=>
 AN (fun (x20:AV)=>
 AA (As (AV.strip t17) x20 (.bool false)) fun t21=>
 ifK (AV.strip t21)
 (AA (some c5) fun _=>
 AA (some c5) fun _=>
 AA (AD AU (some c5) 1) fun t24=>
 AA (B3 AE 1 [(1,(AV.strip t24)),(3,(.int .i64 (-1)))]) fun t25=>
 AA (AR AE (some AE.zero) 0 t25) fun b6=>
 AA ((AD AE (some b6) 0).map AV.strip) fun r6=>
 Q r6 S)
 (AA (some c4) fun _=>
 AA (AD AU (some c4) 0) fun t28=>
 AA (AG .eql (AV.strip t28) (.int .i64 1)) fun t29=>
 ifK t29
 (AA (some c5) fun _=>
 AA (some c5) fun _=>
 AA (AD AU (some c5) 1) fun t32=>
 AA (AD AI (some c3) 0) fun t33=>
 AA (some c5) fun _=>
 AA (some c5) fun _=>
 AA (some c5) fun _=>
 AA (AD AU (some c5) 2) fun t37=>
 Ac Ca HE [(AV.strip t33),(AV.strip t37)] S fun t38 S_2=>
 AA (B3 AE 1 [(1,(AV.strip t32)),(3,t38)]) fun t39=>
 AA (AR AE (some AE.zero) 0 t39) fun b6_2=>
 AA ((AD AE (some b6_2) 0).map AV.strip) fun r6_2=>
 Q r6_2 S_2)
 (AA (some c4) fun _=>
 AA (AD AU (some c4) 0) fun t42=>
 AA (AG .eql (AV.strip t42) (.int .i64 2)) fun t43=>
 AN (fun (x48:AV)=>
 AA (As (AV.strip t43) x48 (.bool false)) fun t49=>
 ifK (AV.strip t49)
 (AA (some c5) fun _=>
 AA (some c5) fun _=>
 AA (AD AU (some c5) 1) fun t52=>
 AA (B3 AE 1 [(1,(AV.strip t52))]) fun t53=>
 AA (AR AE (some AE.zero) 0 t53) fun b6_3=>
 AA ((AD AE (some b6_3) 0).map AV.strip) fun r6_3=>
 Q r6_3 S)
 (AA (some c4) fun _=>
 AA (AD AU (some c4) 0) fun t56=>
 AA (AG .eql (AV.strip t56) (.int .i64 2)) fun t57=>
 ifK t57
 (AA (some c5) fun _=>
 AA (some c5) fun _=>
 AA (AD AU (some c5) 1) fun t60=>
 AA (some c5) fun _=>
 AA (some c5) fun _=>
 AA (some c5) fun _=>
 AA (AD AU (some c5) 3) fun t65=>
 Ac Ca FP [(AV.strip t13),(AV.strip t65)] S fun t66 S_3=>
 AA (B3 AE 1 [(1,(AV.strip t60)),(2,t66)]) fun t67=>
 AA (AR AE (some AE.zero) 0 t67) fun b6_4=>
 AA ((AD AE (some b6_4) 0).map AV.strip) fun r6_4=>
 Q r6_4 S_3)
 (AA (some c4) fun _=>
 AA (AD AU (some c4) 0) fun t70=>
 AA (AG .eql (AV.strip t70) (.int .i64 3)) fun t71=>
 AN (fun (x76:AV)=>
 AA (As (AV.strip t71) x76 (.bool false)) fun t77=>
 ifK (AV.strip t77)
 (AA (some c5) fun _=>
 AA (some c5) fun _=>
 AA (some c5) fun _=>
 AA (AD AU (some c5) 3) fun t82=>
 Ac Ca Dt [(AV.strip t13),(AV.strip t82)] S fun t83 S_4=>
 AA (B3 AE 1 [(5,t83)]) fun t84=>
 AA (AR AE (some AE.zero) 0 t84) fun b6_5=>
 AA ((AD AE (some b6_5) 0).map AV.strip) fun r6_5=>
 Q r6_5 S_4)
 (AA (some c4) fun _=>
 AA (AD AU (some c4) 0) fun t87=>
 AA (AG .eql (AV.strip t87) (.int .i64 4)) fun t88=>
 AN (fun (x93:AV)=>
 AA (As (AV.strip t88) x93 (.bool false)) fun t94=>
 ifK (AV.strip t94)
 (Ca EO [(.int .i64 5)] S fun t95 S_5=>
 AA (AR AE (some AE.zero) 0 t95) fun b6_6=>
 AA ((AD AE (some b6_6) 0).map AV.strip) fun r6_6=>
 Q r6_6 S_5)
 (AA (some c4) fun _=>
 AA (AD AU (some c4) 0) fun t98=>
 AA (AG .eql (AV.strip t98) (.int .i64 4)) fun t99=>
 ifK t99
 (AA (some c5) fun _=>
 AA (some c5) fun _=>
 AA (some c5) fun _=>
 AA (AD AU (some c5) 3) fun t104=>
 AA (some c4) fun _=>
 AA (AD AU (some c4) 2) fun t106=>
 AA (some c4) fun _=>
 AA (AD AU (some c4) 3) fun t108=>
 Ac Ca FR [(AV.strip t13),(AV.strip t104),(AV.strip t106),(AV.strip t108)] S fun t109 S_6=>
 AA (B3 AE 1 [(5,t109)]) fun t110=>
 AA (AR AE (some AE.zero) 0 t110) fun b6_7=>
 AA ((AD AE (some b6_7) 0).map AV.strip) fun r6_7=>
 Q r6_7 S_6)
 (Ca EO [(.int .i64 1)] S fun t111 S_7=>
 AA (AR AE (some AE.zero) 0 t111) fun b6_8=>
 AA ((AD AE (some b6_8) 0).map AV.strip) fun r6_8=>
 Q r6_8 S_7))) fun j=>
 ifK (AV.strip t88)
 (AA (some c5) fun _=>
 AA (some c5) fun _=>
 AA (AD AU (some c5) 1) fun t92=>
 AA (AG .eql (AV.strip t92) (.int .i64 2)) fun t93=>
 j t93)
 (j (.tup [])))) fun j_2=>
 ifK (AV.strip t71)
 (AA (some c5) fun _=>
 AA (some c5) fun _=>
 AA (AD AU (some c5) 1) fun t75=>
 AA (AG .eql (AV.strip t75) (.int .i64 3)) fun t76=>
 j_2 t76)
 (j_2 (.tup []))))) fun j_3=>
 ifK (AV.strip t43)
 (AA (some c5) fun _=>
 AA (some c5) fun _=>
 AA (AD AU (some c5) 1) fun t47=>
 AA (AG .eql (AV.strip t47) (.int .i64 2)) fun t48=>
 j_3 t48)
 (j_3 (.tup []))))) fun j_4=>
 ifK (AV.strip t17)
 (AA (HI .ptr .eql (AV.strip t13) .nil) fun t20=>
 j_4 t20)
 (j_4 (.tup []))
theorem Ra{w0 a0a a0ar a0b a1a a1b a1c a1d a1e a1f a2a a2ba a2bba a2bbb a2bc a2bcr S0 Q}(h:Lw (AL (En w0)) a0a a0ar a0b a1a a1b a1c a1d a1e a1f a2a a2ba a2bba a2bbb a2bc a2bcr S0 Q):AC w0 I7 [(.agg [(.vs 2 a0a a0ar),(.int .i64 a0b)]),(.agg [(.int .i64 a1a),(.str a1b),(.int .i64 a1c),(.int .i64 a1d),(.int .i64 a1e),(.str a1f)]),(.agg [(.str a2a),(.int .i64 a2ba),(.int .i64 a2bba),(.int .i64 a2bbb),(.vs 2 a2bc a2bcr)])] S0 Q:=Ay w0 Tryz.func71 (by kernel_rfl) (by kernel_rfl) h
def TU(Ca:CaT)(a0:List (List AV))(a0r:Rt)(a1:List UInt8)(a2:Bool)(S0:St)(Q:QT):Prop:=
 Ca Ga [(.str a1)] S0 fun t13 S=>
 AA (AP t13 0) fun t14=>
 AA (AP (AQ t13 0) 1) fun t15=>
 AA (AP (AQ (AQ t13 0) 1) 2) fun t16=>
 AA (AG .neq (AV.strip t16) (.int .i64 0)) fun t18=>
 ifK t18
 (Q (.tup [.nil,(AV.flat (AV.strip t16))]) S)
 (AA (B3 D2 1 [(0,(AV.strip t14)),(1,(.vs 2 [[(.str [47]),(.vs 2 a0 (Rt.strip (Rt.strip (Rt.strip a0r))))]] .full)),(2,(.bool a2))]) fun t25=>
 AA (DV D2 t25) fun c26=>
 Q (.tup [(.ptr S.length 0),(.int .i64 0)]) (S++[Obj.cells c26 Bz]))
theorem Yj{w0 a0 a0r a1 a2 S0 Q}(h:TU (AL (En w0)) a0 a0r a1 a2 S0 Q):AC w0 N6 [(.vs 2 a0 a0r),(.str a1),(.bool a2)] S0 Q:=Ay w0 Tryz.func72 (by kernel_rfl) (by kernel_rfl) h
def RU(Ca:CaT)(a0a:List (List AV))(a0ar:Rt)(a0b:Int)(S0:St)(Q:QT):Prop:=
 AA (DV AI (.agg [(.vs 2 a0a a0ar),(.int .i64 a0b)])) fun c1=>
 AN (fun (x3:AV) (S_5:St)=>
 Q (AV.strip x3) S_5) fun j=>
 AA (AD AI (some c1) 0) fun t5=>
 Ac Ca Gi [(AV.strip t5)] S0 fun t6 S=>
 CJ ([(.vs 2 [] .nil),(.int .i64 0)],[(some c1)]) (fun v bx=>([v 3,v 7],[bx 1])) (fun nx v bx S_2=>
 AA (AG .lss (v 7) t6) fun t8=>
 ifK t8
 (AA (B3 BE 1 [(0,(AV.strip (AV.strip (v 7)))),(1,(.int .i64 0))]) fun t12=>
 AA (Cj 2 [t12]) fun e13=>
 AA (A3 BE S_2 (v 3) (.vs 2 e13 .full)) fun t14=>
 AA (AD AI (bx 1) 0) fun t15=>
 Ac Ca Cu [(AV.strip t15),(AV.strip (AV.strip (v 7)))] S_2 fun t17 S_3=>
 Ac Ca Du [t17,(.int .i64 0)] S_3 fun t18 S_4=>
 ifK t18
 (j t14 S_4)
 (AA (AG .add (v 7) (.int .i64 1)) fun t19=>
 nx ([t14,(AV.strip t19)],[(bx 1)]) S_4))
 (j (v 3) S_2)) S
theorem WR{w0 a0a a0ar a0b S0 Q}(h:RU (AL (En w0)) a0a a0ar a0b S0 Q):AC w0 Ls [(.agg [(.vs 2 a0a a0ar),(.int .i64 a0b)])] S0 Q:=Ay w0 Tryz.func73 (by kernel_rfl) (by kernel_rfl) h
def Jk(Ca:CaT)(a0 a0o:Nat)(S0:St)(Q:QT):Prop:=
 AN (fun (S_6:St)=>
 Q (.tup [(.str []),(.vs 2 [] .nil),(.str []),(.bool false)]) S_6) fun j_2=>
 CJ ([],[]) (fun v bx=>([],[])) (fun nx v bx S=>
 AA (AM CB S (.ptr a0 (a0o+4))) fun t9=>
 AA (HI .ptr .eql (AV.strip t9) .nil) fun t10=>
 AN (fun (x17:AV)=>
 AA (As (AV.strip t10) x17 (.bool false)) fun t18=>
 ifK (AV.strip t18)
 (AA (AM AX S (.ptr a0 (a0o+0))) fun t22=>
 AA (AZ AK (AV.strip t22) (.int .i64 0)) fun t23=>
 AA (AM AK S t23) fun t24=>
 AA (AG .neq (AV.strip t24) (.str [46,46])) fun t25=>
 ifK t25
 (AA (AM AX S (.ptr a0 (a0o+0))) fun t35=>
 AA (AZ AK (AV.strip t35) (.int .i64 0)) fun t36=>
 AA (AM AK S t36) fun t37=>
 Ca Ei [(.ptr a0 a0o)] S fun t27 S_2=>
 (AA (AM AK S_2 t36) fun t37_2=>
 ((AV.strip t37_2):AV)=(AV.strip t37))∧
 ((AA (AM AX S_2 (.ptr a0 (a0o+0))) fun t35_2=>
 ((AV.strip t35_2):AV)=(AV.strip t35))∧
 (AA (Hz AK t27 0) fun t28=>
 Ca Ei [(.ptr a0 a0o)] S_2 fun t30 S_3=>
 (AA (AM AK S_3 t36) fun t37_3=>
 ((AV.strip t37_3):AV)=(AV.strip t37))∧
 ((AA (AM AX S_3 (.ptr a0 (a0o+0))) fun t35_3=>
 ((AV.strip t35_3):AV)=(AV.strip t35))∧
 (AA (Hz CX t30 1) fun t31=>
 Q (.tup [(AV.flat (AV.strip t28)),(AV.flat (AV.strip t31)),(AV.flat (AV.strip t37)),(.bool true)]) S_3)))))
 (AA (AM AX S (.ptr a0 (a0o+0))) fun t42=>
 AA (Dm AK (AV.strip0 t42) (some (.int .i64 1)) none none) fun t43=>
 AA (BC AX (stripMem S (.ptr a0 (a0o+0))) (.ptr a0 (a0o+0)) t43) fun S_4=>
 AA (AM BB S_4 (.ptr a0 (a0o+1))) fun t49=>
 AA (Bb (AV.strip t49)) fun t50=>
 AA (AG .gtr t50 (.int .i64 1)) fun t51=>
 ifK t51
 (AA (AM BB S_4 (.ptr a0 (a0o+1))) fun t56=>
 AA (AM BB S_4 (.ptr a0 (a0o+1))) fun t60=>
 AA (Bb (AV.strip t60)) fun t61=>
 AA (AG .sub t61 (.int .i64 1)) fun t62=>
 AA (Dm B8 (AV.strip t56) none (some t62) none) fun t63=>
 AA (BC BB S_4 (.ptr a0 (a0o+1)) t63) fun S_5=>
 nx ([],[]) S_5)
 (nx ([],[]) S_4)))
 (j_2 S)) fun j=>
 ifK (AV.strip t10)
 (AA (AM AX S (.ptr a0 (a0o+0))) fun t15=>
 AA (Bb (AV.strip t15)) fun t16=>
 AA (AG .gtr t16 (.int .i64 0)) fun t17=>
 j t17)
 (j (.tup []))) S0
theorem OE{w0 a0 a0o S0 Q}(h:Jk (AL (En w0)) a0 a0o S0 Q):AC w0 FH [(.ptr a0 a0o)] S0 Q:=Ay w0 Tryz.func74 (by kernel_rfl) (by kernel_rfl) h
def Ho(Ca:CaT)(a0 a0o:Nat)(S0:St)(Q:QT):Prop:=
 AA (AM CB S0 (.ptr a0 (a0o+4))) fun t8=>
 AA (HI .ptr .neq (AV.strip t8) .nil) fun t9=>
 ifK t9
 (AA (AM CB S0 (.ptr a0 (a0o+4))) fun t13=>
 AA (Pr (AV.strip t13)) fun t14=>
 AA (AM Aa S0 t14) fun t15=>
 AA (AR Aa (some Aa.zero) 0 (AV.strip t15)) fun b2=>
 AA ((AD Aa (some b2) 0).map AV.strip) fun r2=>
 Q r2 S0)
 (Ca Ei [(.ptr a0 a0o)] S0 fun t17 S=>
 AA (AR B8 (some [(.str []),(.vs 2 [] .nil)]) 0 t17) fun b3=>
 AA (some b3) fun _=>
 AA (AD AK (some b3) 0) fun t19=>
 AA (some b3) fun _=>
 AA (AD CX (some b3) 1) fun t21=>
 AA (B3 BS 1 [(0,(.int .i64 2)),(2,(AV.strip t21))]) fun t22=>
 AA (B3 Aa 1 [(0,(AV.strip t19)),(1,t22)]) fun t23=>
 AA (AR Aa (some Aa.zero) 0 t23) fun b4=>
 AN (fun (y4:Option (List AV))=>
 AA (AD Aa y4 0) fun t34=>
 AA (AR Aa (some Aa.zero) 0 (AV.strip t34)) fun b2_2=>
 AA ((AD Aa (some b2_2) 0).map AV.strip) fun r2_2=>
 Q r2_2 S) fun j=>
 AA (some b3) fun _=>
 AA (AD CX (some b3) 1) fun t25=>
 AA (Bb (AV.strip t25)) fun t26=>
 AA (AG .gtr t26 (.int .i64 0)) fun t27=>
 ifK t27
 (AA (some b3) fun _=>
 AA (AD CX (some b3) 1) fun t29=>
 AA (AZ BE (AV.strip t29) (.int .i64 0)) fun t30=>
 AA (AM BE S t30) fun t31=>
 AA (some b4) fun _=>
 AA (some b4) fun _=>
 AA (AR BE (some b4) 2 (AV.strip t31)) fun b4_2=>
 j (some b4_2))
 (j (some b4)))
theorem Lh{w0 a0 a0o S0 Q}(h:Ho (AL (En w0)) a0 a0o S0 Q):AC w0 FQ [(.ptr a0 a0o)] S0 Q:=Ay w0 Tryz.func75 (by kernel_rfl) (by kernel_rfl) h
def RA(Ca:CaT)(a0a:List (List AV))(a0ar:Rt)(a0b:Int)(a1:List (List AV))(a1r:Rt)(a2:List UInt8)(S0:St)(Q:QT):Prop:=
 AA (DV AI (.agg [(.vs 2 a0a a0ar),(.int .i64 a0b)])) fun c3=>
 AN (fun (y8_3:Option (List AV)) (S_7:St)=>
 AA (AD BS y8_3 0) fun t77=>
 AA y8_3 fun _=>
 AA (AD AU y8_3 0) fun t79=>
 AA (AG .neq (AV.strip t79) (.int .i64 0)) fun t80=>
 AA (AR BS (some BS.zero) 0 (AV.strip t77)) fun b6=>
 AA ((AD BS (some b6) 0).map AV.strip) fun r6=>
 Q (.tup [(AV.flat r6),(AV.flat t80)]) S_7) fun j_4=>
 CJ ([(.int .i64 0)],[(some c3),(some BS.zero)]) (fun v bx=>([v 17],[bx 3,bx 8])) (fun nx v bx S=>
 AA (AG .lss (v 17) (.int .i64 (List.length a1:Int))) fun t18=>
 ifK t18
 (AN (fun (y8_2:Option (List AV)) (S_6:St)=>
 AA (AG .add (v 17) (.int .i64 1)) fun t76=>
 nx ([(AV.strip t76)],[(bx 3),y8_2]) S_6) fun j_3=>
 AA (AZ BE (.vs 2 a1 (Rt.strip a1r)) (v 17)) fun t19=>
 AA (AM BE S t19) fun t20=>
 AA (AR BE (some [(.int .i64 0),(.int .i64 0)]) 0 (AV.strip t20)) fun b10=>
 AA (AD AI (bx 3) 0) fun t21=>
 AA (some b10) fun _=>
 AA (AD AU (some b10) 0) fun t23=>
 Ac Ca Cu [(AV.strip t21),(AV.strip t23)] S fun t24 S_2=>
 AA (HI .ptr .eql (AV.strip t24) .nil) fun t26=>
 ifK t26
 (j_3 (bx 8) S_2)
 (AA (some b10) fun _=>
 AA (AD AU (some b10) 1) fun t30=>
 Ac Ca EH [(AV.strip t24),(AV.strip t30),(.str a2)] S_2 fun t32 S_3=>
 AA (AP t32 0) fun t33=>
 AA (AP (AQ t32 0) 1) fun t34=>
 AA (unA .not (AV.strip t34)) fun t36=>
 ifK t36
 (j_3 (bx 8) S_3)
 (Ac Ca EJ [(AV.strip t24),(AV.strip t33)] S_3 fun t39 S_4=>
 AA (AG .neq (AV.strip t39) (.int .i64 2)) fun t41=>
 ifK t41
 (AA (bx 8) fun _=>
 AA (AD AU (bx 8) 0) fun t43=>
 AA (AG .eql (AV.strip t43) (.int .i64 0)) fun t44=>
 AN (fun (x47:AV)=>
 AA (As (AV.strip t44) x47 (.bool false)) fun t48=>
 ifK (AV.strip t48)
 (AA (some b10) fun _=>
 AA (AD AU (some b10) 0) fun t51=>
 AA (B3 BE 1 [(0,(AV.strip t51)),(1,(AV.strip t33))]) fun t53=>
 AA (B3 BS 1 [(0,(AV.strip t39)),(1,t53)]) fun t54=>
 AA (AR BS (bx 8) 0 t54) fun b8=>
 j_4 (some b8) S_4)
 (j_4 (bx 8) S_4)) fun j=>
 ifK (AV.strip t44)
 (AA (AG .neq (AV.strip t39) (.int .i64 4)) fun t47=>
 j t47)
 (j (.tup [])))
 (AN (fun (y8:Option (List AV))=>
 AA y8 fun _=>
 AA (AD CX y8 3) fun t65=>
 AA (some b10) fun _=>
 AA (AD AU (some b10) 0) fun t67=>
 AA (B3 BE 1 [(0,(AV.strip t67)),(1,(AV.strip t33))]) fun t69=>
 AA (Cj 2 [t69]) fun e70=>
 AA (A3 BE S_4 (AV.strip0 t65) (.vs 2 e70 .full)) fun t71=>
 AA (Cd y8 3) fun _=>
 AA (AR CX (Cd y8 3) 3 t71) fun b8_3=>
 Ac Ca Du [(AV.strip t24),(AV.strip t33)] S_4 fun t75 S_5=>
 ifK t75
 (j_4 (some b8_3) S_5)
 (j_3 (some b8_3) S_5)) fun j_2=>
 AA (bx 8) fun _=>
 AA (AD AU (bx 8) 0) fun t56=>
 AA (AG .eql (AV.strip t56) (.int .i64 0)) fun t57=>
 ifK t57
 (AA (some b10) fun _=>
 AA (AD AU (some b10) 0) fun t60=>
 AA (B3 BE 1 [(0,(AV.strip t60)),(1,(AV.strip t33))]) fun t62=>
 AA (B3 BS 1 [(0,(AV.strip t39)),(1,t62)]) fun t63=>
 AA (AR BS (bx 8) 0 t63) fun b8_2=>
 j_2 (some b8_2))
 (j_2 (bx 8))))))
 (j_4 (bx 8) S)) S0
theorem Vy{w0 a0a a0ar a0b a1 a1r a2 S0 Q}(h:RA (AL (En w0)) a0a a0ar a0b a1 a1r a2 S0 Q):AC w0 ML [(.agg [(.vs 2 a0a a0ar),(.int .i64 a0b)]),(.vs 2 a1 a1r),(.str a2)] S0 Q:=Ay w0 Tryz.func76 (by kernel_rfl) (by kernel_rfl) h
def KP(Ca:CaT)(a0a:List (List AV))(a0ar:Rt)(a0b a1:Int)(S0:St)(Q:QT):Prop:=
 AA (DV AI (.agg [(.vs 2 a0a a0ar),(.int .i64 a0b)])) fun c2=>
 AN (fun (x12:AV)=>
 AA (As (.bool (decide (a1 < 0))) (.bool true) x12) fun t13=>
 ifK (AV.strip t13)
 (Q .nil S0)
 (AA (some c2) fun _=>
 AA (AD BZ (some c2) 0) fun t15=>
 AA (AZ CI (AV.strip t15) (.int .i64 a1)) fun t17=>
 AA (Dg t17 1) fun t18=>
 AA (AM De S0 t18) fun t19=>
 Q (AV.strip t19) S0)) fun j=>
 ifK (.bool (decide (a1 < 0)))
 (j (.tup []))
 (AA (some c2) fun _=>
 AA (AD BZ (some c2) 0) fun t10=>
 AA (Bb (AV.strip t10)) fun t11=>
 AA (AG .geq (.int .i64 a1) t11) fun t12=>
 j t12)
theorem PO{w0 a0a a0ar a0b a1 S0 Q}(h:KP (AL (En w0)) a0a a0ar a0b a1 S0 Q):AC w0 Cu [(.agg [(.vs 2 a0a a0ar),(.int .i64 a0b)]),(.int .i64 a1)] S0 Q:=Ay w0 Tryz.func77 (by kernel_rfl) (by kernel_rfl) h
def Gf(Ca:CaT)(a0 a0o:Nat)(a1:Int)(S0:St)(Q:QT):Prop:=
 Ca B7 [(.ptr a0 a0o),(.int .i64 a1)] S0 fun t7 S=>
 AA (Hz AT t7 0) fun t8=>
 AA (Hz AK (AV.strip t8) 6) fun t9=>
 Q (AV.strip t9) S
theorem KJ{w0 a0 a0o a1 S0 Q}(h:Gf (AL (En w0)) a0 a0o a1 S0 Q):AC w0 Dt [(.ptr a0 a0o),(.int .i64 a1)] S0 Q:=Ay w0 Tryz.func78 (by kernel_rfl) (by kernel_rfl) h
def I2(Ca:CaT)(a0 a0o:Nat)(a1a a1ba a1bb:Int)(a1c:List (List AV))(a1cr:Rt)(a2:Bool)(a3:List UInt8)(S0:St)(Q:QT):Prop:=
 AA (DV BS (.agg [(.int .i64 a1a),(.int .i64 a1ba),(.int .i64 a1bb),(.vs 2 a1c a1cr)])) fun c5=>
 Ca FH [(.ptr a0 a0o)] S0 fun t16 S=>
 AA (AP t16 0) fun t17=>
 AA (AP (AQ t16 0) 1) fun t18=>
 AA (AP (AQ (AQ t16 0) 1) 2) fun t19=>
 AA (AP (AQ (AQ (AQ t16 0) 1) 2) 3) fun t20=>
 AA (unA .not (AV.strip t20)) fun t22=>
 ifK t22
 (Q (.int .i64 1) S)
 (ifK (.bool (!a2))
 (Q (.int .i64 2) S)
 (AA (AM AX S (.ptr a0 (a0o+0))) fun t29=>
 AA (Dm AK (AV.strip0 t29) (some (.int .i64 1)) none none) fun t30=>
 AA (BC AX (stripMem S (.ptr a0 (a0o+0))) (.ptr a0 (a0o+0)) t30) fun S_2=>
 AA (AM AX S_2 (.ptr a0 (a0o+0))) fun t36=>
 AA (Bb (AV.strip t36)) fun t37=>
 AA (AG .eql t37 (.int .i64 0)) fun t38=>
 AN (fun (S_8:St)=>
 Q (.int .i64 0) S_8) fun j_3=>
 AA (some c5) fun _=>
 AA (AD AU (some c5) 0) fun t50=>
 AA (AG .eql (AV.strip t50) (.int .i64 3)) fun t51=>
 AN (fun (x60:AV)=>
 AA (As (AV.strip t51) x60 (.bool false)) fun t61=>
 ifK (AV.strip t61)
 (Ca F6 [(.ptr a0 a0o),(.str a3)] S_2 fun t64 S_3=>
 Q t64 S_3)
 (AA (some c5) fun _=>
 AA (AD AU (some c5) 0) fun t67=>
 AA (AG .eql (AV.strip t67) (.int .i64 2)) fun t68=>
 ifK t68
 (AA (AM BB S_2 (.ptr a0 (a0o+1))) fun t73=>
 AA (AM BB S_2 (.ptr a0 (a0o+1))) fun t77=>
 AA (Bb (AV.strip t77)) fun t78=>
 AA (AM BB S_2 (.ptr a0 (a0o+1))) fun t82=>
 AA (Bb (AV.strip t82)) fun t83=>
 AA (Dm B8 (AV.strip t73) none (some t78) (some t83)) fun t84=>
 AA (some c5) fun _=>
 AA (AD CX (some c5) 3) fun t89=>
 Ac Ca Ia [(AV.strip t17),(AV.strip t19)] S_2 fun t87 S_4=>
 (AA (AM BB S_4 (.ptr a0 (a0o+1))) fun t82_2=>
 ((AV.strip t82_2):AV)=(AV.strip t82))∧
 ((AA (AM BB S_4 (.ptr a0 (a0o+1))) fun t77_2=>
 ((AV.strip t77_2):AV)=(AV.strip t77))∧
 ((AA (AM BB S_4 (.ptr a0 (a0o+1))) fun t73_2=>
 ((AV.strip t73_2):AV)=(AV.strip t73))∧
 (AA (B3 B8 1 [(0,t87),(1,(AV.strip t89))]) fun t90=>
 AA (Cj 2 [t90]) fun e91=>
 AA (A3 B8 S_4 t84 (.vs 2 e91 .full)) fun t92=>
 AA (BC BB S_4 (.ptr a0 (a0o+1)) t92) fun S_5=>
 j_3 S_5))))
 (AA (unA .not (AV.strip t38)) fun t97=>
 ifK t97
 (Q (.int .i64 3) S_2)
 (AA (AD BS (some c5) 0) fun t43=>
 Ac Ca Ia [(AV.strip t17),(AV.strip t19)] S_2 fun t42 S_6=>
 AA (B3 Aa 1 [(0,t42),(1,(AV.strip t43))]) fun t44=>
 AA (DV Aa t44) fun c45=>
 AA (BC CB (S_6++[Obj.cells c45 Hi]) (.ptr a0 (a0o+4)) (.ptr S_6.length 0)) fun S_7=>
 j_3 S_7)))) fun j_2=>
 ifK (AV.strip t51)
 (AA (unA .not (AV.strip t38)) fun t54=>
 AN (fun (x59:AV)=>
 AA (As (AV.strip t54) (.bool true) x59) fun t60=>
 j_2 (AV.strip t60)) fun j=>
 gK (AV.strip t54)
 (j (.tup []))
 (AA (AM Dh S_2 (.ptr a0 (a0o+2))) fun t59=>
 j (AV.strip t59))
 (j (.tup [])))
 (j_2 (.tup []))))
theorem M8{w0 a0 a0o a1a a1ba a1bb a1c a1cr a2 a3 S0 Q}(h:I2 (AL (En w0)) a0 a0o a1a a1ba a1bb a1c a1cr a2 a3 S0 Q):AC w0 Er [(.ptr a0 a0o),(.agg [(.int .i64 a1a),(.int .i64 a1ba),(.int .i64 a1bb),(.vs 2 a1c a1cr)]),(.bool a2),(.str a3)] S0 Q:=Ay w0 Tryz.func79 (by kernel_rfl) (by kernel_rfl) h
def G5(Ca:CaT)(a0 a0o:Nat)(a1:Int)(S0:St)(Q:QT):Prop:=
 Ca B7 [(.ptr a0 a0o),(.int .i64 a1)] S0 fun t7 S=>
 AA (Hz AT t7 0) fun t8=>
 AA (Hz AX (AV.strip t8) 2) fun t9=>
 Ac Ca Bu [(AV.strip t9)] S fun t10 S_2=>
 Q t10 S_2
theorem K3{w0 a0 a0o a1 S0 Q}(h:G5 (AL (En w0)) a0 a0o a1 S0 Q):AC w0 FD [(.ptr a0 a0o),(.int .i64 a1)] S0 Q:=Ay w0 Tryz.func80 (by kernel_rfl) (by kernel_rfl) h
def O5(Ca:CaT)(a0:List (List AV))(a0r:Rt)(S0:St)(Q:QT):Prop:=
 AN (fun (x3_2:AV) (S_2:St)=>
 Q (AV.strip x3_2) S_2) fun j_3=>
 CJ ([(.vs 2 [] .nil),(.int .i64 0)],[]) (fun v bx=>([v 3,v 8],[])) (fun nx v bx S=>
 AA (AG .lss (v 8) (.int .i64 (List.length a0:Int))) fun t9=>
 ifK t9
 (AN (fun (x3:AV)=>
 AA (AG .add (v 8) (.int .i64 1)) fun t30=>
 nx ([x3,(AV.strip t30)],[]) S) fun j_2=>
 AA (AZ A4 (.vs 2 a0 (Rt.strip a0r)) (v 8)) fun t11=>
 AA (AM A4 S t11) fun t12=>
 AA (AR A4 (some [(.str []),(.int .i64 0)]) 0 (AV.strip t12)) fun b5=>
 AA (AG .eql (AV.strip (AV.strip (v 8))) (.int .i64 0)) fun t14=>
 AN (fun (x24:AV)=>
 AA (As (AV.strip t14) (.bool true) x24) fun t25=>
 ifK (AV.strip t25)
 (AA (AD A4 (some b5) 0) fun t27=>
 AA (Cj 2 [(AV.strip t27)]) fun e28=>
 AA (A3 A4 S (v 3) (.vs 2 e28 .full)) fun t29=>
 j_2 t29)
 (j_2 (v 3))) fun j=>
 ifK (AV.strip t14)
 (j (.tup []))
 (AA (AG .sub (AV.strip (AV.strip (v 8))) (.int .i64 1)) fun t18=>
 AA (AZ A4 (.vs 2 a0 (Rt.strip a0r)) t18) fun t19=>
 AA (Dg t19 0) fun t20=>
 AA (AM AK S t20) fun t21=>
 AA (some b5) fun _=>
 AA (AD AK (some b5) 0) fun t23=>
 AA (AG .neq (AV.strip t21) (AV.strip t23)) fun t24=>
 j t24))
 (j_3 (v 3) S)) S0
theorem Uk{w0 a0 a0r S0 Q}(h:O5 (AL (En w0)) a0 a0r S0 Q):AC w0 Kw [(.vs 2 a0 a0r)] S0 Q:=Ay w0 Tryz.func81 (by kernel_rfl) (by kernel_rfl) h
def PD(Ca:CaT)(a0:List (List AV))(a0r:Rt)(S0:St)(Q:QT):Prop:=
 AA (DV Ew (.agg [(.vs 3 [] .nil),(.fn Bt [] [])])) fun c10=>
 AN (fun (x4_2:AV) (S_4:St)=>
 AA (Jn C1 CF (.ptr S0.length 0)) fun t44=>
 Ac Ca K5 [t44] S_4 fun t45 S_5=>
 AA (DK A4 false S_5 (.int .i64 0) (AV.strip x4_2)) fun p47=>
 AN (fun (x7:AV) (S_12:St)=>
 Q (AV.strip x7) S_12) fun j_2=>
 CJ ([p47.1],[]) (fun v_2 bx_2=>([v_2 7],[])) (fun nx_2 v_2 bx_2 S_6=>
 Ca EW [(.ptr S0.length 0)] S_6 fun t49 S_7=>
 AA (AG .gtr t49 (.int .i64 0)) fun t50=>
 ifK t50
 (AA (AM BH S_7 (.ptr S0.length 0)) fun t54=>
 AA (AZ Az (AV.strip t54) (.int .i64 0)) fun t55=>
 AA (Pr (AV.strip t55)) fun t58=>
 AA (Dg t58 0) fun t59=>
 AA (AM A4 S_7 t59) fun t60=>
 AA (Cj 2 [(AV.strip t60)]) fun e61=>
 AA (A3 A4 S_7 (v_2 7) (.vs 2 e61 .full)) fun t62=>
 AA (Pr (AV.strip t55)) fun t64=>
 AA (Dg t64 2) fun t65=>
 AA (AM AX S_7 t65) fun t66=>
 AA (Bb (AV.strip t66)) fun t67=>
 AA (AG .eql t67 (.int .i64 0)) fun t68=>
 ifK t68
 (AA (Jn C1 CF (.ptr S0.length 0)) fun t70=>
 Ac Ca MG [t70] S_7 fun t71 S_8=>
 nx_2 ([t62],[]) S_8)
 (AA (Pr (AV.strip t55)) fun t75=>
 AA (Dg t75 2) fun t76=>
 AA (AM AX S_7 t76) fun t77=>
 AA (AZ AK (AV.strip t77) (.int .i64 0)) fun t78=>
 AA (AM AK S_7 t78) fun t79=>
 AA (Pr (AV.strip t55)) fun t81=>
 AA (Dg t81 2) fun t82=>
 AA (AM AX S_7 t82) fun t83=>
 AA (Pr (AV.strip t55)) fun t85=>
 AA (Dg t85 0) fun t86=>
 AA (Dg t86 0) fun t87=>
 AA (Dm AK (AV.strip t83) (some (.int .i64 1)) none none) fun t84=>
 AA (BC AK S_7 t87 (AV.strip t79)) fun S_9=>
 AA (Pr (AV.strip t55)) fun t88=>
 AA (Dg t88 2) fun t89=>
 AA (BC AX S_9 t89 t84) fun S_10=>
 AA (Jn C1 CF (.ptr S0.length 0)) fun t91=>
 Ac Ca MF [t91,(.int .i64 0)] S_10 fun t92 S_11=>
 nx_2 ([t62],[]) S_11))
 (j_2 (v_2 7) S_7)) p47.2) fun j_3=>
 CJ ([(.int .i64 0),(.int .i64 0)],[]) (fun v bx=>([v 4,v 13],[])) (fun nx v bx S=>
 AA (AG .lss (v 13) (.int .i64 (List.length a0:Int))) fun t14=>
 ifK t14
 (AN (fun (x4:AV) (S_3:St)=>
 AA (AG .add (v 13) (.int .i64 1)) fun t42=>
 nx ([x4,(AV.strip t42)],[]) S_3) fun j=>
 AA (AZ AX (.vs 1 a0 (Rt.strip a0r)) (v 13)) fun t16=>
 AA (AM AX S t16) fun t17=>
 AA (Bb (AV.strip (AV.strip t17))) fun t20=>
 AA (AG .add (AV.strip (v 4)) t20) fun t21=>
 AA (Bb (AV.strip (AV.strip t17))) fun t23=>
 AA (AG .gtr t23 (.int .i64 0)) fun t24=>
 ifK t24
 (AA (AZ AK (AV.strip (AV.strip t17)) (.int .i64 0)) fun t31=>
 AA (AM AK S t31) fun t32=>
 AA (B3 A4 1 [(0,(AV.strip t32)),(1,(AV.strip (AV.strip (v 13))))]) fun t34=>
 AA (Dm AK (AV.strip (AV.strip t17)) (some (.int .i64 1)) none none) fun t36=>
 AA (B3 Az 1 [(0,t34),(1,t36)]) fun t37=>
 AA (Cj 3 [t37]) fun e38=>
 AA (AM BH S (.ptr S0.length 0)) fun t29=>
 (AA (AM AK (stripMem S (.ptr S0.length 0)) t31) fun t32_2=>
 ((AV.strip t32_2):AV)=(AV.strip t32))∧
 (AA (appendR Az (stripMem S (.ptr S0.length 0)) (AV.strip0 t29) (.vs 3 e38 .full)) fun p39=>
 AA (BC BH p39.2 (.ptr S0.length 0) p39.1) fun S_2=>
 j t21 S_2))
 (j t21 S))
 (j_3 (v 4) S)) (S0++[Obj.cells c10 C3])
theorem UT{w0 a0 a0r S0 Q}(h:PD (AL (En w0)) a0 a0r S0 Q):AC w0 IT [(.vs 1 a0 a0r)] S0 Q:=Ay w0 Tryz.func82 (by kernel_rfl) (by kernel_rfl) h
def H1(Ca:CaT)(a0 a0o:Nat)(a1:Int)(a2:List UInt8)(S0:St)(Q:QT):Prop:=
 Ca B7 [(.ptr a0 a0o),(.int .i64 a1)] S0 fun t13 S=>
 AA (AR Aq (some Aq.zero) 0 t13) fun b8=>
 AA (some b8) fun _=>
 AA (some b8) fun _=>
 AA (AD AX (some b8) 2) fun t17=>
 Ac Ca Cc [(AV.strip t17),(.str a2)] S fun t19 S_2=>
 AA (AP t19 0) fun t20=>
 AA (AP (AQ t19 0) 1) fun t21=>
 AA (unA .not (AV.strip t21)) fun t23=>
 ifK t23
 (Q (.tup [(.int .i64 0),(.bool false)]) S_2)
 (AA (some b8) fun _=>
 AA (AD JO (some b8) 7) fun t25=>
 AA (AZ AU (AV.strip t25) (AV.strip t20)) fun t27=>
 AA (AM AU S_2 t27) fun t28=>
 Q (.tup [(AV.flat (AV.strip t28)),(.bool true)]) S_2)
theorem Lb{w0 a0 a0o a1 a2 S0 Q}(h:H1 (AL (En w0)) a0 a0o a1 a2 S0 Q):AC w0 EH [(.ptr a0 a0o),(.int .i64 a1),(.str a2)] S0 Q:=Ay w0 Tryz.func83 (by kernel_rfl) (by kernel_rfl) h
def H7(Ca:CaT)(a0 a0o:Nat)(a1:Int)(S0:St)(Q:QT):Prop:=
 Ca B7 [(.ptr a0 a0o),(.int .i64 a1)] S0 fun t7 S=>
 AA (Hz AT t7 0) fun t8=>
 AA (Hz AU (AV.strip t8) 0) fun t9=>
 Q (AV.strip t9) S
theorem Ll{w0 a0 a0o a1 S0 Q}(h:H7 (AL (En w0)) a0 a0o a1 S0 Q):AC w0 EJ [(.ptr a0 a0o),(.int .i64 a1)] S0 Q:=Ay w0 Tryz.func84 (by kernel_rfl) (by kernel_rfl) h
def Qx(Ca:CaT)(a0:List UInt8)(S0:St)(Q:QT):Prop:=
 AA (DV EP (.agg [(.str a0)])) fun c5=>
 Q (.ptr S0.length 0) (S0++[Obj.cells c5 Cr])
theorem XI{w0 a0 S0 Q}(h:Qx (AL (En w0)) a0 S0 Q):AC w0 Q7 [(.str a0)] S0 Q:=Ay w0 Tryz.func85 (by kernel_rfl) (by kernel_rfl) h
def Fi(Ca:CaT)(a0 a0o:Nat)(a1:Int)(S0:St)(Q:QT):Prop:=
 AN (fun (S_3:St)=>
 AA (AM Dh S_3 (.ptr a0 (a0o+1))) fun t32=>
 ifK (AV.strip t32)
 (Q (.agg AT.zero) S_3)
 (Ca Bs [(.ptr a0 a0o),(.int .i64 1)] S_3 fun t35 S_4=>
 AA (B3 AT 1 [(0,t35)]) fun t36=>
 AA (AR AT (some AT.zero) 0 t36) fun b5=>
 AN (fun (y5:Option (List AV)) (S_17:St)=>
 AA (AD AT y5 0) fun t120=>
 AA (AR AT (some AT.zero) 0 (AV.strip t120)) fun b4=>
 AA ((AD AT (some b4) 0).map AV.strip) fun r4=>
 Q r4 S_17) fun j_5=>
 AA (some b5) fun _=>
 AA (AD AU (some b5) 0) fun t38=>
 AA (AG .eql (AV.strip t38) (.int .i64 1)) fun t40=>
 ifK t40
 (Ca Bs [(.ptr a0 a0o),(.int .i64 4)] S_4 fun t42 S_5=>
 AA (some b5) fun _=>
 AA (AR AU (some b5) 4 t42) fun b5_2=>
 Ca Bs [(.ptr a0 a0o),(.int .i64 4)] S_5 fun t45 S_6=>
 CJ ([t45],[(some b5_2)]) (fun v bx=>([v 6],[bx 5])) (fun nx v bx S_7=>
 AA (AG .gtr (AV.strip (v 6)) (.int .i64 0)) fun t47=>
 AN (fun (x53:AV)=>
 AA (As (AV.strip t47) x53 (.bool false)) fun t54=>
 ifK (AV.strip t54)
 (Ca Bs [(.ptr a0 a0o),(.int .i64 4)] S_7 fun t58 S_8=>
 AA (bx 5) fun _=>
 AA (AD CG (bx 5) 5) fun t60=>
 Ca Dq [(.ptr a0 a0o),(.int .i64 4)] S_8 fun t63 S_9=>
 AA (B3 Bj 1 [(0,(AV.strip t58)),(1,t63)]) fun t64=>
 AA (Cj 2 [t64]) fun e65=>
 AA (A3 Bj S_9 (AV.strip0 t60) (.vs 2 e65 .full)) fun t66=>
 AA (Cd (bx 5) 5) fun _=>
 AA (AR CG (Cd (bx 5) 5) 5 t66) fun b5_3=>
 AA (AG .sub (AV.strip (v 6)) (.int .i64 1)) fun t56=>
 nx ([t56],[(some b5_3)]) S_9)
 (j_5 (bx 5) S_7)) fun j_2=>
 ifK (AV.strip t47)
 (AA (AM Dh S_7 (.ptr a0 (a0o+1))) fun t52=>
 AA (unA .not (AV.strip t52)) fun t53=>
 j_2 t53)
 (j_2 (.tup []))) S_6)
 (AA (AG .eql (AV.strip t38) (.int .i64 2)) fun t69=>
 ifK t69
 (Ca Bs [(.ptr a0 a0o),(.int .i64 1)] S_4 fun t71 S_10=>
 AA (AG .eql (AV.strip t71) (.int .i64 1)) fun t74=>
 AA (AM Dh S_10 (.ptr a0 (a0o+1))) fun t78=>
 AN (fun (x81:AV)=>
 AA (As (AV.strip (AV.strip t78)) (.bool true) x81) fun t82=>
 AA (some b5) fun _=>
 AA (AR Dh (some b5) 1 t74) fun b5_4=>
 AA (BC Dh S_10 (.ptr a0 (a0o+1)) (AV.strip t82)) fun S_11=>
 Ca Bs [(.ptr a0 a0o),(.int .i64 2)] S_11 fun t87 S_12=>
 CJ ([t87],[(some b5_4)]) (fun v_2 bx_2=>([v_2 9],[bx_2 5])) (fun nx_2 v_2 bx_2 S_13=>
 AA (AG .gtr (AV.strip (v_2 9)) (.int .i64 0)) fun t89=>
 AN (fun (x95:AV)=>
 AA (As (AV.strip t89) x95 (.bool false)) fun t96=>
 ifK (AV.strip t96)
 (AA (bx_2 5) fun _=>
 AA (AD AX (bx_2 5) 2) fun t100=>
 Ca Dq [(.ptr a0 a0o),(.int .i64 1)] S_13 fun t102 S_14=>
 AA (Cj 1 [t102]) fun e103=>
 AA (A3 AK S_14 (AV.strip0 t100) (.vs 1 e103 .full)) fun t104=>
 AA (Cd (bx_2 5) 2) fun _=>
 AA (AR AX (Cd (bx_2 5) 2) 2 t104) fun b5_5=>
 AA (some b5_5) fun _=>
 AA (AD Cb (some b5_5) 3) fun t107=>
 Ca EV [(.ptr a0 a0o),(.int .i64 (IntKind.i64.wrap (a1+1)))] S_14 fun t111 S_15=>
 AA (Cj 7 [t111]) fun e112=>
 AA (A3 AT S_15 (AV.strip0 t107) (.vs 7 e112 .full)) fun t113=>
 AA (Cd (some b5_5) 3) fun _=>
 AA (AR Cb (Cd (some b5_5) 3) 3 t113) fun b5_6=>
 AA (AG .sub (AV.strip (v_2 9)) (.int .i64 1)) fun t98=>
 nx_2 ([t98],[(some b5_6)]) S_15)
 (j_5 (bx_2 5) S_13)) fun j_3=>
 ifK (AV.strip t89)
 (AA (AM Dh S_13 (.ptr a0 (a0o+1))) fun t94=>
 AA (unA .not (AV.strip t94)) fun t95=>
 j_3 t95)
 (j_3 (.tup []))) S_12) fun j_4=>
 ifK (AV.strip (AV.strip t78))
 (j_4 (.tup []))
 (AA (AG .gtr (AV.strip t71) (.int .i64 1)) fun t81=>
 j_4 t81))
 (AA (AG .eql (AV.strip t38) (.int .i64 3)) fun t116=>
 ifK t116
 (Ca Dq [(.ptr a0 a0o),(.int .i64 2)] S_4 fun t118 S_16=>
 AA (some b5) fun _=>
 AA (AR AK (some b5) 6 t118) fun b5_7=>
 j_5 (some b5_7) S_16)
 (j_5 (some b5) S_4))))) fun j_6=>
 AA (AM AU S0 (.ptr a0 (a0o+2))) fun t13=>
 AA (AG .sub (AV.strip t13) (.int .i64 1)) fun t14=>
 AA (BC AU S0 (.ptr a0 (a0o+2)) t14) fun S=>
 AA (AM AU S (.ptr a0 (a0o+2))) fun t20=>
 AA (AG .lss (AV.strip t20) (.int .i64 0)) fun t21=>
 AN (fun (x24:AV)=>
 AA (As (AV.strip t21) (.bool true) x24) fun t25=>
 ifK (AV.strip t25)
 (AA (BC Dh S (.ptr a0 (a0o+1)) (.bool true)) fun S_2=>
 j_6 S_2)
 (j_6 S)) fun j=>
 ifK (AV.strip t21)
 (j (.tup []))
 (j (.bool (decide (a1 > 15))))
theorem H6{w0 a0 a0o a1 S0 Q}(h:Fi (AL (En w0)) a0 a0o a1 S0 Q):AC w0 EV [(.ptr a0 a0o),(.int .i64 a1)] S0 Q:=Ay w0 Tryz.func86 (by kernel_rfl) (by kernel_rfl) h
def JA(Ca:CaT)(a0 a0o:Nat)(S0:St)(Q:QT):Prop:=
 AA (AM AK S0 (.ptr a0 (a0o+0))) fun t6=>
 AA (Fh (AV.strip t6)) fun t7=>
 Q t7 S0
theorem M1{w0 a0 a0o S0 Q}(h:JA (AL (En w0)) a0 a0o S0 Q):AC w0 Ii [(.ptr a0 a0o)] S0 Q:=Ay w0 Tryz.func87 (by kernel_rfl) (by kernel_rfl) h
def Oe(Ca:CaT)(a0a:Int)(a0b:Bool)(a0c:List (List AV))(a0cr:Rt)(a0d:List (List AV))(a0dr:Rt)(a0e:Int)(a0f:List (List AV))(a0fr:Rt)(a0g:List UInt8)(S0:St)(Q:QT):Prop:=
 AA (DV AT (.agg [(.int .i64 a0a),(.bool a0b),(.vs 1 a0c a0cr),(.vs 7 a0d a0dr),(.int .i64 a0e),(.vs 2 a0f a0fr),(.str a0g)])) fun c1=>
 AA (BC AU (S0++[Obj.cells AU.zero GC]) (.ptr S0.length 0) (.int .i64 4096)) fun S=>
 AA (some c1) fun _=>
 AA (AD AU (some c1) 0) fun t5=>
 AA (AG .eql (AV.strip t5) (.int .i64 2)) fun t6=>
 AN (fun (x9:AV) (S_3:St)=>
 AA (As (AV.strip t6) x9 (.bool false)) fun t10=>
 Q (AV.strip t10) S_3) fun j=>
 ifK (AV.strip t6)
 (AA (AD AT (some c1) 0) fun t8=>
 Ac Ca Ib [(AV.strip t8),(.int .i64 0),(.ptr S0.length 0)] S fun t9 S_2=>
 j t9 S_2)
 (j (.tup []) S)
theorem US{w0 a0a a0b a0c a0cr a0d a0dr a0e a0f a0fr a0g S0 Q}(h:Oe (AL (En w0)) a0a a0b a0c a0cr a0d a0dr a0e a0f a0fr a0g S0 Q):AC w0 IU [(.agg [(.int .i64 a0a),(.bool a0b),(.vs 1 a0c a0cr),(.vs 7 a0d a0dr),(.int .i64 a0e),(.vs 2 a0f a0fr),(.str a0g)])] S0 Q:=Ay w0 Tryz.func88 (by kernel_rfl) (by kernel_rfl) h
def IG(Ca:CaT)(a0 a0o:Nat)(a1a:Int)(a1b:Bool)(a1c:List (List AV))(a1cr:Rt)(a1d:List (List AV))(a1dr:Rt)(a1e:Int)(a1f:List (List AV))(a1fr:Rt)(a1g:List UInt8)(S0:St)(Q:QT):Prop:=
 AA (DV AT (.agg [(.int .i64 a1a),(.bool a1b),(.vs 1 a1c a1cr),(.vs 7 a1d a1dr),(.int .i64 a1e),(.vs 2 a1f a1fr),(.str a1g)])) fun c3=>
 AA (AM BT S0 (.ptr a0 (a0o+0))) fun t12=>
 AA (Bb (AV.strip t12)) fun t13=>
 AA (AM BT S0 (.ptr a0 (a0o+0))) fun t18=>
 AA (appendR Aq (stripMem S0 (.ptr a0 (a0o+0))) (AV.strip0 t18) (.vs 8 [Aq.zero] .full)) fun p21=>
 AA (BC BT p21.2 (.ptr a0 (a0o+0)) p21.1) fun S=>
 AA (AD AT (some c3) 0) fun t24=>
 AA (B3 Aq 1 [(0,(AV.strip t24))]) fun t25=>
 AA (AR Aq (some Aq.zero) 0 t25) fun b6=>
 AN (fun (y6:Option (List AV)) (S_4:St)=>
 AA (some c3) fun _=>
 AA (AD AX (some c3) 2) fun t43=>
 AA (some c3) fun _=>
 AA (AD CG (some c3) 5) fun t46=>
 AA y6 fun _=>
 AA y6 fun _=>
 Ac Ca Bu [(AV.strip t43)] S_4 fun t44 S_5=>
 Ac Ca CP [(AV.strip t46)] S_5 fun t47 S_6=>
 AA (AR Cb y6 3 (.vs 7 [] .nil)) fun b6_3=>
 AA (some b6_3) fun _=>
 AA (some b6_3) fun _=>
 AA (AR AX (some b6_3) 2 t44) fun b6_4=>
 AA (some b6_4) fun _=>
 AA (some b6_4) fun _=>
 AA (AR CG (some b6_4) 5 t47) fun b6_5=>
 AA (AM BT S_6 (.ptr a0 (a0o+0))) fun t57=>
 AA (AD Aq (some b6_5) 0) fun t59=>
 AA (AZ Aq (AV.strip t57) (AV.strip t13)) fun t60=>
 AA (BC Aq S_6 t60 (AV.strip t59)) fun S_7=>
 Q (AV.strip t13) S_7) fun j=>
 AA (some c3) fun _=>
 AA (AD Cb (some c3) 3) fun t27=>
 AA (Bb (AV.strip t27)) fun t28=>
 CJ ([(.int .i64 0)],[(some b6)]) (fun v bx=>([v 29],[bx 6])) (fun nx v bx S_2=>
 AA (AG .lss (v 29) t28) fun t30=>
 ifK t30
 (AA (AZ AT (AV.strip t27) (v 29)) fun t31=>
 AA (AM AT S_2 t31) fun t32=>
 AA (AR AT (some AT.zero) 0 (AV.strip t32)) fun b8=>
 AA (bx 6) fun _=>
 AA (AD AT (some b8) 0) fun t36=>
 AA (AD JO (bx 6) 7) fun t34=>
 Ac Ca EU [(.ptr a0 a0o),(AV.strip t36)] S_2 fun t37 S_3=>
 AA (Cj 1 [t37]) fun e38=>
 AA (A3 AU S_3 (AV.strip0 t34) (.vs 1 e38 .full)) fun t39=>
 AA (Cd (bx 6) 7) fun _=>
 AA (AR JO (Cd (bx 6) 7) 7 t39) fun b6_2=>
 AA (AG .add (v 29) (.int .i64 1)) fun t41=>
 nx ([(AV.strip t41)],[(some b6_2)]) S_3)
 (j (bx 6) S_2)) S
theorem Mk{w0 a0 a0o a1a a1b a1c a1cr a1d a1dr a1e a1f a1fr a1g S0 Q}(h:IG (AL (En w0)) a0 a0o a1a a1b a1c a1cr a1d a1dr a1e a1f a1fr a1g S0 Q):AC w0 EU [(.ptr a0 a0o),(.agg [(.int .i64 a1a),(.bool a1b),(.vs 1 a1c a1cr),(.vs 7 a1d a1dr),(.int .i64 a1e),(.vs 2 a1f a1fr),(.str a1g)])] S0 Q:=Ay w0 Tryz.func89 (by kernel_rfl) (by kernel_rfl) h
def Cw(Ca:CaT)(a0:List (List AV))(a0r:Rt)(a1:AV)(S0:St)(Q:QT):Prop:=
 AN (fun (S_3:St)=>
 Q (.int .i64 (-1)) S_3) fun j=>
 CJ ([(.int .i64 0)],[]) (fun v bx=>([v 8],[])) (fun nx v bx S=>
 AA (AG .lss (v 8) (.int .i64 (List.length a0:Int))) fun t9=>
 ifK t9
 (AA (AZ CI (.vs 2 a0 (Rt.strip a0r)) (AV.strip (AV.strip (v 8)))) fun t14=>
 AA (AM CI S t14) fun t15=>
 AA (GZ (AV.strip a1) [(AV.strip t15)]) fun a=>
 Ca a.1 a.2 S fun t16 S_2=>
 ifK t16
 (Q (AV.strip (AV.strip (v 8))) S_2)
 (AA (AG .add (v 8) (.int .i64 1)) fun t18=>
 nx ([(AV.strip t18)],[]) S_2))
 (j S)) S0
theorem ES{w0 a0 a0r a1 S0 Q}(h:Cw (AL (En w0)) a0 a0r a1 S0 Q):AC w0 Bw [(.vs 2 a0 a0r),a1] S0 Q:=Ay w0 Tryz.func90 (by kernel_rfl) (by kernel_rfl) h
def Gl(Ca:CaT)(a0a:Int)(a0b a1:AV)(S0:St)(Q:QT):Prop:=
 AA (DV CI (.agg [(.int .i64 a0a),a0b])) fun c2=>
 AA (some c2) fun _=>
 AA (AD AU (some c2) 0) fun t5=>
 AA (AM AU S0 a1) fun t6=>
 AA (AG .eql (AV.strip t5) (AV.strip t6)) fun t7=>
 Q t7 S0
theorem KM{w0 a0a a0b a1 S0 Q}(h:Gl (AL (En w0)) a0a a0b a1 S0 Q):AC w0 Dv [(.agg [(.int .i64 a0a),a0b]),a1] S0 Q:=Ay w0 Tryz.func91 (by kernel_rfl) (by kernel_rfl) h
def KY(Ca:CaT)(a0a:List (List AV))(a0ar:Rt)(a0b a1:Int)(S0:St)(Q:QT):Prop:=
 AA (DV AI (.agg [(.vs 2 a0a a0ar),(.int .i64 a0b)])) fun c2=>
 AN (fun (x12:AV)=>
 AA (As (.bool (decide (a1 < 0))) (.bool true) x12) fun t13=>
 ifK (AV.strip t13)
 (Q (.int .i64 (-1)) S0)
 (AA (some c2) fun _=>
 AA (AD BZ (some c2) 0) fun t15=>
 AA (AZ CI (AV.strip t15) (.int .i64 a1)) fun t17=>
 AA (Dg t17 0) fun t18=>
 AA (AM AU S0 t18) fun t19=>
 Q (AV.strip t19) S0)) fun j=>
 ifK (.bool (decide (a1 < 0)))
 (j (.tup []))
 (AA (some c2) fun _=>
 AA (AD BZ (some c2) 0) fun t10=>
 AA (Bb (AV.strip t10)) fun t11=>
 AA (AG .geq (.int .i64 a1) t11) fun t12=>
 j t12)
theorem PH{w0 a0a a0ar a0b a1 S0 Q}(h:KY (AL (En w0)) a0a a0ar a0b a1 S0 Q):AC w0 HE [(.agg [(.vs 2 a0a a0ar),(.int .i64 a0b)]),(.int .i64 a1)] S0 Q:=Ay w0 Tryz.func94 (by kernel_rfl) (by kernel_rfl) h
def Hr(Ca:CaT)(a0 a0o:Nat)(a1:Int)(S0:St)(Q:QT):Prop:=
 Ca B7 [(.ptr a0 a0o),(.int .i64 a1)] S0 fun t7 S=>
 AA (Hz AT t7 0) fun t8=>
 AA (Hz AU (AV.strip t8) 4) fun t9=>
 Q (AV.strip t9) S
theorem Lc{w0 a0 a0o a1 S0 Q}(h:Hr (AL (En w0)) a0 a0o a1 S0 Q):AC w0 FP [(.ptr a0 a0o),(.int .i64 a1)] S0 Q:=Ay w0 Tryz.func95 (by kernel_rfl) (by kernel_rfl) h
def Hn(Ca:CaT)(a0 a0o:Nat)(a1 a2 a3:Int)(S0:St)(Q:QT):Prop:=
 Ca B7 [(.ptr a0 a0o),(.int .i64 a1)] S0 fun t12 S=>
 AA (AR Aq (some Aq.zero) 0 t12) fun b9=>
 AA (some b9) fun _=>
 AA (some b9) fun _=>
 AA (AD AU (some b9) 4) fun t15=>
 AA (some b9) fun _=>
 AA (some b9) fun _=>
 AA (AD CG (some b9) 5) fun t18=>
 Ac Ca Jv [(AV.strip t15),(AV.strip t18),(.int .i64 a2),(.int .i64 a3)] S fun t21 S_2=>
 Q t21 S_2
theorem Li{w0 a0 a0o a1 a2 a3 S0 Q}(h:Hn (AL (En w0)) a0 a0o a1 a2 a3 S0 Q):AC w0 FR [(.ptr a0 a0o),(.int .i64 a1),(.int .i64 a2),(.int .i64 a3)] S0 Q:=Ay w0 Tryz.func96 (by kernel_rfl) (by kernel_rfl) h
def Oh(Ca:CaT)(a0:List UInt8)(S0:St)(Q:QT):Prop:=
 AN (fun (x12:AV)=>
 AA (As (.bool (a0==[])) (.bool true) x12) fun t13=>
 ifK (AV.strip t13)
 (Q (.tup [(.vs 1 [] .nil),(.bool false),(.int .i64 1)]) S0)
 (AN (fun (x2_2:AV) (S_6:St)=>
 AA (NM (.str a0) (.int .i64 0)) fun t42=>
 AA (AG .eql t42 (.int .u8 47)) fun t43=>
 Q (.tup [(AV.flat x2_2),(AV.flat t43),(.int .i64 0)]) S_6) fun j_5=>
 Ca LQ [(.str a0),(.str [47])] S0 fun t15 S=>
 AA (Bb t15) fun t16=>
 CJ ([(.vs 1 [] .nil),(.int .i64 0)],[]) (fun v bx=>([v 2,v 17],[])) (fun nx v bx S_2=>
 AA (AG .lss (v 17) t16) fun t18=>
 ifK t18
 (AN (fun (x2:AV) (S_5:St)=>
 AA (AG .add (v 17) (.int .i64 1)) fun t39=>
 nx ([x2,(AV.strip t39)],[]) S_5) fun j_4=>
 AA (AZ AK t15 (v 17)) fun t19=>
 AA (AM AK S_2 t19) fun t20=>
 AA (AG .eql (AV.strip (AV.strip t20)) (.str [])) fun t23=>
 AN (fun (x26:AV)=>
 AA (As (AV.strip t23) (.bool true) x26) fun t27=>
 ifK (AV.strip t27)
 (j_4 (v 2) S_2)
 (AA (AG .eql (AV.strip (AV.strip t20)) (.str [46,46])) fun t30=>
 AN (fun (x33:AV) (S_4:St)=>
 AA (As (AV.strip t30) (.bool true) x33) fun t34=>
 ifK (AV.strip t34)
 (AA (Cj 1 [(AV.strip (AV.strip t20))]) fun e37=>
 AA (A3 AK S_4 (v 2) (.vs 1 e37 .full)) fun t38=>
 j_4 t38 S_4)
 (Q (.tup [(.vs 1 [] .nil),(.bool false),(.int .i64 1)]) S_4)) fun j_2=>
 ifK (AV.strip t30)
 (j_2 (.tup []) S_2)
 (Ac Ca IR [(AV.strip (AV.strip t20))] S_2 fun t33 S_3=>
 j_2 t33 S_3))) fun j_3=>
 ifK (AV.strip t23)
 (j_3 (.tup []))
 (AA (AG .eql (AV.strip (AV.strip t20)) (.str [46])) fun t26=>
 j_3 t26))
 (j_5 (v 2) S_2)) S)) fun j=>
 ifK (.bool (a0==[]))
 (j (.tup []))
 (j (.bool (decide ((List.length a0:Int) > 1024))))
theorem T6{w0 a0 S0 Q}(h:Oh (AL (En w0)) a0 S0 Q):AC w0 Ga [(.str a0)] S0 Q:=Ay w0 Tryz.func97 (by kernel_rfl) (by kernel_rfl) h
def GS(Ca:CaT)(a0 a0o:Nat)(a1:Int)(S0:St)(Q:QT):Prop:=
 Ca B7 [(.ptr a0 a0o),(.int .i64 a1)] S0 fun t7 S=>
 AA (Hz AT t7 0) fun t8=>
 AA (Hz Dh (AV.strip t8) 1) fun t9=>
 Q (AV.strip t9) S
theorem KZ{w0 a0 a0o a1 S0 Q}(h:GS (AL (En w0)) a0 a0o a1 S0 Q):AC w0 Du [(.ptr a0 a0o),(.int .i64 a1)] S0 Q:=Ay w0 Tryz.func98 (by kernel_rfl) (by kernel_rfl) h
def KB(Ca:CaT)(a0 a0o:Nat)(S0:St)(Q:QT):Prop:=
 AA (AM BB S0 (.ptr a0 (a0o+1))) fun t6=>
 AA (AM BB S0 (.ptr a0 (a0o+1))) fun t10=>
 AA (Bb (AV.strip t10)) fun t11=>
 AA (AG .sub t11 (.int .i64 1)) fun t12=>
 AA (AZ B8 (AV.strip t6) t12) fun t13=>
 AA (AM B8 S0 t13) fun t14=>
 AA (AR B8 (some [(.str []),(.vs 2 [] .nil)]) 0 (AV.strip t14)) fun b2=>
 AA ((AD B8 (some b2) 0).map AV.strip) fun r2=>
 Q r2 S0
theorem Pv{w0 a0 a0o S0 Q}(h:KB (AL (En w0)) a0 a0o S0 Q):AC w0 Ei [(.ptr a0 a0o)] S0 Q:=Ay w0 Tryz.func99 (by kernel_rfl) (by kernel_rfl) h
def Ix(Ca:CaT)(a0 a0o:Nat)(a1:Int)(S0:St)(Q:QT):Prop:=
 AN (fun (x14:AV)=>
 AA (As (.bool (decide (a1 < 0))) (.bool true) x14) fun t15=>
 ifK (AV.strip t15)
 (Q (.agg Aq.zero) S0)
 (AA (AM BT S0 (.ptr a0 (a0o+0))) fun t20=>
 AA (AZ Aq (AV.strip t20) (.int .i64 a1)) fun t22=>
 AA (AM Aq S0 t22) fun t23=>
 AA (AR Aq (some Aq.zero) 0 (AV.strip t23)) fun b4=>
 AA ((AD Aq (some b4) 0).map AV.strip) fun r4=>
 Q r4 S0)) fun j=>
 ifK (.bool (decide (a1 < 0)))
 (j (.tup []))
 (AA (AM BT S0 (.ptr a0 (a0o+0))) fun t12=>
 AA (Bb (AV.strip t12)) fun t13=>
 AA (AG .geq (.int .i64 a1) t13) fun t14=>
 j t14)
theorem Mv{w0 a0 a0o a1 S0 Q}(h:Ix (AL (En w0)) a0 a0o a1 S0 Q):AC w0 B7 [(.ptr a0 a0o),(.int .i64 a1)] S0 Q:=Ay w0 Tryz.func100 (by kernel_rfl) (by kernel_rfl) h
def I9(Ca:CaT)(a0 a0o:Nat)(a1:List UInt8)(S0:St)(Q:QT):Prop:=
 AA (AM AU S0 (.ptr a0 (a0o+3))) fun t11=>
 AA (AG .add (AV.strip t11) (.int .i64 1)) fun t12=>
 AA (BC AU S0 (.ptr a0 (a0o+3)) t12) fun S=>
 AA (AM AU S (.ptr a0 (a0o+3))) fun t18=>
 AA (AG .gtr (AV.strip t18) (.int .i64 40)) fun t19=>
 ifK t19
 (Q (.int .i64 4) S)
 (Ca Ga [(.str a1)] S fun t22 S_2=>
 AA (AP t22 0) fun t23=>
 AA (AP (AQ t22 0) 1) fun t24=>
 AA (AP (AQ (AQ t22 0) 1) 2) fun t25=>
 AA (AG .neq (AV.strip t25) (.int .i64 0)) fun t27=>
 ifK t27
 (Q (AV.strip t25) S_2)
 (AN (fun (S_4:St)=>
 AA (AM AX S_4 (.ptr a0 (a0o+0))) fun t43=>
 AA (A3 AK S_4 t23 (AV.strip t43)) fun t44=>
 AA (BC AX S_4 (.ptr a0 (a0o+0)) t44) fun S_5=>
 Q (.int .i64 0) S_5) fun j=>
 ifK (AV.strip t24)
 (AA (AM BB S_2 (.ptr a0 (a0o+1))) fun t34=>
 AA (Dm B8 (AV.strip0 t34) none (some (.int .i64 1)) none) fun t35=>
 AA (BC BB (stripMem S_2 (.ptr a0 (a0o+1))) (.ptr a0 (a0o+1)) t35) fun S_3=>
 j S_3)
 (j S_2)))
theorem M2{w0 a0 a0o a1 S0 Q}(h:I9 (AL (En w0)) a0 a0o a1 S0 Q):AC w0 F6 [(.ptr a0 a0o),(.str a1)] S0 Q:=Ay w0 Tryz.func101 (by kernel_rfl) (by kernel_rfl) h
def PT(Ca:CaT)(a0 a1:List UInt8)(S0:St)(Q:QT):Prop:=
 ifK (.bool (a0==[47]))
 (AA (AG .add (.str a0) (.str a1)) fun t9=>
 Q t9 S0)
 (AA (AG .add (.str a0) (.str [47])) fun t11=>
 AA (AG .add t11 (.str a1)) fun t13=>
 Q t13 S0)
theorem UG{w0 a0 a1 S0 Q}(h:PT (AL (En w0)) a0 a1 S0 Q):AC w0 Ia [(.str a0),(.str a1)] S0 Q:=Ay w0 Tryz.func102 (by kernel_rfl) (by kernel_rfl) h
def Eg(Ca:CaT)(a0:List (List AV))(a0r:Rt)(S0:St)(Q:QT):Prop:=
 AA (HI .slice .eql (.vs 1 a0 (Rt.strip a0r)) (.vs 1 [] .nil)) fun t4=>
 ifK t4
 (Q (.vs 1 [] .nil) S0)
 (AA (A3 AK S0 (.vs 1 [] .full) (.vs 1 a0 (Rt.strip a0r))) fun t7=>
 Q t7 S0)
theorem Gy{w0 a0 a0r S0 Q}(h:Eg (AL (En w0)) a0 a0r S0 Q):AC w0 Bu [(.vs 1 a0 a0r)] S0 Q:=Ay w0 Tryz.func103 (by kernel_rfl) (by kernel_rfl) h
def KR(Ca:CaT)(a0a:List UInt8)(a0b:Int)(a1a:List UInt8)(a1b:Int)(S0:St)(Q:QT):Prop:=
 AA (DV A4 (.agg [(.str a0a),(.int .i64 a0b)])) fun c2=>
 AA (DV A4 (.agg [(.str a1a),(.int .i64 a1b)])) fun c3=>
 AA (some c2) fun _=>
 AA (AD AK (some c2) 0) fun t6=>
 AA (some c3) fun _=>
 AA (AD AK (some c3) 0) fun t8=>
 AA (AG .neq (AV.strip t6) (AV.strip t8)) fun t9=>
 ifK t9
 (AA (some c2) fun _=>
 AA (AD AK (some c2) 0) fun t11=>
 AA (some c3) fun _=>
 AA (AD AK (some c3) 0) fun t13=>
 AA (AG .lss (AV.strip t11) (AV.strip t13)) fun t14=>
 Q t14 S0)
 (AA (some c2) fun _=>
 AA (AD AU (some c2) 1) fun t16=>
 AA (some c3) fun _=>
 AA (AD AU (some c3) 1) fun t18=>
 AA (AG .lss (AV.strip t16) (AV.strip t18)) fun t19=>
 Q t19 S0)
theorem O9{w0 a0a a0b a1a a1b S0 Q}(h:KR (AL (En w0)) a0a a0b a1a a1b S0 Q):AC w0 Bt [(.agg [(.str a0a),(.int .i64 a0b)]),(.agg [(.str a1a),(.int .i64 a1b)])] S0 Q:=Ay w0 Tryz.func104 (by kernel_rfl) (by kernel_rfl) h
def Oy(Ca:CaT)(a0:AV)(S0:St)(Q:QT):Prop:=
 AA (EC C (AV.strip a0) "Len" []) fun a=>
 Ca a.1 a.2 S0 fun t5 S=>
 AA (AG .quo (AV.strip t5) (.int .i64 2)) fun t7=>
 AA (AG .sub t7 (.int .i64 1)) fun t8=>
 CJ ([t8],[]) (fun v bx=>([v 3],[])) (fun nx v bx S_2=>
 AA (AG .geq (AV.strip (v 3)) (.int .i64 0)) fun t10=>
 ifK t10
 (Ac Ca Ge [(AV.strip a0),(AV.strip (v 3)),(AV.strip t5)] S_2 fun t16 S_3=>
 AA (AG .sub (AV.strip (v 3)) (.int .i64 1)) fun t12=>
 nx ([t12],[]) S_3)
 (Q (.tup []) S_2)) S
theorem Us{w0 a0 S0 Q}(h:Oy (AL (En w0)) a0 S0 Q):AC w0 K5 [a0] S0 Q:=Ay w0 Tryz.func105 (by kernel_rfl) (by kernel_rfl) h
def KT(Ca:CaT)(a0 a0o:Nat)(S0:St)(Q:QT):Prop:=
 AA (AM BH S0 (.ptr a0 (a0o+0))) fun t6=>
 AA (Bb (AV.strip t6)) fun t7=>
 Q t7 S0
theorem O2{w0 a0 a0o S0 Q}(h:KT (AL (En w0)) a0 a0o S0 Q):AC w0 EW [(.ptr a0 a0o)] S0 Q:=Ay w0 Tryz.func106 (by kernel_rfl) (by kernel_rfl) h
def Q0(Ca:CaT)(a0:AV)(S0:St)(Q:QT):Prop:=
 AA (EC C (AV.strip a0) "Len" []) fun a=>
 Ca a.1 a.2 S0 fun t5 S=>
 AA (AG .sub t5 (.int .i64 1)) fun t6=>
 AA (EC C (AV.strip a0) "Swap" [(.int .i64 0),(AV.strip t6)]) fun a_2=>
 Ca a_2.1 a_2.2 S fun t9 S_2=>
 Ac Ca Ge [(AV.strip a0),(.int .i64 0),(AV.strip t6)] S_2 fun t12 S_3=>
 AA (EC C (AV.strip a0) "Pop" []) fun a_3=>
 Ca a_3.1 a_3.2 S_3 fun t14 S_4=>
 Q t14 S_4
theorem Vx{w0 a0 S0 Q}(h:Q0 (AL (En w0)) a0 S0 Q):AC w0 MG [a0] S0 Q:=Ay w0 Tryz.func107 (by kernel_rfl) (by kernel_rfl) h
def Qk(Ca:CaT)(a0:AV)(a1:Int)(S0:St)(Q:QT):Prop:=
 AA (EC C (AV.strip a0) "Len" []) fun a=>
 Ca a.1 a.2 S0 fun t7 S=>
 Ac Ca Ge [(AV.strip a0),(.int .i64 a1),t7] S fun t8 S_2=>
 AA (unA .not t8) fun t9=>
 ifK t9
 (Ac Ca SP [(AV.strip a0),(.int .i64 a1)] S_2 fun t12 S_3=>
 Q (.tup []) S_3)
 (Q (.tup []) S_2)
theorem XG{w0 a0 a1 S0 Q}(h:Qk (AL (En w0)) a0 a1 S0 Q):AC w0 MF [a0,(.int .i64 a1)] S0 Q:=Ay w0 Tryz.func108 (by kernel_rfl) (by kernel_rfl) h
def Dd(Ca:CaT)(a0:List (List AV))(a0r:Rt)(a1:List UInt8)(S0:St)(Q:QT):Prop:=
 AN (fun (x7:AV) (S_3:St)=>
 AA (AG .lss (AV.strip x7) (.int .i64 (List.length a0:Int))) fun t34=>
 AN (fun (x52:AV) (S_8:St)=>
 AA (As (AV.strip t34) x52 (.bool false)) fun t53=>
 Q (.tup [(AV.flat (AV.strip x7)),(AV.flat (AV.strip t53))]) S_8) fun j_3=>
 ifK (AV.strip t34)
 (AA (AZ AK (.vs 1 a0 (Rt.strip a0r)) (AV.strip x7)) fun t38=>
 AA (AM AK S_3 t38) fun t39=>
 AA (AG .eql (AV.strip t39) (.str a1)) fun t41=>
 AN (fun (x51:AV) (S_7:St)=>
 AA (As (AV.strip t41) (.bool true) x51) fun t52=>
 j_3 (AV.strip t52) S_7) fun j_2=>
 gK (AV.strip t41)
 (j_2 (.tup []) S_3)
 (AA (AZ AK (.vs 1 a0 (Rt.strip a0r)) (AV.strip x7)) fun t45=>
 AA (AM AK S_3 t45) fun t46=>
 Ac Ca FE [(AV.strip t46)] S_3 fun t47 S_4=>
 AN (fun (x50:AV) (S_6:St)=>
 AA (As (AV.strip t47) x50 (.bool false)) fun t51=>
 j_2 (AV.strip t51) S_6) fun j=>
 gK (AV.strip t47)
 (Ca FE [(.str a1)] S_4 fun t50 S_5=>
 j t50 S_5)
 (j (.tup []) S_4)
 (j (.tup []) S_4))
 (j_2 (.tup []) S_3))
 (j_3 (.tup []) S_3)) fun j_4=>
 CJ ([(.int .i64 0),(.int .i64 (List.length a0:Int))],[]) (fun v bx=>([v 7,v 8],[])) (fun nx v bx S=>
 AA (AG .lss (AV.strip (v 7)) (AV.strip (v 8))) fun t15=>
 ifK t15
 (AA (AG .add (AV.strip (v 7)) (AV.strip (v 8))) fun t18=>
 AA (EX .u64 t18) fun t19=>
 AA (AG .shr t19 (.int .u64 1)) fun t20=>
 AA (EX .i64 t20) fun t21=>
 AA (AZ AK (.vs 1 a0 (Rt.strip a0r)) (AV.strip t21)) fun t24=>
 AA (AM AK S t24) fun t25=>
 Ac Ca Gm [(AV.strip t25),(.str a1)] S fun t27 S_2=>
 ifK t27
 (AA (AG .add (AV.strip t21) (.int .i64 1)) fun t29=>
 nx ([t29,(v 8)],[]) S_2)
 (nx ([(v 7),(AV.strip t21)],[]) S_2))
 (j_4 (v 7) S)) S0
theorem Fa{w0 a0 a0r a1 S0 Q}(h:Dd (AL (En w0)) a0 a0r a1 S0 Q):AC w0 Cc [(.vs 1 a0 a0r),(.str a1)] S0 Q:=Ay w0 Tryz.func109 (by kernel_rfl) (by kernel_rfl) h
def G4(Ca:CaT)(a0 a0o:Nat)(a1:Int)(S0:St)(Q:QT):Prop:=
 AA (AM C8 S0 (.ptr a0 (a0o+0))) fun t11=>
 Ac Ca Et [(AV.strip t11),(.int .i64 a1)] S0 fun t13 S=>
 AA (AP t13 0) fun t14=>
 AA (AP (AQ t13 0) 1) fun t15=>
 AA (AM Dh S (.ptr a0 (a0o+1))) fun t20=>
 AN (fun (x23:AV)=>
 AA (As (AV.strip (AV.strip t20)) (.bool true) x23) fun t24=>
 AA (BC Dh S (.ptr a0 (a0o+1)) (AV.strip t24)) fun S_2=>
 Q (AV.strip t14) S_2) fun j=>
 ifK (AV.strip (AV.strip t20))
 (j (.tup []))
 (AA (unA .not (AV.strip t15)) fun t23=>
 j t23)
theorem LC{w0 a0 a0o a1 S0 Q}(h:G4 (AL (En w0)) a0 a0o a1 S0 Q):AC w0 Bs [(.ptr a0 a0o),(.int .i64 a1)] S0 Q:=Ay w0 Tryz.func110 (by kernel_rfl) (by kernel_rfl) h
def IL(Ca:CaT)(a0 a0o:Nat)(a1:Int)(S0:St)(Q:QT):Prop:=
 AA (AM C8 S0 (.ptr a0 (a0o+0))) fun t11=>
 Ac Ca F7 [(AV.strip t11),(.int .i64 a1)] S0 fun t13 S=>
 AA (AP t13 0) fun t14=>
 AA (AP (AQ t13 0) 1) fun t15=>
 AA (AM Dh S (.ptr a0 (a0o+1))) fun t20=>
 AN (fun (x23:AV)=>
 AA (As (AV.strip (AV.strip t20)) (.bool true) x23) fun t24=>
 AA (BC Dh S (.ptr a0 (a0o+1)) (AV.strip t24)) fun S_2=>
 Q (AV.strip t14) S_2) fun j=>
 ifK (AV.strip (AV.strip t20))
 (j (.tup []))
 (AA (unA .not (AV.strip t15)) fun t23=>
 j t23)
theorem Mf{w0 a0 a0o a1 S0 Q}(h:IL (AL (En w0)) a0 a0o a1 S0 Q):AC w0 Dq [(.ptr a0 a0o),(.int .i64 a1)] S0 Q:=Ay w0 Tryz.func111 (by kernel_rfl) (by kernel_rfl) h
def Pc(Ca:CaT)(a0a:Int)(a0b:Bool)(a0c:List (List AV))(a0cr:Rt)(a0d:List (List AV))(a0dr:Rt)(a0e:Int)(a0f:List (List AV))(a0fr:Rt)(a0g:List UInt8)(a1:Int)(a2:AV)(S0:St)(Q:QT):Prop:=
 AA (DV AT (.agg [(.int .i64 a0a),(.bool a0b),(.vs 1 a0c a0cr),(.vs 7 a0d a0dr),(.int .i64 a0e),(.vs 2 a0f a0fr),(.str a0g)])) fun c3=>
 AA (Pr (AV.strip a2)) fun t13=>
 AA (AM AU S0 t13) fun t14=>
 AA (AG .sub (AV.strip t14) (.int .i64 1)) fun t15=>
 AA (Pr (AV.strip a2)) fun t16=>
 AA (BC AU S0 t16 t15) fun S=>
 AA (Pr (AV.strip a2)) fun t18=>
 AA (AM AU S t18) fun t19=>
 AA (AG .lss (AV.strip t19) (.int .i64 0)) fun t20=>
 AN (fun (x23:AV)=>
 AA (As (AV.strip t20) (.bool true) x23) fun t24=>
 AN (fun (x28:AV) (S_3:St)=>
 AA (As (AV.strip (AV.strip t24)) (.bool true) x28) fun t29=>
 ifK (AV.strip t29)
 (Q (.bool false) S_3)
 (AN (
 Q (.bool false) S_3) fun j_5=>
 AA (some c3) fun _=>
 AA (AD AU (some c3) 0) fun t31=>
 AA (AG .eql (AV.strip t31) (.int .i64 1)) fun t33=>
 ifK t33
 (AA (some c3) fun _=>
 AA (AD AU (some c3) 4) fun t35=>
 AA (some c3) fun _=>
 AA (AD CG (some c3) 5) fun t37=>
 Ac Ca JC [(AV.strip t35),(AV.strip t37)] S_3 fun t38 S_4=>
 Q t38 S_4)
 (AA (AG .eql (AV.strip t31) (.int .i64 3)) fun t40=>
 ifK t40
 (AA (some c3) fun _=>
 AA (AD AK (some c3) 6) fun t43=>
 Ac Ca Ga [(AV.strip t43)] S_3 fun t44 S_5=>
 AA (AP t44 0) fun t45=>
 AA (AP (AQ t44 0) 1) fun t46=>
 AA (AP (AQ (AQ t44 0) 1) 2) fun t47=>
 AA (AG .eql (AV.strip t47) (.int .i64 0)) fun t49=>
 AN (fun (x54:AV)=>
 AA (As (AV.strip t49) x54 (.bool false)) fun t55=>
 Q (AV.strip t55) S_5) fun j_3=>
 ifK (AV.strip t49)
 (AA (some c3) fun _=>
 AA (AD AK (some c3) 6) fun t52=>
 AA (Fh (AV.strip t52)) fun t53=>
 AA (AG .leq t53 (.int .i64 256)) fun t54=>
 j_3 t54)
 (j_3 (.tup [])))
 (AA (AG .eql (AV.strip t31) (.int .i64 4)) fun t57=>
 ifK t57
 (Q (.bool true) S_3)
 (AA (AG .eql (AV.strip t31) (.int .i64 2)) fun t59=>
 ifK t59
 (AA (AD AT (some c3) 0) fun t60=>
 Ac Ca Kf [(AV.strip t60)] S_3 fun t61 S_6=>
 AA (unA .not t61) fun t62=>
 ifK t62
 (Q (.bool false) S_6)
 (AN (fun (S_9:St)=>
 Q (.bool true) S_9) fun j_4=>
 AA (some c3) fun _=>
 AA (AD Cb (some c3) 3) fun t64=>
 AA (Bb (AV.strip t64)) fun t65=>
 CJ ([(.int .i64 0)],[]) (fun v bx=>([v 66],[])) (fun nx v bx S_7=>
 AA (AG .lss (v 66) t65) fun t67=>
 ifK t67
 (AA (AZ AT (AV.strip t64) (v 66)) fun t68=>
 AA (AM AT S_7 t68) fun t69=>
 AA (AR AT (some AT.zero) 0 (AV.strip t69)) fun b11=>
 AA (AD AT (some b11) 0) fun t70=>
 Ac Ca Ib [(AV.strip t70),(.int .i64 (IntKind.i64.wrap (a1+1))),(AV.strip a2)] S_7 fun t74 S_8=>
 AA (unA .not t74) fun t75=>
 ifK t75
 (Q (.bool false) S_8)
 (AA (AG .add (v 66) (.int .i64 1)) fun t76=>
 nx ([(AV.strip t76)],[]) S_8))
 (j_4 S_7)) S_6))
 (j_5)))))) fun j=>
 ifK (AV.strip (AV.strip t24))
 (j (.tup []) S)
 (AA (AD AT (some c3) 0) fun t26=>
 Ac Ca Lp [(AV.strip t26)] S fun t27 S_2=>
 AA (unA .not t27) fun t28=>
 j t28 S_2)) fun j_2=>
 ifK (AV.strip t20)
 (j_2 (.tup []))
 (j_2 (.bool (decide (a1 > 15))))
theorem UR{w0 a0a a0b a0c a0cr a0d a0dr a0e a0f a0fr a0g a1 a2 S0 Q}(h:Pc (AL (En w0)) a0a a0b a0c a0cr a0d a0dr a0e a0f a0fr a0g a1 a2 S0 Q):AC w0 Ib [(.agg [(.int .i64 a0a),(.bool a0b),(.vs 1 a0c a0cr),(.vs 7 a0d a0dr),(.int .i64 a0e),(.vs 2 a0f a0fr),(.str a0g)]),(.int .i64 a1),a2] S0 Q:=Ay w0 Tryz.func112 (by kernel_rfl) (by kernel_rfl) h
def DX(Ca:CaT)(a0:List (List AV))(a0r:Rt)(S0:St)(Q:QT):Prop:=
 AA (HI .slice .eql (.vs 2 a0 (Rt.strip a0r)) (.vs 2 [] .nil)) fun t4=>
 ifK t4
 (Q (.vs 2 [] .nil) S0)
 (AA (A3 Bj S0 (.vs 2 [] .full) (.vs 2 a0 (Rt.strip a0r))) fun t7=>
 Q t7 S0)
theorem FN{w0 a0 a0r S0 Q}(h:DX (AL (En w0)) a0 a0r S0 Q):AC w0 CP [(.vs 2 a0 a0r)] S0 Q:=Ay w0 Tryz.func113 (by kernel_rfl) (by kernel_rfl) h
def NH(Ca:CaT)(a0:Int)(a1:List (List AV))(a1r:Rt)(a2 a3:Int)(S0:St)(Q:QT):Prop:=
 AN (fun (x19:AV)=>
 AA (As (.bool (decide (a2 < 0))) (.bool true) x19) fun t20=>
 AN (fun (x23:AV)=>
 AA (As (AV.strip (AV.strip t20)) (.bool true) x23) fun t24=>
 ifK (AV.strip t24)
 (Q (.str []) S0)
 (AN (fun (S_8:St)=>
 Ca DG [(.ptr S0.length 0)] S_8 fun t76 S_9=>
 AA (AG .sub (.int .i64 (if (IntKind.i64.wrap (a0 - a2)) < a3 then (IntKind.i64.wrap (a0 - a2)) else a3)) t76) fun t77=>
 Ac Ca HK [(.str [0]),t77] S_9 fun t78 S_10=>
 Ac Ca B4 [(.ptr S0.length 0),t78] S_10 fun t79 S_11=>
 Ca Ft [(.ptr S0.length 0)] S_11 fun t80 S_12=>
 Q t80 S_12) fun j_4=>
 CJ ([(.int .i64 0)],[]) (fun v bx=>([v 32],[])) (fun nx v bx S=>
 AA (AG .lss (v 32) (.int .i64 (List.length a1:Int))) fun t33=>
 ifK t33
 (AN (fun (S_7:St)=>
 AA (AG .add (v 32) (.int .i64 1)) fun t74=>
 nx ([(AV.strip t74)],[]) S_7) fun j_3=>
 AA (AZ Bj (.vs 2 a1 (Rt.strip a1r)) (v 32)) fun t34=>
 AA (AM Bj S t34) fun t35=>
 AA (AR Bj (some [(.int .i64 0),(.str [])]) 0 (AV.strip t35)) fun b11=>
 AA (some b11) fun _=>
 AA (AD AU (some b11) 0) fun t37=>
 AA (some b11) fun _=>
 AA (AD AU (some b11) 0) fun t43=>
 AA (some b11) fun _=>
 AA (AD AK (some b11) 1) fun t45=>
 AA (Fh (AV.strip t45)) fun t46=>
 AA (AG .add (AV.strip t43) t46) fun t47=>
 AA (WE [t47,(.int .i64 (IntKind.i64.wrap (a2+(if (IntKind.i64.wrap (a0 - a2)) < a3 then (IntKind.i64.wrap (a0 - a2)) else a3))))]) fun t51=>
 Ca DG [(.ptr S0.length 0)] S fun t39 S_2=>
 AA (AG .add (.int .i64 a2) t39) fun t40=>
 AA (R0 [(AV.strip t37),t40]) fun t41=>
 AA (AG .geq (AV.strip t41) (AV.strip t51)) fun t54=>
 ifK t54
 (j_3 S_2)
 (AA (AG .sub (AV.strip t41) (.int .i64 a2)) fun t57=>
 Ca DG [(.ptr S0.length 0)] S_2 fun t58 S_3=>
 AA (AG .sub t57 t58) fun t59=>
 Ac Ca HK [(.str [0]),t59] S_3 fun t60 S_4=>
 Ac Ca B4 [(.ptr S0.length 0),t60] S_4 fun t61 S_5=>
 AA (some b11) fun _=>
 AA (AD AK (some b11) 1) fun t63=>
 AA (Cd (some b11) 1) fun _=>
 AA (AD AU (Cd (some b11) 1) 0) fun t66=>
 AA (AG .sub (AV.strip t41) (AV.strip t66)) fun t67=>
 AA (Cd (some b11) 1) fun _=>
 AA (AD AU (Cd (some b11) 1) 0) fun t70=>
 AA (AG .sub (AV.strip t51) (AV.strip t70)) fun t71=>
 AA (DA (AV.strip0 t63) (some t67) (some t71)) fun t72=>
 Ac Ca B4 [(.ptr S0.length 0),t72] S_5 fun t73 S_6=>
 j_3 S_6))
 (j_4 S)) (S0++[Obj.cells Cn.zero Cm]))) fun j=>
 ifK (AV.strip (AV.strip t20))
 (j (.tup []))
 (j (.bool (decide (a3 < 1))))) fun j_2=>
 ifK (.bool (decide (a2 < 0)))
 (j_2 (.tup []))
 (j_2 (.bool (decide (a2≥a0))))
theorem Ta{w0 a0 a1 a1r a2 a3 S0 Q}(h:NH (AL (En w0)) a0 a1 a1r a2 a3 S0 Q):AC w0 Jv [(.int .i64 a0),(.vs 2 a1 a1r),(.int .i64 a2),(.int .i64 a3)] S0 Q:=Ay w0 Tryz.func114 (by kernel_rfl) (by kernel_rfl) h
def PW(Ca:CaT)(a0:List UInt8)(S0:St)(Q:QT):Prop:=
 AN (fun (x7:AV)=>
 AA (As (.bool (!(a0==[]))) x7 (.bool false)) fun t8=>
 AN (fun (x11:AV)=>
 AA (As (AV.strip (AV.strip t8)) x11 (.bool false)) fun t12=>
 AN (fun (x16:AV)=>
 AA (As (AV.strip (AV.strip t12)) x16 (.bool false)) fun t17=>
 AN (fun (x21:AV) (S_2:St)=>
 AA (As (AV.strip (AV.strip t17)) x21 (.bool false)) fun t22=>
 Q (AV.strip t22) S_2) fun j=>
 ifK (AV.strip (AV.strip t17))
 (Ca G9 [(.str a0),(.str [47,0])] S0 fun t20 S=>
 AA (unA .not t20) fun t21=>
 j t21 S)
 (j (.tup []) S0)) fun j_2=>
 ifK (AV.strip (AV.strip t12))
 (j_2 (.bool (decide ((List.length a0:Int)≤64))))
 (j_2 (.tup []))) fun j_3=>
 ifK (AV.strip (AV.strip t8))
 (j_3 (.bool (!(a0==[46,46]))))
 (j_3 (.tup []))) fun j_4=>
 ifK (.bool (!(a0==[])))
 (j_4 (.bool (!(a0==[46]))))
 (j_4 (.tup []))
theorem UQ{w0 a0 S0 Q}(h:PW (AL (En w0)) a0 S0 Q):AC w0 IR [(.str a0)] S0 Q:=Ay w0 Tryz.func116 (by kernel_rfl) (by kernel_rfl) h
def Ph(Ca:CaT)(a0:AV)(a1 a2:Int)(S0:St)(Q:QT):Prop:=
 AN (fun (x7:AV) (S_7:St)=>
 AA (AG .gtr (AV.strip x7) (.int .i64 a1)) fun t47=>
 Q t47 S_7) fun j_4=>
 CJ ([(.int .i64 a1)],[]) (fun v bx=>([v 7],[])) (fun nx v bx S=>
 AA (AG .mul (.int .i64 2) (AV.strip (v 7))) fun t13=>
 AA (AG .add t13 (.int .i64 1)) fun t14=>
 AA (AG .geq (AV.strip t14) (.int .i64 a2)) fun t17=>
 AN (fun (x20:AV)=>
 AA (As (AV.strip t17) (.bool true) x20) fun t21=>
 ifK (AV.strip t21)
 (j_4 (v 7) S)
 (AN (fun (x9:AV) (S_4:St)=>
 AA (EC C (AV.strip a0) "Less" [(AV.strip x9),(AV.strip (v 7))]) fun a_2=>
 Ca a_2.1 a_2.2 S_4 fun t38 S_5=>
 AA (unA .not t38) fun t39=>
 ifK t39
 (j_4 (v 7) S_5)
 (AA (EC C (AV.strip a0) "Swap" [(AV.strip (v 7)),(AV.strip x9)]) fun a_3=>
 Ca a_3.1 a_3.2 S_5 fun t43 S_6=>
 nx ([(AV.strip x9)],[]) S_6)) fun j_3=>
 AA (AG .add (AV.strip t14) (.int .i64 1)) fun t24=>
 AA (AG .lss (AV.strip t24) (.int .i64 a2)) fun t27=>
 AN (fun (x32:AV) (S_3:St)=>
 AA (As (AV.strip t27) x32 (.bool false)) fun t33=>
 ifK (AV.strip t33)
 (j_3 (AV.strip t24) S_3)
 (j_3 (AV.strip t14) S_3)) fun j_2=>
 ifK (AV.strip t27)
 (AA (EC C (AV.strip a0) "Less" [(AV.strip t24),(AV.strip t14)]) fun a=>
 Ca a.1 a.2 S fun t32 S_2=>
 j_2 t32 S_2)
 (j_2 (.tup []) S))) fun j=>
 ifK (AV.strip t17)
 (j (.tup []))
 (AA (AG .lss (AV.strip t14) (.int .i64 0)) fun t20=>
 j t20)) S0
theorem Up{w0 a0 a1 a2 S0 Q}(h:Ph (AL (En w0)) a0 a1 a2 S0 Q):AC w0 Ge [a0,(.int .i64 a1),(.int .i64 a2)] S0 Q:=Ay w0 Tryz.func117 (by kernel_rfl) (by kernel_rfl) h
def SN(Ca:CaT)(a0:AV)(a1:Int)(S0:St)(Q:QT):Prop:=
 CJ ([(.int .i64 a1)],[]) (fun v bx=>([v 1],[])) (fun nx v bx S=>
 AA (AG .sub (AV.strip (v 1)) (.int .i64 1)) fun t6=>
 AA (AG .quo t6 (.int .i64 2)) fun t7=>
 AA (AG .eql (AV.strip t7) (AV.strip (v 1))) fun t10=>
 AN (fun (x16:AV) (S_3:St)=>
 AA (As (AV.strip t10) (.bool true) x16) fun t17=>
 ifK (AV.strip t17)
 (Q (.tup []) S_3)
 (AA (EC C (AV.strip a0) "Swap" [(AV.strip t7),(AV.strip (v 1))]) fun a_2=>
 Ca a_2.1 a_2.2 S_3 fun t21 S_4=>
 nx ([(AV.strip t7)],[]) S_4)) fun j=>
 ifK (AV.strip t10)
 (j (.tup []) S)
 (AA (EC C (AV.strip a0) "Less" [(AV.strip (v 1)),(AV.strip t7)]) fun a=>
 Ca a.1 a.2 S fun t15 S_2=>
 AA (unA .not t15) fun t16=>
 j t16 S_2)) S0
theorem Yr{w0 a0 a1 S0 Q}(h:SN (AL (En w0)) a0 a1 S0 Q):AC w0 SP [a0,(.int .i64 a1)] S0 Q:=Ay w0 Tryz.func118 (by kernel_rfl) (by kernel_rfl) h
def JY(Ca:CaT)(a0 a1:List UInt8)(S0:St)(Q:QT):Prop:=
 Ca F3 [(.str a0)] S0 fun t6 S=>
 AN (fun (x10:AV) (S_3:St)=>
 AA (As (AV.strip t6) x10 (.bool false)) fun t11=>
 AN (fun (x15:AV)=>
 AA (As (AV.strip (AV.strip t11)) (.bool true) x15) fun t16=>
 Q (AV.strip t16) S_3) fun j=>
 ifK (AV.strip (AV.strip t11))
 (j (.tup []))
 (j (.bool (Op.bytesLess a0 a1)))) fun j_2=>
 ifK (AV.strip t6)
 (Ca F3 [(.str a1)] S fun t9 S_2=>
 AA (unA .not t9) fun t10=>
 j_2 t10 S_2)
 (j_2 (.tup []) S)
theorem N1{w0 a0 a1 S0 Q}(h:JY (AL (En w0)) a0 a1 S0 Q):AC w0 Gm [(.str a0),(.str a1)] S0 Q:=Ay w0 Tryz.func119 (by kernel_rfl) (by kernel_rfl) h
def G6(Ca:CaT)(a0:List UInt8)(S0:St)(Q:QT):Prop:=
 Q (.bool (!(a0==a0))) S0
theorem Ke{w0 a0 S0 Q}(h:G6 (AL (En w0)) a0 S0 Q):AC w0 FE [(.str a0)] S0 Q:=Ay w0 Tryz.func120 (by kernel_rfl) (by kernel_rfl) h
def Ij(Ca:CaT)(a0 a0o:Nat)(a1:Int)(S0:St)(Q:QT):Prop:=
 AN (fun (x12:AV)=>
 AA (As (.bool (decide (a1 < 1))) (.bool true) x12) fun t13=>
 AN (fun (x21:AV)=>
 AA (As (AV.strip (AV.strip t13)) (.bool true) x21) fun t22=>
 ifK (AV.strip t22)
 (Q (.tup [(.int .i64 0),(.bool false)]) S0)
 (AN (fun (x6:AV) (S_2:St)=>
 AA (AM AK S_2 (.ptr a0 (a0o+0))) fun t42=>
 AA (DA (AV.strip0 t42) (some (.int .i64 a1)) none) fun t44=>
 AA (BC AK (stripMem S_2 (.ptr a0 (a0o+0))) (.ptr a0 (a0o+0)) t44) fun S_3=>
 Q (.tup [(AV.flat (AV.strip x6)),(.bool true)]) S_3) fun j_3=>
 CJ ([(.int .i64 0),(.int .i64 0)],[]) (fun v bx=>([v 6,v 24],[])) (fun nx v bx S=>
 AA (AG .lss (v 24) (.int .i64 a1)) fun t25=>
 ifK t25
 (AA (AG .shl (AV.strip (v 6)) (.int .u64 8)) fun t28=>
 AA (AM AK S (.ptr a0 (a0o+0))) fun t32=>
 AA (NM (AV.strip t32) (AV.strip (AV.strip (v 24)))) fun t34=>
 AA (EX .i64 t34) fun t35=>
 AA (AG .or t28 t35) fun t36=>
 AA (AG .add (v 24) (.int .i64 1)) fun t37=>
 nx ([t36,(AV.strip t37)],[]) S)
 (j_3 (v 6) S)) S0)) fun j=>
 ifK (AV.strip (AV.strip t13))
 (j (.tup []))
 (AA (AM AK S0 (.ptr a0 (a0o+0))) fun t19=>
 AA (Fh (AV.strip t19)) fun t20=>
 AA (AG .gtr (.int .i64 a1) t20) fun t21=>
 j t21)) fun j_2=>
 ifK (.bool (decide (a1 < 1)))
 (j_2 (.tup []))
 (j_2 (.bool (decide (a1 > 4))))
theorem NA{w0 a0 a0o a1 S0 Q}(h:Ij (AL (En w0)) a0 a0o a1 S0 Q):AC w0 Et [(.ptr a0 a0o),(.int .i64 a1)] S0 Q:=Ay w0 Tryz.func121 (by kernel_rfl) (by kernel_rfl) h
def Ir(Ca:CaT)(a0 a0o:Nat)(a1:Int)(S0:St)(Q:QT):Prop:=
 AA (AM AK S0 (.ptr a0 (a0o+0))) fun t13=>
 Ca Et [(.ptr a0 a0o),(.int .i64 a1)] S0 fun t17 S=>
 AA (AP t17 0) fun t18=>
 AA (AP (AQ t17 0) 1) fun t19=>
 AA (unA .not (AV.strip t19)) fun t21=>
 AN (fun (x29:AV)=>
 AA (As (AV.strip t21) (.bool true) x29) fun t30=>
 ifK (AV.strip t30)
 (AA (BC AK S (.ptr a0 (a0o+0)) (AV.strip (AV.strip t13))) fun S_2=>
 Q (.tup [(.str []),(.bool false)]) S_2)
 (AA (AM AK S (.ptr a0 (a0o+0))) fun t38=>
 AA (DA (AV.strip0 t38) none (some (AV.strip t18))) fun t40=>
 AA (AM AK (stripMem S (.ptr a0 (a0o+0))) (.ptr a0 (a0o+0))) fun t45=>
 AA (DA (AV.strip0 t45) (some (AV.strip t18)) none) fun t47=>
 AA (BC AK (stripMem (stripMem S (.ptr a0 (a0o+0))) (.ptr a0 (a0o+0))) (.ptr a0 (a0o+0)) t47) fun S_3=>
 Q (.tup [(AV.flat (AV.strip t40)),(.bool true)]) S_3)) fun j=>
 ifK (AV.strip t21)
 (j (.tup []))
 (AA (AM AK S (.ptr a0 (a0o+0))) fun t27=>
 AA (Fh (AV.strip t27)) fun t28=>
 AA (AG .gtr (AV.strip t18) t28) fun t29=>
 j t29)
theorem NB{w0 a0 a0o a1 S0 Q}(h:Ir (AL (En w0)) a0 a0o a1 S0 Q):AC w0 F7 [(.ptr a0 a0o),(.int .i64 a1)] S0 Q:=Ay w0 Tryz.func122 (by kernel_rfl) (by kernel_rfl) h
def RJ(Ca:CaT)(a0a:Int)(a0b:Bool)(a0c:List (List AV))(a0cr:Rt)(a0d:List (List AV))(a0dr:Rt)(a0e:Int)(a0f:List (List AV))(a0fr:Rt)(a0g:List UInt8)(S0:St)(Q:QT):Prop:=
 AA (DV AT (.agg [(.int .i64 a0a),(.bool a0b),(.vs 1 a0c a0cr),(.vs 7 a0d a0dr),(.int .i64 a0e),(.vs 2 a0f a0fr),(.str a0g)])) fun c1=>
 AA (some c1) fun _=>
 AA (AD AU (some c1) 0) fun t7=>
 AA (AG .eql (AV.strip t7) (.int .i64 2)) fun t8=>
 AA (some c1) fun _=>
 AA (AD AU (some c1) 0) fun t10=>
 AA (AG .eql (AV.strip t10) (.int .i64 1)) fun t11=>
 AA (some c1) fun _=>
 AA (AD AU (some c1) 0) fun t13=>
 AA (AG .eql (AV.strip t13) (.int .i64 3)) fun t14=>
 AA (unA .not (AV.strip t8)) fun t16=>
 AN (fun (x31:AV)=>
 AA (As (AV.strip t16) x31 (.bool false)) fun t32=>
 AN (fun (x46:AV)=>
 AA (As (AV.strip (AV.strip t32)) (.bool true) x46) fun t47=>
 ifK (AV.strip t47)
 (Q (.bool false) S0)
 (AN (fun (x52:AV)=>
 AA (As (AV.strip (AV.strip t14)) (.bool true) x52) fun t53=>
 Q (AV.strip t53) S0) fun j_7=>
 ifK (AV.strip (AV.strip t14))
 (j_7 (.tup []))
 (AA (some c1) fun _=>
 AA (AD AK (some c1) 6) fun t51=>
 AA (AG .eql (AV.strip t51) (.str [])) fun t52=>
 j_7 t52))) fun j_5=>
 ifK (AV.strip (AV.strip t32))
 (j_5 (.tup []))
 (AA (unA .not (AV.strip t11)) fun t35=>
 AN (fun (x45:AV)=>
 AA (As (AV.strip t35) x45 (.bool false)) fun t46=>
 j_5 (AV.strip t46)) fun j_4=>
 gK (AV.strip t35)
 (AA (some c1) fun _=>
 AA (AD AU (some c1) 4) fun t38=>
 AA (AG .neq (AV.strip t38) (.int .i64 0)) fun t39=>
 AN (fun (x44:AV)=>
 AA (As (AV.strip t39) (.bool true) x44) fun t45=>
 j_4 (AV.strip t45)) fun j_3=>
 gK (AV.strip t39)
 (j_3 (.tup []))
 (AA (some c1) fun _=>
 AA (AD CG (some c1) 5) fun t42=>
 AA (Bb (AV.strip t42)) fun t43=>
 AA (AG .gtr t43 (.int .i64 0)) fun t44=>
 j_3 t44)
 (j_3 (.tup [])))
 (j_4 (.tup []))
 (j_4 (.tup [])))) fun j_6=>
 ifK (AV.strip t16)
 (AA (some c1) fun _=>
 AA (AD Dh (some c1) 1) fun t19=>
 AN (fun (x24:AV)=>
 AA (As (AV.strip (AV.strip t19)) (.bool true) x24) fun t25=>
 AN (fun (x30:AV)=>
 AA (As (AV.strip (AV.strip t25)) (.bool true) x30) fun t31=>
 j_6 (AV.strip t31)) fun j=>
 gK (AV.strip (AV.strip t25))
 (j (.tup []))
 (AA (some c1) fun _=>
 AA (AD Cb (some c1) 3) fun t28=>
 AA (Bb (AV.strip t28)) fun t29=>
 AA (AG .gtr t29 (.int .i64 0)) fun t30=>
 j t30)
 (j (.tup []))) fun j_2=>
 gK (AV.strip (AV.strip t19))
 (j_2 (.tup []))
 (AA (some c1) fun _=>
 AA (AD AX (some c1) 2) fun t22=>
 AA (Bb (AV.strip t22)) fun t23=>
 AA (AG .gtr t23 (.int .i64 0)) fun t24=>
 j_2 t24)
 (j_2 (.tup [])))
 (j_6 (.tup []))
theorem Ws{w0 a0a a0b a0c a0cr a0d a0dr a0e a0f a0fr a0g S0 Q}(h:RJ (AL (En w0)) a0a a0b a0c a0cr a0d a0dr a0e a0f a0fr a0g S0 Q):AC w0 Lp [(.agg [(.int .i64 a0a),(.bool a0b),(.vs 1 a0c a0cr),(.vs 7 a0d a0dr),(.int .i64 a0e),(.vs 2 a0f a0fr),(.str a0g)])] S0 Q:=Ay w0 Tryz.func123 (by kernel_rfl) (by kernel_rfl) h
def Lo(Ca:CaT)(a0:Int)(a1:List (List AV))(a1r:Rt)(S0:St)(Q:QT):Prop:=
 AN (fun (S_2:St)=>
 AN (fun (x44:AV)=>
 AA (As (.bool (decide (a0≥0))) x44 (.bool false)) fun t45=>
 Q (AV.strip t45) S_2) fun j_3=>
 ifK (.bool (decide (a0≥0)))
 (j_3 (.bool (decide (a0≤1048576))))
 (j_3 (.tup []))) fun j_4=>
 CJ ([(.int .i64 0),(.int .i64 0)],[]) (fun v bx=>([v 5,v 10],[])) (fun nx v bx S=>
 AA (AG .lss (v 10) (.int .i64 (List.length a1:Int))) fun t11=>
 ifK t11
 (AA (AZ Bj (.vs 2 a1 (Rt.strip a1r)) (v 10)) fun t12=>
 AA (AM Bj S t12) fun t13=>
 AA (AR Bj (some [(.int .i64 0),(.str [])]) 0 (AV.strip t13)) fun b7=>
 AA (some b7) fun _=>
 AA (AD AU (some b7) 0) fun t15=>
 AA (AG .lss (AV.strip t15) (AV.strip (v 5))) fun t17=>
 AN (fun (x21:AV)=>
 AA (As (AV.strip t17) (.bool true) x21) fun t22=>
 AN (fun (x31:AV)=>
 AA (As (AV.strip (AV.strip t22)) (.bool true) x31) fun t32=>
 ifK (AV.strip t32)
 (Q (.bool false) S)
 (AA (some b7) fun _=>
 AA (AD AU (some b7) 0) fun t34=>
 AA (some b7) fun _=>
 AA (AD AK (some b7) 1) fun t36=>
 AA (Fh (AV.strip t36)) fun t37=>
 AA (AG .add (AV.strip t34) t37) fun t38=>
 AA (AG .add (v 10) (.int .i64 1)) fun t39=>
 nx ([t38,(AV.strip t39)],[]) S)) fun j=>
 ifK (AV.strip (AV.strip t22))
 (j (.tup []))
 (AA (some b7) fun _=>
 AA (AD AK (some b7) 1) fun t25=>
 AA (Fh (AV.strip t25)) fun t26=>
 AA (some b7) fun _=>
 AA (AD AU (some b7) 0) fun t29=>
 AA (AG .sub (.int .i64 a0) (AV.strip t29)) fun t30=>
 AA (AG .gtr t26 t30) fun t31=>
 j t31)) fun j_2=>
 ifK (AV.strip t17)
 (j_2 (.tup []))
 (AA (some b7) fun _=>
 AA (AD AK (some b7) 1) fun t20=>
 AA (AG .eql (AV.strip t20) (.str [])) fun t21=>
 j_2 t21))
 (j_4 S)) S0
theorem Rj{w0 a0 a1 a1r S0 Q}(h:Lo (AL (En w0)) a0 a1 a1r S0 Q):AC w0 JC [(.int .i64 a0),(.vs 2 a1 a1r)] S0 Q:=Ay w0 Tryz.func124 (by kernel_rfl) (by kernel_rfl) h
def Oq(Ca:CaT)(a0a:Int)(a0b:Bool)(a0c:List (List AV))(a0cr:Rt)(a0d:List (List AV))(a0dr:Rt)(a0e:Int)(a0f:List (List AV))(a0fr:Rt)(a0g:List UInt8)(S0:St)(Q:QT):Prop:=
 AA (DV AT (.agg [(.int .i64 a0a),(.bool a0b),(.vs 1 a0c a0cr),(.vs 7 a0d a0dr),(.int .i64 a0e),(.vs 2 a0f a0fr),(.str a0g)])) fun c1=>
 AN (fun (y1:Option (List AV)) (S_3:St)=>
 AA y1 fun _=>
 AA (AD AX y1 2) fun t32=>
 AA (Bb (AV.strip t32)) fun t33=>
 AA y1 fun _=>
 AA (AD Cb y1 3) fun t35=>
 AA (Bb (AV.strip t35)) fun t36=>
 AA (AG .eql t33 t36) fun t37=>
 Q t37 S_3) fun j_3=>
 AA (some c1) fun _=>
 AA (AD AX (some c1) 2) fun t6=>
 AA (Bb (AV.strip t6)) fun t7=>
 CJ ([(.int .i64 0)],[(some c1)]) (fun v bx=>([v 8],[bx 1])) (fun nx v bx S=>
 AA (AG .lss (v 8) t7) fun t9=>
 ifK t9
 (AA (AZ AK (AV.strip t6) (v 8)) fun t11=>
 AA (AM AK S t11) fun t12=>
 Ac Ca IR [(AV.strip (AV.strip t12))] S fun t14 S_2=>
 AA (unA .not t14) fun t15=>
 AN (fun (x28:AV)=>
 AA (As (AV.strip t15) (.bool true) x28) fun t29=>
 ifK (AV.strip t29)
 (Q (.bool false) S_2)
 (AA (AG .add (v 8) (.int .i64 1)) fun t30=>
 nx ([(AV.strip t30)],[(bx 1)]) S_2)) fun j_2=>
 ifK (AV.strip t15)
 (j_2 (.tup []))
 (AA (AG .gtr (AV.strip (AV.strip (v 8))) (.int .i64 0)) fun t18=>
 AN (fun (x27:AV)=>
 AA (As (AV.strip t18) x27 (.bool false)) fun t28=>
 j_2 (AV.strip t28)) fun j=>
 gK (AV.strip t18)
 (AA (bx 1) fun _=>
 AA (AD AX (bx 1) 2) fun t21=>
 AA (AG .sub (AV.strip (AV.strip (v 8))) (.int .i64 1)) fun t23=>
 AA (AZ AK (AV.strip t21) t23) fun t24=>
 AA (AM AK S_2 t24) fun t25=>
 AA (AG .geq (AV.strip t25) (AV.strip (AV.strip t12))) fun t27=>
 j t27)
 (j (.tup []))
 (j (.tup []))))
 (j_3 (bx 1) S)) S0
theorem UX{w0 a0a a0b a0c a0cr a0d a0dr a0e a0f a0fr a0g S0 Q}(h:Oq (AL (En w0)) a0a a0b a0c a0cr a0d a0dr a0e a0f a0fr a0g S0 Q):AC w0 Kf [(.agg [(.int .i64 a0a),(.bool a0b),(.vs 1 a0c a0cr),(.vs 7 a0d a0dr),(.int .i64 a0e),(.vs 2 a0f a0fr),(.str a0g)])] S0 Q:=Ay w0 Tryz.func125 (by kernel_rfl) (by kernel_rfl) h
def G7(Ca:CaT)(a0 a0o:Nat)(S0:St)(Q:QT):Prop:=
 AA (AM F9 S0 (.ptr a0 (a0o+1))) fun t6=>
 AA (Bb (AV.strip t6)) fun t7=>
 Q t7 S0
theorem Kn{w0 a0 a0o S0 Q}(h:G7 (AL (En w0)) a0 a0o S0 Q):AC w0 DG [(.ptr a0 a0o)] S0 Q:=Ay w0 Tryz.func126 (by kernel_rfl) (by kernel_rfl) h
def Em(Ca:CaT)(a0 a0o:Nat)(a1:List UInt8)(S0:St)(Q:QT):Prop:=
 Ca FM [(.ptr a0 a0o)] S0 fun t7 S=>
 AA (AM F9 S (.ptr a0 (a0o+1))) fun t12=>
 AA (A3 JN (stripMem S (.ptr a0 (a0o+1))) (AV.strip0 t12) (.str a1)) fun t14=>
 AA (BC F9 (stripMem S (.ptr a0 (a0o+1))) (.ptr a0 (a0o+1)) t14) fun S_2=>
 Q (.tup [(.int .i64 (List.length a1:Int)),.nilifc]) S_2
theorem HV{w0 a0 a0o a1 S0 Q}(h:Em (AL (En w0)) a0 a0o a1 S0 Q):AC w0 B4 [(.ptr a0 a0o),(.str a1)] S0 Q:=Ay w0 Tryz.func127 (by kernel_rfl) (by kernel_rfl) h
def I8(Ca:CaT)(a0:List UInt8)(S0:St)(Q:QT):Prop:=
 Q (.bool (!(a0==a0))) S0
theorem M4{w0 a0 S0 Q}(h:I8 (AL (En w0)) a0 S0 Q):AC w0 F3 [(.str a0)] S0 Q:=Ay w0 Tryz.func132 (by kernel_rfl) (by kernel_rfl) h
def Ji(Ca:CaT)(a0 a0o:Nat)(a1 a2:Int)(S0:St)(Q:QT):Prop:=
 AA (AM BX S0 (.ptr a0 (a0o+1))) fun t10=>
 AA (AM BH S0 (.ptr a0 (a0o+0))) fun t14=>
 AA (AZ Az (AV.strip t14) (.int .i64 a1)) fun t16=>
 AA (Dg t16 0) fun t17=>
 AA (AM A4 S0 t17) fun t18=>
 AA (AM BH S0 (.ptr a0 (a0o+0))) fun t22=>
 AA (AZ Az (AV.strip t22) (.int .i64 a2)) fun t24=>
 AA (Dg t24 0) fun t25=>
 AA (AM A4 S0 t25) fun t26=>
 AA (GZ (AV.strip t10) [(AV.strip t18),(AV.strip t26)]) fun a=>
 Ca a.1 a.2 S0 fun t27 S=>
 Q t27 S
theorem OP{w0 a0 a0o a1 a2 S0 Q}(h:Ji (AL (En w0)) a0 a0o a1 a2 S0 Q):AC w0 FK [(.ptr a0 a0o),(.int .i64 a1),(.int .i64 a2)] S0 Q:=Ay w0 Tryz.func167 (by kernel_rfl) (by kernel_rfl) h
def KN(Ca:CaT)(a0 a0o:Nat)(S0:St)(Q:QT):Prop:=
 AA (AM BH S0 (.ptr a0 (a0o+0))) fun t8=>
 AA (Bb (AV.strip t8)) fun t9=>
 AA (AG .sub t9 (.int .i64 1)) fun t10=>
 AA (AM BH S0 (.ptr a0 (a0o+0))) fun t14=>
 AA (AZ Az (AV.strip t14) (AV.strip t10)) fun t16=>
 AA (AM Az S0 t16) fun t17=>
 AA (AR Az (some [(.str []),(.int .i64 0),(.vs 1 [] .nil)]) 0 (AV.strip t17)) fun b4=>
 AA (AM BH S0 (.ptr a0 (a0o+0))) fun t22=>
 AA (Dm Az (AV.strip0 t22) none (some (AV.strip t10)) none) fun t24=>
 AA (BC BH (stripMem S0 (.ptr a0 (a0o+0))) (.ptr a0 (a0o+0)) t24) fun S=>
 AA (AD Az (some b4) 0) fun t27=>
 AA (Jn Az Qh (AV.strip t27)) fun t28=>
 Q t28 S
theorem Om{w0 a0 a0o S0 Q}(h:KN (AL (En w0)) a0 a0o S0 Q):AC w0 Fd [(.ptr a0 a0o)] S0 Q:=Ay w0 Tryz.func168 (by kernel_rfl) (by kernel_rfl) h
def JM(Ca:CaT)(a0 a0o:Nat)(a1 a2:Int)(S0:St)(Q:QT):Prop:=
 AA (AM BH S0 (.ptr a0 (a0o+0))) fun t9=>
 AA (AM BH S0 (.ptr a0 (a0o+0))) fun t14=>
 AA (AM BH S0 (.ptr a0 (a0o+0))) fun t19=>
 AA (AZ Az (AV.strip t19) (.int .i64 a2)) fun t21=>
 AA (AM Az S0 t21) fun t22=>
 AA (AM BH S0 (.ptr a0 (a0o+0))) fun t26=>
 AA (AZ Az (AV.strip t26) (.int .i64 a1)) fun t28=>
 AA (AM Az S0 t28) fun t29=>
 AA (AZ Az (AV.strip t9) (.int .i64 a1)) fun t30=>
 AA (BC Az S0 t30 (AV.strip t22)) fun S=>
 AA (AZ Az (AV.strip t14) (.int .i64 a2)) fun t31=>
 AA (BC Az S t31 (AV.strip t29)) fun S_2=>
 Q (.tup []) S_2
theorem Nh{w0 a0 a0o a1 a2 S0 Q}(h:JM (AL (En w0)) a0 a0o a1 a2 S0 Q):AC w0 FF [(.ptr a0 a0o),(.int .i64 a1),(.int .i64 a2)] S0 Q:=Ay w0 Tryz.func169 (by kernel_rfl) (by kernel_rfl) h
def Cy(Ca:CaT)(a0:AV)(S0:St)(Q:QT):Prop:=
 AA (HI .slice .eql (AV.strip a0) (.vs 19 [] .nil)) fun t4=>
 ifK t4
 (Q (.vs 19 [] .nil) S0)
 (AA (appendR AB S0 (.vs 19 [] .full) (AV.strip a0)) fun p7=>
 Q p7.1 p7.2)
theorem ET{w0 a0 S0 Q}(h:Cy (AL (En w0)) a0 S0 Q):AC w0 C4 [a0] S0 Q:=ME w0 Tryz.func17 (by kernel_rfl) (by kernel_rfl) h
def BW(Ca:CaT)(a0 a1:AV)(S0:St)(Q:QT):Prop:=
 AA (Bb (AV.strip a0)) fun t6=>
 Ac Ca By [(AV.strip a0),t6,(AV.strip a1)] S0 fun t8 S=>
 Q (.tup []) S
theorem CE{w0 a0 a1 S0 Q}(h:BW (AL (En w0)) a0 a1 S0 Q):AC w0 A9 [a0,a1] S0 Q:=ME w0 Tryz.func18 (by kernel_rfl) (by kernel_rfl) h
def Bv(Ca:CaT)(a0:AV)(a1 a2:Int)(a3:AV)(S0:St)(Q:QT):Prop:=
 CJ ([(.int .i64 (IntKind.i64.wrap (a1+1)))],[]) (fun v bx=>([v 8],[])) (fun nx v bx S=>
 AA (AG .lss (AV.strip (v 8)) (.int .i64 a2)) fun t14=>
 ifK t14
 (AN (fun (S_7:St)=>
 AA (AG .add (AV.strip (v 8)) (.int .i64 1)) fun t16=>
 nx ([t16],[]) S_7) fun j_2=>
 CJ ([(AV.strip (v 8))],[]) (fun v_2 bx_2=>([v_2 9],[])) (fun nx_2 v_2 bx_2 S_2=>
 AA (AG .gtr (AV.strip (v_2 9)) (.int .i64 a1)) fun t20=>
 AN (fun (x33:AV) (S_4:St)=>
 AA (As (AV.strip t20) x33 (.bool false)) fun t34=>
 ifK (AV.strip t34)
 (AA (AG .sub (AV.strip (v_2 9)) (.int .i64 1)) fun t41=>
 AA (AG .sub (AV.strip (v_2 9)) (.int .i64 1)) fun t44=>
 AA (AZ AB (AV.strip a0) t44) fun t45=>
 AA (AM AB S_4 t45) fun t46=>
 AA (AZ AB (AV.strip a0) (AV.strip (v_2 9))) fun t49=>
 AA (AM AB S_4 t49) fun t50=>
 AA (AZ AB (AV.strip a0) (AV.strip (v_2 9))) fun t51=>
 AA (BC AB S_4 t51 (AV.strip t46)) fun S_5=>
 AA (AZ AB (AV.strip a0) t41) fun t52=>
 AA (BC AB S_5 t52 (AV.strip t50)) fun S_6=>
 AA (AG .sub (AV.strip (v_2 9)) (.int .i64 1)) fun t36=>
 nx_2 ([t36],[]) S_6)
 (j_2 S_4)) fun j=>
 ifK (AV.strip t20)
 (AA (AZ AB (AV.strip a0) (AV.strip (v_2 9))) fun t25=>
 AA (AM AB S_2 t25) fun t26=>
 AA (AG .sub (AV.strip (v_2 9)) (.int .i64 1)) fun t29=>
 AA (AZ AB (AV.strip a0) t29) fun t30=>
 AA (AM AB S_2 t30) fun t31=>
 AA (GZ (AV.strip a3) [(AV.strip t26),(AV.strip t31)]) fun a=>
 Ca a.1 a.2 S_2 fun t32 S_3=>
 AA (AG .lss t32 (.int .i64 0)) fun t33=>
 j t33 S_3)
 (j (.tup []) S_2)) S)
 (Q (.tup []) S)) S0
theorem Cs{w0 a0 a1 a2 a3 S0 Q}(h:Bv (AL (En w0)) a0 a1 a2 a3 S0 Q):AC w0 BA [a0,(.int .i64 a1),(.int .i64 a2),a3] S0 Q:=ME w0 Tryz.func23 (by kernel_rfl) (by kernel_rfl) h
def Df(Ca:CaT)(a0:AV)(a1 a2 a3:Int)(a4:AV)(S0:St)(Q:QT):Prop:=
 AN (fun (x10:AV) (S_4:St)=>
 AA (AG .sub (.int .i64 a2) (AV.strip x10)) fun t53=>
 Ac Ca BP [(AV.strip a0),t53,(.int .i64 a2),(AV.strip x10),(AV.strip a4)] S_4 fun t57 S_5=>
 Q (.tup []) S_5) fun j=>
 CJ ([(.int .i64 (IntKind.i64.wrap (a2 - a1))),(.int .i64 (IntKind.i64.wrap (a3 - a2)))],[]) (fun v bx=>([v 10,v 11],[])) (fun nx v bx S=>
 AA (AG .neq (AV.strip (v 10)) (AV.strip (v 11))) fun t20=>
 ifK t20
 (AA (AG .gtr (AV.strip (v 10)) (AV.strip (v 11))) fun t23=>
 ifK t23
 (AA (AG .sub (.int .i64 a2) (AV.strip (v 10))) fun t27=>
 Ac Ca BP [(AV.strip a0),t27,(.int .i64 a2),(AV.strip (v 11)),(AV.strip a4)] S fun t31 S_2=>
 AA (AG .sub (AV.strip (v 10)) (AV.strip (v 11))) fun t34=>
 nx ([t34,(v 11)],[]) S_2)
 (AA (AG .sub (.int .i64 a2) (AV.strip (v 10))) fun t38=>
 AA (AG .add (.int .i64 a2) (AV.strip (v 11))) fun t41=>
 AA (AG .sub t41 (AV.strip (v 10))) fun t43=>
 Ac Ca BP [(AV.strip a0),t38,t43,(AV.strip (v 10)),(AV.strip a4)] S fun t46 S_3=>
 AA (AG .sub (AV.strip (v 11)) (AV.strip (v 10))) fun t49=>
 nx ([(v 10),t49],[]) S_3))
 (j (v 10) S)) S0
theorem FS{w0 a0 a1 a2 a3 a4 S0 Q}(h:Df (AL (En w0)) a0 a1 a2 a3 a4 S0 Q):AC w0 Cq [a0,(.int .i64 a1),(.int .i64 a2),(.int .i64 a3),a4] S0 Q:=ME w0 Tryz.func25 (by kernel_rfl) (by kernel_rfl) h
def CV(Ca:CaT)(a0:AV)(a1:Int)(a2:AV)(S0:St)(Q:QT):Prop:=
 AN (fun (x7:AV) (S_3:St)=>
 Ac Ca BA [(AV.strip a0),(AV.strip x7),(.int .i64 a1),(AV.strip a2)] S_3 fun t27 S_4=>
 CJ ([(.int .i64 20)],[]) (fun v_2 bx_2=>([v_2 6],[])) (fun nx_2 v_2 bx_2 S_5=>
 AA (AG .lss (AV.strip (v_2 6)) (.int .i64 a1)) fun t30=>
 ifK t30
 (AA (AG .mul (.int .i64 2) (AV.strip (v_2 6))) fun t32=>
 AN (fun (x7_2:AV) (S_8:St)=>
 AN (fun (S_10:St)=>
 AA (AG .mul (AV.strip (v_2 6)) (.int .i64 2)) fun t62=>
 nx_2 ([t62],[]) S_10) fun j=>
 AA (AG .add (AV.strip x7_2) (AV.strip (v_2 6))) fun t51=>
 AA (AG .lss (AV.strip t51) (.int .i64 a1)) fun t54=>
 ifK t54
 (Ac Ca Aw [(AV.strip a0),(AV.strip x7_2),(AV.strip t51),(.int .i64 a1),(AV.strip a2)] S_8 fun t60 S_9=>
 j S_9)
 (j S_8)) fun j_2=>
 CJ ([(.int .i64 0),t32],[]) (fun v_3 bx_3=>([v_3 7,v_3 8],[])) (fun nx_3 v_3 bx_3 S_6=>
 AA (AG .leq (AV.strip (v_3 8)) (.int .i64 a1)) fun t35=>
 ifK t35
 (AA (AG .add (AV.strip (v_3 7)) (AV.strip (v_2 6))) fun t40=>
 Ac Ca Aw [(AV.strip a0),(AV.strip (v_3 7)),t40,(AV.strip (v_3 8)),(AV.strip a2)] S_6 fun t43 S_7=>
 AA (AG .mul (.int .i64 2) (AV.strip (v_2 6))) fun t47=>
 AA (AG .add (AV.strip (v_3 8)) t47) fun t48=>
 nx_3 ([(AV.strip (v_3 8)),t48],[]) S_7)
 (j_2 (v_3 7) S_6)) S_5)
 (Q (.tup []) S_5)) S_4) fun j_3=>
 CJ ([(.int .i64 0),(.int .i64 20)],[]) (fun v bx=>([v 7,v 8],[])) (fun nx v bx S=>
 AA (AG .leq (AV.strip (v 8)) (.int .i64 a1)) fun t13=>
 ifK t13
 (Ac Ca BA [(AV.strip a0),(AV.strip (v 7)),(AV.strip (v 8)),(AV.strip a2)] S fun t18 S_2=>
 AA (AG .add (AV.strip (v 8)) (.int .i64 20)) fun t22=>
 nx ([(AV.strip (v 8)),t22],[]) S_2)
 (j_3 (v 7) S)) S0
theorem DU{w0 a0 a1 a2 S0 Q}(h:CV (AL (En w0)) a0 a1 a2 S0 Q):AC w0 By [a0,(.int .i64 a1),a2] S0 Q:=ME w0 Tryz.func21 (by kernel_rfl) (by kernel_rfl) h
set_option maxHeartbeats 2000000
open Go.Proofs
def DH(Ca:CaT)(a0:AV)(a1 a2 a3:Int)(a4:AV)(S0:St)(Q:QT):Prop:=
 CJ ([(.int .i64 0)],[]) (fun v bx=>([v 10],[])) (fun nx v bx S=>
 AA (AG .lss (AV.strip (v 10)) (.int .i64 a3)) fun t13=>
 ifK t13
 (AA (AG .add (.int .i64 a1) (AV.strip (v 10))) fun t19=>
 AA (AG .add (.int .i64 a2) (AV.strip (v 10))) fun t23=>
 AA (AG .add (.int .i64 a2) (AV.strip (v 10))) fun t27=>
 AA (AZ AB (AV.strip a0) t27) fun t28=>
 AA (AM AB S t28) fun t29=>
 AA (AG .add (.int .i64 a1) (AV.strip (v 10))) fun t33=>
 AA (AZ AB (AV.strip a0) t33) fun t34=>
 AA (AM AB S t34) fun t35=>
 AA (AZ AB (AV.strip a0) t19) fun t36=>
 AA (BC AB S t36 (AV.strip t29)) fun S_2=>
 AA (AZ AB (AV.strip a0) t23) fun t37=>
 AA (BC AB S_2 t37 (AV.strip t35)) fun S_3=>
 AA (AG .add (AV.strip (v 10)) (.int .i64 1)) fun t15=>
 nx ([t15],[]) S_3)
 (Q (.tup []) S)) S0
theorem E3{w0 a0 a1 a2 a3 a4 S0 Q}(h:DH (AL (En w0)) a0 a1 a2 a3 a4 S0 Q):AC w0 BP [a0,(.int .i64 a1),(.int .i64 a2),(.int .i64 a3),a4] S0 Q:=ME w0 Tryz.func26 (by kernel_rfl) (by kernel_rfl) h
def Be(Ca:CaT)(a0:AV)(a1 a2 a3:Int)(a4:AV)(S0:St)(Q:QT):Prop:=
 AN (
 AN (
 AN (fun (x20:AV) (x21:AV)=>
 AN (fun (x20_2:AV) (S_15:St)=>
 AA (AG .sub (.int .i64 (IntKind.i64.wrap ((IntKind.i64.wrap (Int.fdiv (IntKind.u64.wrap (IntKind.i64.wrap (a1+a3))) (2 ^ 1)))+a2))) (AV.strip x20_2)) fun t177=>
 AN (fun (S_17:St)=>
 AN (fun (S_19:St)=>
 AA (AG .lss (.int .i64 (IntKind.i64.wrap (Int.fdiv (IntKind.u64.wrap (IntKind.i64.wrap (a1+a3))) (2 ^ 1)))) (AV.strip t177)) fun t208=>
 AN (fun (x212:AV)=>
 AA (As (AV.strip t208) x212 (.bool false)) fun t213=>
 ifK (AV.strip t213)
 (Ac Ca Aw [(AV.strip a0),(.int .i64 (IntKind.i64.wrap (Int.fdiv (IntKind.u64.wrap (IntKind.i64.wrap (a1+a3))) (2 ^ 1)))),(AV.strip t177),(.int .i64 a3),(AV.strip a4)] S_19 fun t219 S_20=>
 Q (.tup []) S_20)
 (Q (.tup []) S_19)) fun j_5=>
 ifK (AV.strip t208)
 (AA (AG .lss (AV.strip t177) (.int .i64 a3)) fun t212=>
 j_5 t212)
 (j_5 (.tup []))) fun j_6=>
 AA (AG .lss (.int .i64 a1) (AV.strip x20_2)) fun t194=>
 AN (fun (x198:AV)=>
 AA (As (AV.strip t194) x198 (.bool false)) fun t199=>
 ifK (AV.strip t199)
 (Ac Ca Aw [(AV.strip a0),(.int .i64 a1),(AV.strip x20_2),(.int .i64 (IntKind.i64.wrap (Int.fdiv (IntKind.u64.wrap (IntKind.i64.wrap (a1+a3))) (2 ^ 1)))),(AV.strip a4)] S_17 fun t205 S_18=>
 j_6 S_18)
 (j_6 S_17)) fun j_4=>
 ifK (AV.strip t194)
 (AA (AG .lss (AV.strip x20_2) (.int .i64 (IntKind.i64.wrap (Int.fdiv (IntKind.u64.wrap (IntKind.i64.wrap (a1+a3))) (2 ^ 1))))) fun t198=>
 j_4 t198)
 (j_4 (.tup []))) fun j_7=>
 AA (AG .lss (AV.strip x20_2) (.int .i64 a2)) fun t180=>
 AN (fun (x184:AV)=>
 AA (As (AV.strip t180) x184 (.bool false)) fun t185=>
 ifK (AV.strip t185)
 (Ac Ca Cq [(AV.strip a0),(AV.strip x20_2),(.int .i64 a2),(AV.strip t177),(AV.strip a4)] S_15 fun t191 S_16=>
 j_7 S_16)
 (j_7 S_15)) fun j_3=>
 ifK (AV.strip t180)
 (AA (AG .lss (.int .i64 a2) (AV.strip t177)) fun t184=>
 j_3 t184)
 (j_3 (.tup []))) fun j_8=>
 CJ ([x20,x21],[]) (fun v_5 bx_5=>([v_5 20,v_5 21],[])) (fun nx_5 v_5 bx_5 S_13=>
 AA (AG .lss (AV.strip (v_5 20)) (AV.strip (v_5 21))) fun t151=>
 ifK t151
 (AA (AG .add (AV.strip (v_5 20)) (AV.strip (v_5 21))) fun t154=>
 AA (EX .u64 t154) fun t155=>
 AA (AG .shr t155 (.int .u64 1)) fun t156=>
 AA (EX .i64 t156) fun t157=>
 AA (AG .sub (.int .i64 (IntKind.i64.wrap ((IntKind.i64.wrap ((IntKind.i64.wrap (Int.fdiv (IntKind.u64.wrap (IntKind.i64.wrap (a1+a3))) (2 ^ 1)))+a2)) - 1))) (AV.strip t157)) fun t162=>
 AA (AZ AB (AV.strip a0) t162) fun t163=>
 AA (AM AB S_13 t163) fun t164=>
 AA (AZ AB (AV.strip a0) (AV.strip t157)) fun t167=>
 AA (AM AB S_13 t167) fun t168=>
 AA (GZ (AV.strip a4) [(AV.strip t164),(AV.strip t168)]) fun a_3=>
 Ca a_3.1 a_3.2 S_13 fun t169 S_14=>
 AA (AG .lss t169 (.int .i64 0)) fun t170=>
 AA (unA .not t170) fun t171=>
 ifK t171
 (AA (AG .add (AV.strip t157) (.int .i64 1)) fun t173=>
 nx_5 ([t173,(v_5 21)],[]) S_14)
 (nx_5 ([(v_5 20),(AV.strip t157)],[]) S_14))
 (j_8 (v_5 20) S_13)) S0) fun j_9=>
 ifK (.bool (decide (a2 > (IntKind.i64.wrap (Int.fdiv (IntKind.u64.wrap (IntKind.i64.wrap (a1+a3))) (2 ^ 1))))))
 (j_9 (.int .i64 (IntKind.i64.wrap ((IntKind.i64.wrap ((IntKind.i64.wrap (Int.fdiv (IntKind.u64.wrap (IntKind.i64.wrap (a1+a3))) (2 ^ 1)))+a2)) - a3))) (.int .i64 (IntKind.i64.wrap (Int.fdiv (IntKind.u64.wrap (IntKind.i64.wrap (a1+a3))) (2 ^ 1)))))
 (j_9 (.int .i64 a1) (.int .i64 a2))) fun j_10=>
 ifK (.bool ((IntKind.i64.wrap (a3 - a2))==1))
 (AN (fun (x14:AV) (S_9:St)=>
 CJ ([(.int .i64 a2)],[]) (fun v_4 bx_4=>([v_4 17],[])) (fun nx_4 v_4 bx_4 S_10=>
 AA (AG .gtr (AV.strip (v_4 17)) (AV.strip x14)) fun t110=>
 ifK t110
 (AA (AG .sub (AV.strip (v_4 17)) (.int .i64 1)) fun t117=>
 AA (AG .sub (AV.strip (v_4 17)) (.int .i64 1)) fun t120=>
 AA (AZ AB (AV.strip a0) t120) fun t121=>
 AA (AM AB S_10 t121) fun t122=>
 AA (AZ AB (AV.strip a0) (AV.strip (v_4 17))) fun t125=>
 AA (AM AB S_10 t125) fun t126=>
 AA (AZ AB (AV.strip a0) (AV.strip (v_4 17))) fun t127=>
 AA (BC AB S_10 t127 (AV.strip t122)) fun S_11=>
 AA (AZ AB (AV.strip a0) t117) fun t128=>
 AA (BC AB S_11 t128 (AV.strip t126)) fun S_12=>
 AA (AG .sub (AV.strip (v_4 17)) (.int .i64 1)) fun t112=>
 nx_4 ([t112],[]) S_12)
 (Q (.tup []) S_10)) S_9) fun j_2=>
 CJ ([(.int .i64 a1),(.int .i64 a2)],[]) (fun v_3 bx_3=>([v_3 14,v_3 15],[])) (fun nx_3 v_3 bx_3 S_7=>
 AA (AG .lss (AV.strip (v_3 14)) (AV.strip (v_3 15))) fun t85=>
 ifK t85
 (AA (AG .add (AV.strip (v_3 14)) (AV.strip (v_3 15))) fun t88=>
 AA (EX .u64 t88) fun t89=>
 AA (AG .shr t89 (.int .u64 1)) fun t90=>
 AA (EX .i64 t90) fun t91=>
 AA (AZ AB (AV.strip a0) (.int .i64 a2)) fun t95=>
 AA (AM AB S_7 t95) fun t96=>
 AA (AZ AB (AV.strip a0) (AV.strip t91)) fun t99=>
 AA (AM AB S_7 t99) fun t100=>
 AA (GZ (AV.strip a4) [(AV.strip t96),(AV.strip t100)]) fun a_2=>
 Ca a_2.1 a_2.2 S_7 fun t101 S_8=>
 AA (AG .lss t101 (.int .i64 0)) fun t102=>
 AA (unA .not t102) fun t103=>
 ifK t103
 (AA (AG .add (AV.strip t91) (.int .i64 1)) fun t105=>
 nx_3 ([t105,(v_3 15)],[]) S_8)
 (nx_3 ([(v_3 14),(AV.strip t91)],[]) S_8))
 (j_2 (v_3 14) S_7)) S0)
 (j_10)) fun j_11=>
 ifK (.bool ((IntKind.i64.wrap (a2 - a1))==1))
 (AN (fun (x10:AV) (S_3:St)=>
 CJ ([(.int .i64 a1)],[]) (fun v_2 bx_2=>([v_2 13],[])) (fun nx_2 v_2 bx_2 S_4=>
 AA (AG .sub (AV.strip x10) (.int .i64 1)) fun t57=>
 AA (AG .lss (AV.strip (v_2 13)) t57) fun t58=>
 ifK t58
 (AA (AG .add (AV.strip (v_2 13)) (.int .i64 1)) fun t65=>
 AA (AG .add (AV.strip (v_2 13)) (.int .i64 1)) fun t68=>
 AA (AZ AB (AV.strip a0) t68) fun t69=>
 AA (AM AB S_4 t69) fun t70=>
 AA (AZ AB (AV.strip a0) (AV.strip (v_2 13))) fun t73=>
 AA (AM AB S_4 t73) fun t74=>
 AA (AZ AB (AV.strip a0) (AV.strip (v_2 13))) fun t75=>
 AA (BC AB S_4 t75 (AV.strip t70)) fun S_5=>
 AA (AZ AB (AV.strip a0) t65) fun t76=>
 AA (BC AB S_5 t76 (AV.strip t74)) fun S_6=>
 AA (AG .add (AV.strip (v_2 13)) (.int .i64 1)) fun t60=>
 nx_2 ([t60],[]) S_6)
 (Q (.tup []) S_4)) S_3) fun j=>
 CJ ([(.int .i64 a2),(.int .i64 a3)],[]) (fun v bx=>([v 10,v 11],[])) (fun nx v bx S=>
 AA (AG .lss (AV.strip (v 10)) (AV.strip (v 11))) fun t33=>
 ifK t33
 (AA (AG .add (AV.strip (v 10)) (AV.strip (v 11))) fun t36=>
 AA (EX .u64 t36) fun t37=>
 AA (AG .shr t37 (.int .u64 1)) fun t38=>
 AA (EX .i64 t38) fun t39=>
 AA (AZ AB (AV.strip a0) (AV.strip t39)) fun t43=>
 AA (AM AB S t43) fun t44=>
 AA (AZ AB (AV.strip a0) (.int .i64 a1)) fun t47=>
 AA (AM AB S t47) fun t48=>
 AA (GZ (AV.strip a4) [(AV.strip t44),(AV.strip t48)]) fun a=>
 Ca a.1 a.2 S fun t49 S_2=>
 AA (AG .lss t49 (.int .i64 0)) fun t50=>
 ifK t50
 (AA (AG .add (AV.strip t39) (.int .i64 1)) fun t52=>
 nx ([t52,(v 11)],[]) S_2)
 (nx ([(v 10),(AV.strip t39)],[]) S_2))
 (j (v 10) S)) S0)
 (j_11)
theorem CL{w0 a0 a1 a2 a3 a4 S0 Q}(h:Be (AL (En w0)) a0 a1 a2 a3 a4 S0 Q):AC w0 Aw [a0,(.int .i64 a1),(.int .i64 a2),(.int .i64 a3),a4] S0 Q:=ME w0 Tryz.func24 (by kernel_rfl) (by kernel_rfl) h
def Ma(Ca:CaT)(a0:AV)(S0:St)(Q:QT):Prop:=
 Ac Ca C4 [(AV.strip a0)] S0 fun t5 S=>
 Ac Ca A9 [(AV.strip t5),(.fn FZ [] [])] S fun t7 S_2=>
 Q (AV.strip t5) S_2
theorem Ro{w0 a0 S0 Q}(h:Ma (AL (En w0)) a0 S0 Q):AC w0 IN [a0] S0 Q:=ME w0 Tryz.func13 (by kernel_rfl) (by kernel_rfl) h
end Go.Av
