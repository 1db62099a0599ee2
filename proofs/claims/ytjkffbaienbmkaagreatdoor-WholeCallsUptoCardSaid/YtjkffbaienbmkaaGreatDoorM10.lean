/- Parts of the proofs of this seat: abstract values over the model, and what the functions of the program do. No condition. -/
import Derived.Test.YtjkffbaienbmkaaGreatDoorM9
set_option linter.all false
set_option maxHeartbeats 2000000
namespace Go.Av
open Go.Proofs
def Qt(Ca:CaT)(a0a:Int)(a0b:List UInt8)(a0c a0d a0e:Int)(a0f:List UInt8)(S0:St)(Q:QT):Prop:=
 AA (DT BQ (.agg [(.int .i64 a0a),(.str a0b),(.int .i64 a0c),(.int .i64 a0d),(.int .i64 a0e),(.str a0f)])) fun c1=>
 AA (some c1) fun _=>
 AA (AD AN (some c1) 0) fun t4=>
 AA (AJ .eql (AV.strip t4) (.int .i64 4)) fun t5=>
 AL (fun (x14:AV)=>
 AA (AZ (AV.strip t5) x14 (.bool false)) fun t15=>
 AL (fun (x24:AV)=>
 AA (AZ (AV.strip (AV.strip t15)) (.bool true) x24) fun t25=>
 ifK (AV.strip t25)
 (Q (.int .i64 1) S0)
 (Q (.int .i64 0) S0)) fun j_3=>
 ifK (AV.strip (AV.strip t15))
 (j_3 (.tup []))
 (AA (some c1) fun _=>
 AA (AD AN (some c1) 0) fun t18=>
 AA (AJ .eql (AV.strip t18) (.int .i64 6)) fun t19=>
 AL (fun (x23:AV)=>
 AA (AZ (AV.strip t19) x23 (.bool false)) fun t24=>
 j_3 (AV.strip t24)) fun j_2=>
 gK (AV.strip t19)
 (AA (some c1) fun _=>
 AA (AD AN (some c1) 3) fun t22=>
 AA (AJ .lss (AV.strip t22) (.int .i64 1)) fun t23=>
 j_2 t23)
 (j_2 (.tup []))
 (j_2 (.tup [])))) fun j_4=>
 ifK (AV.strip t5)
 (AA (some c1) fun _=>
 AA (AD AN (some c1) 2) fun t8=>
 AA (AJ .lss (AV.strip t8) (.int .i64 0)) fun t9=>
 AL (fun (x13:AV)=>
 AA (AZ (AV.strip t9) (.bool true) x13) fun t14=>
 j_4 (AV.strip t14)) fun j=>
 gK (AV.strip t9)
 (j (.tup []))
 (AA (some c1) fun _=>
 AA (AD AN (some c1) 3) fun t12=>
 AA (AJ .lss (AV.strip t12) (.int .i64 0)) fun t13=>
 j t13)
 (j (.tup [])))
 (j_4 (.tup []))
theorem X6{w0 a0a a0b a0c a0d a0e a0f S0 Q}(h:Qt (AP (En w0)) a0a a0b a0c a0d a0e a0f S0 Q):AC w0 JE [(.agg [(.int .i64 a0a),(.str a0b),(.int .i64 a0c),(.int .i64 a0d),(.int .i64 a0e),(.str a0f)])] S0 Q:=Ac w0 Tryz.func91 (by kernel_rfl) (by kernel_rfl) h
def LV(Ca:CaT)(a0 a0o:Nat)(a1a:Int)(a1b:List UInt8)(a1c a1d a1e:Int)(a1f:List UInt8)(a2:List (List AV))(a2r:Rt)(S0:St)(Q:QT):Prop:=
 AA (DT BQ (.agg [(.int .i64 a1a),(.str a1b),(.int .i64 a1c),(.int .i64 a1d),(.int .i64 a1e),(.str a1f)])) fun c4=>
 AA (some c4) fun _=>
 AA (AD AN (some c4) 4) fun t14=>
 AU Ca DV [(.ptr a0 a0o),(AV.strip t14)] S0 fun t15 S=>
 AA (AM t15 0) fun t16=>
 AA (AM (AS t15 0) 1) fun t17=>
 AA (AI A3 (some [(.int .i64 0),(.str []),(.int .i64 0)]) 0 t16) fun b7=>
 AA (AJ .neq (AV.strip t17) (.int .i64 0)) fun t19=>
 ifK t19
 (AA (BV AB 1 [(0,(AV.strip t17))]) fun t21=>
 AA (AI AB (some AB.zero) 0 t21) fun b6=>
 AA ((AD AB (some b6) 0).map AV.strip) fun r6=>
 Q r6 S)
 (AA (some b7) fun _=>
 AA (AD AN (some b7) 2) fun t25=>
 AA (some c4) fun _=>
 AA (AD AN (some c4) 3) fun t27=>
 AU Ca No [(.vs 2 a2 (Rt.strip a2r)),(AV.strip t25),(AV.strip t27)] S fun t28 S_2=>
 AA (AM t28 0) fun t29=>
 AA (AM (AS t28 0) 1) fun t30=>
 AA (AO Bl S_2 (.ptr a0 (a0o+3))) fun t34=>
 AA (some c4) fun _=>
 AA (AD AN (some c4) 4) fun t36=>
 AA (A9 (AV.strip t29)) fun t38=>
 AU Ca Gm [(AV.strip t34),(AV.strip t36),t38] S_2 fun t39 S_3=>
 AU Ca L8 [(AV.strip t29)] S_3 fun t41 S_4=>
 AA (BV AB 1 [(6,t41),(7,(AV.strip t30))]) fun t43=>
 AA (AI AB (some AB.zero) 0 t43) fun b6_2=>
 AA ((AD AB (some b6_2) 0).map AV.strip) fun r6_2=>
 Q r6_2 S_4)
theorem Rg{w0 a0 a0o a1a a1b a1c a1d a1e a1f a2 a2r S0 Q}(h:LV (AP (En w0)) a0 a0o a1a a1b a1c a1d a1e a1f a2 a2r S0 Q):AC w0 E6 [(.ptr a0 a0o),(.agg [(.int .i64 a1a),(.str a1b),(.int .i64 a1c),(.int .i64 a1d),(.int .i64 a1e),(.str a1f)]),(.vs 2 a2 a2r)] S0 Q:=Ac w0 Tryz.func92 (by kernel_rfl) (by kernel_rfl) h
def JR(Ca:CaT)(a0 a0o:Nat)(a1:Int)(S0:St)(Q:QT):Prop:=
 Ca Eu [(.ptr a0 a0o),(.int .i64 a1)] S0 fun t10 S=>
 AA (AM t10 0) fun t11=>
 AA (AM (AS t10 0) 1) fun t12=>
 AA (AI A3 (some [(.int .i64 0),(.str []),(.int .i64 0)]) 0 t11) fun b5=>
 AA (AJ .neq (AV.strip t12) (.int .i64 0)) fun t14=>
 ifK t14
 (Q (AV.strip t12) S)
 (AA (AO BT S (.ptr a0 (a0o+2))) fun t19=>
 AA (P1 .int S (AV.strip t19) (.int .i64 a1)) fun S_2=>
 Q (.int .i64 0) S_2)
theorem OW{w0 a0 a0o a1 S0 Q}(h:JR (AP (En w0)) a0 a0o a1 S0 Q):AC w0 GQ [(.ptr a0 a0o),(.int .i64 a1)] S0 Q:=Ac w0 Tryz.func93 (by kernel_rfl) (by kernel_rfl) h
def Q6(Ca:CaT)(a0:List UInt8)(S0:St)(Q:QT):Prop:=
 Ca K5 [(.str a0)] S0 fun t8 S=>
 AA (AM t8 0) fun t9=>
 AA (AM (AS t8 0) 1) fun t10=>
 AA (AI AF (some AF.zero) 0 t9) fun b4=>
 AA (AJ .neq (AV.strip t10) (.int .i64 0)) fun t12=>
 ifK t12
 (Q (.tup [.nil,(AV.flat (AV.strip t10))]) S)
 (AA (AD AF (some b4) 0) fun t14=>
 AU Ca KM [(AV.strip t14)] S fun t15 S_2=>
 AA (AM t15 0) fun t16=>
 AA (AM (AS t15 0) 1) fun t17=>
 Q (.tup [(AV.flat t16),(AV.flat t17)]) S_2)
theorem X5{w0 a0 S0 Q}(h:Q6 (AP (En w0)) a0 S0 Q):AC w0 MD [(.str a0)] S0 Q:=Ac w0 Tryz.func94 (by kernel_rfl) (by kernel_rfl) h
def M3(Ca:CaT)(a0 a0o:Nat)(a1:AV)(S0:St)(Q:QT):Prop:=
 AA (AO AK S0 (.ptr a0 (a0o+0))) fun t12=>
 AU Ca F9 [(AV.strip t12),(AV.strip a1)] S0 fun t14 S=>
 AA (AM t14 0) fun t15=>
 AA (AM (AS t14 0) 1) fun t16=>
 AA (AM (AS (AS t14 0) 1) 2) fun t17=>
 AA (AI AK (some [(.vs 2 [] .nil),(.int .i64 0)]) 0 t15) fun b5=>
 AA (AD AK (some b5) 0) fun t19=>
 AU Ca EU [(.ptr a0 a0o),(AV.strip t19),(AV.strip t16),(AV.strip t17)] S fun t22 S_2=>
 AA (AI AB (some AB.zero) 0 t22) fun b4=>
 AA ((AD AB (some b4) 0).map AV.strip) fun r4=>
 Q r4 S_2
theorem TR{w0 a0 a0o a1 S0 Q}(h:M3 (AP (En w0)) a0 a0o a1 S0 Q):AC w0 Gl [(.ptr a0 a0o),a1] S0 Q:=Ac w0 Tryz.func95 (by kernel_rfl) (by kernel_rfl) h
def XH(Ca:CaT)(a0a:List (List AV))(a0ar:Rt)(a0b a1a:Int)(a1b:List UInt8)(a1c a1d a1e:Int)(a1f:List UInt8)(S0:St)(Q:QT):Prop:=
 AA (DT AK (.agg [(.vs 2 a0a a0ar),(.int .i64 a0b)])) fun c2=>
 AA (DT BQ (.agg [(.int .i64 a1a),(.str a1b),(.int .i64 a1c),(.int .i64 a1d),(.int .i64 a1e),(.str a1f)])) fun c3=>
 AA (some c3) fun _=>
 AA (AD AN (some c3) 0) fun t9=>
 AU Ca Rc [(AV.strip t9)] S0 fun t10 S=>
 AA (unA .not t10) fun t11=>
 ifK t11
 (Ca E9 [(.int .i64 1)] S fun t12 S_2=>
 AA (AI AB (some AB.zero) 0 t12) fun b4=>
 AA ((AD AB (some b4) 0).map AV.strip) fun r4=>
 Q r4 S_2)
 (AA (AD BQ (some c3) 0) fun t13=>
 AU Ca JE [(AV.strip t13)] S fun t14 S_3=>
 AA (AJ .neq (AV.strip t14) (.int .i64 0)) fun t16=>
 ifK t16
 (AU Ca E9 [(AV.strip t14)] S_3 fun t18 S_4=>
 AA (AI AB (some AB.zero) 0 t18) fun b4_2=>
 AA ((AD AB (some b4_2) 0).map AV.strip) fun r4_2=>
 Q r4_2 S_4)
 (AA (AD AK (some c2) 0) fun t20=>
 AA (some c3) fun _=>
 AA (AD AG (some c3) 1) fun t22=>
 AA (some c3) fun _=>
 AA (AD AN (some c3) 0) fun t24=>
 AU Ca Jg [(AV.strip t24)] S_3 fun t25 S_5=>
 AU Ca Lw [(AV.strip t20),(AV.strip t22),t25] S_5 fun t26 S_6=>
 AA (AM t26 0) fun t27=>
 AA (AM (AS t26 0) 1) fun t28=>
 AA (AI Aj (some Aj.zero) 0 t27) fun b6=>
 AA (AJ .neq (AV.strip t28) (.int .i64 0)) fun t30=>
 ifK t30
 (AU Ca E9 [(AV.strip t28)] S_6 fun t32 S_7=>
 AA (AI AB (some AB.zero) 0 t32) fun b4_3=>
 AA ((AD AB (some b4_3) 0).map AV.strip) fun r4_3=>
 Q r4_3 S_7)
 (AA (AD AK (some c2) 0) fun t33=>
 AA (AD BQ (some c3) 0) fun t34=>
 AA (AD Aj (some b6) 0) fun t35=>
 AU Ca Ks [(AV.strip t33),(AV.strip t34),(AV.strip t35)] S_6 fun t36 S_8=>
 AA (AI AB (some AB.zero) 0 t36) fun b4_4=>
 AA ((AD AB (some b4_4) 0).map AV.strip) fun r4_4=>
 Q r4_4 S_8)))
theorem dq{w0 a0a a0ar a0b a1a a1b a1c a1d a1e a1f S0 Q}(h:XH (AP (En w0)) a0a a0ar a0b a1a a1b a1c a1d a1e a1f S0 Q):AC w0 RD [(.agg [(.vs 2 a0a a0ar),(.int .i64 a0b)]),(.agg [(.int .i64 a1a),(.str a1b),(.int .i64 a1c),(.int .i64 a1d),(.int .i64 a1e),(.str a1f)])] S0 Q:=Ac w0 Tryz.func96 (by kernel_rfl) (by kernel_rfl) h
def JK(Ca:CaT)(a0a:List (List AV))(a0ar:Rt)(a0b a1:Int)(S0:St)(Q:QT):Prop:=
 AA (DT AK (.agg [(.vs 2 a0a a0ar),(.int .i64 a0b)])) fun c2=>
 AA (some c2) fun _=>
 AA (AD CA (some c2) 0) fun t8=>
 AA (jP Ed [] [(.ptr S0.length 0)]) fun t9=>
 AU Ca Ce [(AV.strip t8),t9] (S0++[Obj.cells [(.int .i64 a1)] EV]) fun t10 S=>
 AA (AJ .lss (AV.strip t10) (.int .i64 0)) fun t12=>
 ifK t12
 (AA (AD AK (some c2) 0) fun t13=>
 AA (AI AK (some [(.vs 2 [] .nil),(.int .i64 0)]) 0 (AV.strip t13)) fun b4=>
 AA ((AD AK (some b4) 0).map AV.strip) fun r4=>
 Q (.tup [(AV.flat r4),(.int .i64 2)]) S)
 (AA (some c2) fun _=>
 AA (AD CA (some c2) 0) fun t15=>
 AA (AJ .add (AV.strip t10) (.int .i64 1)) fun t19=>
 AA (some c2) fun _=>
 AA (AD AN (some c2) 1) fun t22=>
 AU Ca D1 [(AV.strip t15)] S fun t16 S_2=>
 AU Ca Ds [t16,(AV.strip t10),t19] S_2 fun t20 S_3=>
 AA (BV AK 1 [(0,t20),(1,(AV.strip t22))]) fun t23=>
 AA (AI AK (some [(.vs 2 [] .nil),(.int .i64 0)]) 0 t23) fun b4_2=>
 AA ((AD AK (some b4_2) 0).map AV.strip) fun r4_2=>
 Q (.tup [(AV.flat r4_2),(.int .i64 0)]) S_3)
theorem OL{w0 a0a a0ar a0b a1 S0 Q}(h:JK (AP (En w0)) a0a a0ar a0b a1 S0 Q):AC w0 GL [(.agg [(.vs 2 a0a a0ar),(.int .i64 a0b)]),(.int .i64 a1)] S0 Q:=Ac w0 Tryz.func97 (by kernel_rfl) (by kernel_rfl) h
def Js(Ca:CaT)(a0 a0o:Nat)(a1a:List (List AV))(a1ar:Rt)(a1b a2 a3:Int)(S0:St)(Q:QT):Prop:=
 AA (DT AK (.agg [(.vs 2 a1a a1ar),(.int .i64 a1b)])) fun c5=>
 ifK (.bool (a3 != 0))
 (Q (.agg [(.int .i64 a3),(.int .i64 0),(.int .i64 0),(.int .i64 0),(.int .i64 0),(.str []),(.vs 1 [] .nil),(.bool false)]) S0)
 (AA (AD AK (some c5) 0) fun t15=>
 AA (AO AN S0 (.ptr a0 (a0o+2))) fun t19=>
 AA (AJ .add (AV.strip t19) (.int .i64 1)) fun t20=>
 AA (Bx AK S0 (.ptr a0 (a0o+0)) (AV.strip t15)) fun S=>
 AA (Bx AN S (.ptr a0 (a0o+2)) t20) fun S_2=>
 Q (.agg [(.int .i64 0),(.int .i64 0),(.int .i64 0),(.int .i64 0),(.int .i64 a2),(.str []),(.vs 1 [] .nil),(.bool false)]) S_2)
theorem O3{w0 a0 a0o a1a a1ar a1b a2 a3 S0 Q}(h:Js (AP (En w0)) a0 a0o a1a a1ar a1b a2 a3 S0 Q):AC w0 EU [(.ptr a0 a0o),(.agg [(.vs 2 a1a a1ar),(.int .i64 a1b)]),(.int .i64 a2),(.int .i64 a3)] S0 Q:=Ac w0 Tryz.func98 (by kernel_rfl) (by kernel_rfl) h
def Jq(Ca:CaT)(a0 a0o:Nat)(a1:Int)(a2:List UInt8)(S0:St)(Q:QT):Prop:=
 AA (AO BT S0 (.ptr a0 (a0o+2))) fun t11=>
 AA (L0 S0 (AV.strip t11)) fun t12=>
 AA (AO AN S0 (.ptr a0 (a0o+0))) fun t16=>
 AA (AJ .geq t12 (AV.strip t16)) fun t17=>
 ifK t17
 (Q (.tup [(.int .i64 0),(.int .i64 7)]) S0)
 (AA (AO AN S0 (.ptr a0 (a0o+1))) fun t21=>
 AA (AJ .add (AV.strip t21) (.int .i64 1)) fun t22=>
 AA (Bx AN S0 (.ptr a0 (a0o+1)) t22) fun S=>
 AA (AO BT S (.ptr a0 (a0o+2))) fun t28=>
 AA (AO AN S (.ptr a0 (a0o+1))) fun t32=>
 AA (Fm .int S (AV.strip t28) (AV.strip t32) (.agg [(.int .i64 a1),(.str a2),(.int .i64 0)])) fun S_2=>
 AA (AO AN S_2 (.ptr a0 (a0o+1))) fun t39=>
 Q (.tup [(AV.flat (AV.strip t39)),(.int .i64 0)]) S_2)
theorem PC{w0 a0 a0o a1 a2 S0 Q}(h:Jq (AP (En w0)) a0 a0o a1 a2 S0 Q):AC w0 Gp [(.ptr a0 a0o),(.int .i64 a1),(.str a2)] S0 Q:=Ac w0 Tryz.func99 (by kernel_rfl) (by kernel_rfl) h
def LD(Ca:CaT)(a0 a0o:Nat)(a1:Int)(S0:St)(Q:QT):Prop:=
 AA (AO BT S0 (.ptr a0 (a0o+2))) fun t12=>
 AA (Lx .int A3 S0 (AV.strip t12) (.int .i64 a1)) fun p14=>
 AA (AM (AS (.tup [p14.1,.bool p14.2]) 0) 1) fun t16=>
 AA (AI A3 (some [(.int .i64 0),(.str []),(.int .i64 0)]) 0 p14.1) fun b6=>
 AA (unA .not (AV.strip t16)) fun t18=>
 ifK t18
 (Q (.tup [(.agg [(.int .i64 0),(.str []),(.int .i64 0)]),(.int .i64 9)]) S0)
 (AA (AD A3 (some b6) 0) fun t20=>
 AA (AI A3 (some [(.int .i64 0),(.str []),(.int .i64 0)]) 0 (AV.strip t20)) fun b4=>
 AA ((AD A3 (some b4) 0).map AV.strip) fun r4=>
 Q (.tup [(AV.flat r4),(.int .i64 0)]) S0)
theorem QE{w0 a0 a0o a1 S0 Q}(h:LD (AP (En w0)) a0 a0o a1 S0 Q):AC w0 Eu [(.ptr a0 a0o),(.int .i64 a1)] S0 Q:=Ac w0 Tryz.func100 (by kernel_rfl) (by kernel_rfl) h
def G_strings_Builder_WriteByte(Ca:CaT)(a0 a0o:Nat)(a1:Int)(S0:St)(Q:QT):Prop:=
 Ca GD [(.ptr a0 a0o)] S0 fun t6 S=>
 AA (AO Gi S (.ptr a0 (a0o+1))) fun t11=>
 AA (AT HG (stripMem S (.ptr a0 (a0o+1))) (AV.strip0 t11) (.vs 1 [[(.int .u8 a1)]] .full)) fun t14=>
 AA (Bx Gi (stripMem S (.ptr a0 (a0o+1))) (.ptr a0 (a0o+1)) t14) fun S_2=>
 Q .nilifc S_2
theorem strings_Builder_WriteByte_ok{w0 a0 a0o a1 S0 Q}(h:G_strings_Builder_WriteByte (AP (En w0)) a0 a0o a1 S0 Q):AC w0 F_strings_Builder_WriteByte [(.ptr a0 a0o),(.int .u8 a1)] S0 Q:=Ac w0 Tryz.func107 (by kernel_rfl) (by kernel_rfl) h
def G_call_names(Ca:CaT)(S0:St)(Q:QT):Prop:=
 AA (BV JM 1 [(0,(.str [])),(1,(.str [108,111,111,107,117,112])),(2,(.str [115,116,97,116])),(3,(.str [114,101,97,100,108,105,110,107])),(4,(.str [114,101,97,100])),(5,(.str [111,112,101,110])),(6,(.str [112,97,103,101])),(7,(.str [99,108,111,115,101])),(8,(.str [97,100,100])),(9,(.str [114,101,109,111,118,101]))]) fun t1=>
 AA (AI JM (some JM.zero) 0 t1) fun b0=>
 AA ((AD JM (some b0) 0).map AV.strip) fun r0=>
 Q r0 S0
theorem call_names_ok{w0  S0 Q}(h:G_call_names (AP (En w0))  S0 Q):AC w0 F_call_names [] S0 Q:=Ac w0 Tryz.func111 (by kernel_rfl) (by kernel_rfl) h
def G_call_numbers(Ca:CaT)(a0:List UInt8)(a1:Int)(a2:Bool)(S0:St)(Q:QT):Prop:=
 AL (fun (x9:AV)=>
 AU Ca F_strings_SplitN [(.str a0),(.str [32]),(AV.strip x9)] S0 fun t22 S=>
 AA (A9 (AV.strip t22)) fun t24=>
 AA (AJ .neq t24 (AV.strip x9)) fun t26=>
 ifK t26
 (Q (.tup [(.vs 1 [] .nil),(.str []),(.bool false)]) S)
 (AL (fun (x10:AV) (x11:AV) (S_4:St)=>
 ifK (.bool a2)
 (AA (Aa AG (AV.strip x10) (.int .i64 a1)) fun t51=>
 AA (AO AG S_4 t51) fun t52=>
 Q (.tup [(AV.flat (AV.strip x11)),(AV.flat (AV.strip t52)),(.bool true)]) S_4)
 (Q (.tup [(AV.flat (AV.strip x11)),(.str []),(.bool true)]) S_4)) fun j=>
 AA (Dk AG t22 none (some (.int .i64 a1)) none) fun t29=>
 AA (A9 t29) fun t30=>
 Bo ([(.vs 1 [] .nil),(.int .i64 0)],[]) (fun v bx=>([v 11,v 31],[])) (fun nx v bx S_2=>
 AA (AJ .lss (v 31) t30) fun t32=>
 ifK t32
 (AA (Aa AG t29 (v 31)) fun t33=>
 AA (AO AG S_2 t33) fun t34=>
 AU Ca F_call_Number [(AV.strip (AV.strip t34))] S_2 fun t37 S_3=>
 AA (AM t37 0) fun t38=>
 AA (AM (AS t37 0) 1) fun t39=>
 AA (unA .not (AV.strip t39)) fun t41=>
 ifK t41
 (Q (.tup [(.vs 1 [] .nil),(.str []),(.bool false)]) S_3)
 (AA (BY 1 [(AV.strip t38)]) fun e44=>
 AA (AT AN S_3 (v 11) (.vs 1 e44 .full)) fun t45=>
 AA (AJ .add (v 31) (.int .i64 1)) fun t46=>
 nx ([t45,(AV.strip t46)],[]) S_3))
 (j (AV.strip t22) (v 11) S_2)) S)) fun j_2=>
 ifK (.bool a2)
 (j_2 (.int .i64 (IntKind.i64.wrap (a1+1))))
 (j_2 (.int .i64 a1))
theorem call_numbers_ok{w0 a0 a1 a2 S0 Q}(h:G_call_numbers (AP (En w0)) a0 a1 a2 S0 Q):AC w0 F_call_numbers [(.str a0),(.int .i64 a1),(.bool a2)] S0 Q:=Ac w0 Tryz.func112 (by kernel_rfl) (by kernel_rfl) h
def G_call_Number(Ca:CaT)(a0:List UInt8)(S0:St)(Q:QT):Prop:=
 Ca F_strconv_Atoi [(.str a0)] S0 fun t8 S=>
 AA (AM t8 0) fun t9=>
 AA (AM (AS t8 0) 1) fun t10=>
 AA (Gw .ifc .eql (AV.strip t10) .nilifc) fun t13=>
 AL (fun (x18:AV) (S_3:St)=>
 AA (AZ (AV.strip t13) x18 (.bool false)) fun t19=>
 Q (.tup [(AV.flat (AV.strip t9)),(AV.flat (AV.strip t19))]) S_3) fun j=>
 ifK (AV.strip t13)
 (AU Ca F_strconv_Itoa [(AV.strip t9)] S fun t16 S_2=>
 AA (AJ .eql t16 (.str a0)) fun t18=>
 j t18 S_2)
 (j (.tup []) S)
theorem call_Number_ok{w0 a0 S0 Q}(h:G_call_Number (AP (En w0)) a0 S0 Q):AC w0 F_call_Number [(.str a0)] S0 Q:=Ac w0 Tryz.func113 (by kernel_rfl) (by kernel_rfl) h
def G_call_Bytes(Ca:CaT)(a0:List UInt8)(S0:St)(Q:QT):Prop:=
 ifK (.bool (a0==[45]))
 (Q (.tup [(.str []),(.bool true)]) S0)
 (AA (D3 HG false S0 (.int .i64 0) (.int .i64 (IntKind.i64.wrap (Int.tdiv (List.length a0:Int) 2)))) fun p13=>
 AL (fun (x4:AV) (S_4:St)=>
 AA (KX S_4 (AV.strip x4)) fun t45=>
 AL (fun (x52:AV)=>
 AA (AZ (.bool (!(a0==[]))) x52 (.bool false)) fun t53=>
 Q (.tup [(AV.flat t45),(AV.flat (AV.strip t53))]) S_4) fun j_2=>
 ifK (.bool (!(a0==[])))
 (j_2 (.bool ((Int.tmod (List.length a0:Int) 2)==0)))
 (j_2 (.tup []))) fun j_3=>
 Bo ([p13.1,(.int .i64 0)],[]) (fun v bx=>([v 4,v 5],[])) (fun nx v bx S=>
 AA (AJ .add (AV.strip (v 5)) (.int .i64 1)) fun t15=>
 AA (AJ .lss t15 (.int .i64 (List.length a0:Int))) fun t18=>
 ifK t18
 (AA (Fd (.str a0) (AV.strip (v 5))) fun t23=>
 AA (AJ .add (AV.strip (v 5)) (.int .i64 1)) fun t27=>
 AA (Fd (.str a0) t27) fun t28=>
 AU Ca F_strings_IndexByte [(.str [48,49,50,51,52,53,54,55,56,57,97,98,99,100,101,102]),t23] S fun t24 S_2=>
 AU Ca F_strings_IndexByte [(.str [48,49,50,51,52,53,54,55,56,57,97,98,99,100,101,102]),t28] S_2 fun t29 S_3=>
 AA (AJ .lss (AV.strip t24) (.int .i64 0)) fun t31=>
 AL (fun (x34:AV)=>
 AA (AZ (AV.strip t31) (.bool true) x34) fun t35=>
 ifK (AV.strip t35)
 (Q (.tup [(.str []),(.bool false)]) S_3)
 (AA (AJ .shl (AV.strip t24) (.int .u64 4)) fun t38=>
 AA (AJ .or t38 (AV.strip t29)) fun t40=>
 AA (Gz .u8 t40) fun t41=>
 AA (BY 1 [t41]) fun e42=>
 AA (AT HG S_3 (v 4) (.vs 1 e42 .full)) fun t43=>
 AA (AJ .add (AV.strip (v 5)) (.int .i64 2)) fun t20=>
 nx ([t43,t20],[]) S_3)) fun j=>
 ifK (AV.strip t31)
 (j (.tup []))
 (AA (AJ .lss (AV.strip t29) (.int .i64 0)) fun t34=>
 j t34))
 (j_3 (v 4) S)) p13.2)
theorem call_Bytes_ok{w0 a0 S0 Q}(h:G_call_Bytes (AP (En w0)) a0 S0 Q):AC w0 F_call_Bytes [(.str a0)] S0 Q:=Ac w0 Tryz.func114 (by kernel_rfl) (by kernel_rfl) h
def G_ref19_Num(Ca:CaT)(a0:Int)(S0:St)(Q:QT):Prop:=
 ifK (.bool (decide (a0 < 0)))
 (AA (KX S0 (.vs 1 [[(.int .u8 (IntKind.u8.wrap (IntKind.i64.wrap (48 - (Int.tmod a0 10)))))]] .full)) fun t12=>
 ifK (.bool (decide (a0 > (-10))))
 (AA (AJ .add (.str [45]) (AV.strip t12)) fun t16=>
 Q t16 S0)
 (Ca F_ref19_Num [(.int .i64 (IntKind.i64.wrap (Int.tdiv a0 10)))] S0 fun t19 S=>
 AA (AJ .add t19 (AV.strip t12)) fun t21=>
 Q t21 S))
 (AA (KX S0 (.vs 1 [[(.int .u8 (IntKind.u8.wrap (IntKind.i64.wrap (48+(Int.tmod a0 10)))))]] .full)) fun t27=>
 ifK (.bool (decide (a0 < 10)))
 (Q (AV.strip t27) S0)
 (Ca F_ref19_Num [(.int .i64 (IntKind.i64.wrap (Int.tdiv a0 10)))] S0 fun t33 S_2=>
 AA (AJ .add t33 (AV.strip t27)) fun t35=>
 Q t35 S_2))
theorem ref19_Num_ok{w0 a0 S0 Q}(h:G_ref19_Num (AP (En w0)) a0 S0 Q):AC w0 F_ref19_Num [(.int .i64 a0)] S0 Q:=Ac w0 Tryz.func116 (by kernel_rfl) (by kernel_rfl) h
def G_ref19_Hex(Ca:CaT)(a0:List UInt8)(S0:St)(Q:QT):Prop:=
 ifK (.bool (a0==[]))
 (Q (.str [45]) S0)
 (AL (fun (x3:AV) (S_4:St)=>
 AA (KX S_4 (AV.strip x3)) fun t30=>
 Q t30 S_4) fun j=>
 Bo ([(.vs 1 [] .full),(.int .i64 0)],[]) (fun v bx=>([v 3,v 4],[])) (fun nx v bx S=>
 AA (AJ .lss (AV.strip (v 4)) (.int .i64 (List.length a0:Int))) fun t11=>
 ifK t11
 (AA (Fd (.str a0) (AV.strip (v 4))) fun t17=>
 AA (Gz .i64 t17) fun t18=>
 AA (AJ .quo t18 (.int .i64 16)) fun t19=>
 AA (Fd (.str a0) (AV.strip (v 4))) fun t23=>
 AA (Gz .i64 t23) fun t24=>
 AA (AJ .rem t24 (.int .i64 16)) fun t25=>
 AU Ca F_ref19_digit [t19] S fun t20 S_2=>
 AU Ca F_ref19_digit [t25] S_2 fun t26 S_3=>
 AA (BY 1 [t20,t26]) fun e27=>
 AA (AT HG S_3 (v 3) (.vs 1 e27 .full)) fun t28=>
 AA (AJ .add (AV.strip (v 4)) (.int .i64 1)) fun t13=>
 nx ([t28,t13],[]) S_3)
 (j (v 3) S)) S0)
theorem ref19_Hex_ok{w0 a0 S0 Q}(h:G_ref19_Hex (AP (En w0)) a0 S0 Q):AC w0 F_ref19_Hex [(.str a0)] S0 Q:=Ac w0 Tryz.func117 (by kernel_rfl) (by kernel_rfl) h
def T9(Ca:CaT)(a0a:Int)(a0b:Bool)(a0c:List (List AV))(a0cr:Rt)(a0d:List (List AV))(a0dr:Rt)(a0e:Int)(a0f:List (List AV))(a0fr:Rt)(a0g:List UInt8)(S0:St)(Q:QT):Prop:=
 AA (DT AF (.agg [(.int .i64 a0a),(.bool a0b),(.vs 1 a0c a0cr),(.vs 7 a0d a0dr),(.int .i64 a0e),(.vs 2 a0f a0fr),(.str a0g)])) fun c1=>
 AA (AD AF (some c1) 0) fun t5=>
 AU Ca J8 [(AV.strip t5)] S0 fun t6 S=>
 AA (unA .not t6) fun t7=>
 ifK t7
 (Q (.tup [.nil,(.int .i64 1)]) S)
 (AA (DT EP (.agg [(.vs 8 [] .nil)])) fun c9=>
 AA (AD AF (some c1) 0) fun t11=>
 AU Ca FH [(.ptr S.length 0),(AV.strip t11)] (S++[Obj.cells c9 DA]) fun t12 S_2=>
 Q (.tup [(.ptr S.length 0),(.int .i64 0)]) S_2)
theorem Za{w0 a0a a0b a0c a0cr a0d a0dr a0e a0f a0fr a0g S0 Q}(h:T9 (AP (En w0)) a0a a0b a0c a0cr a0d a0dr a0e a0f a0fr a0g S0 Q):AC w0 KM [(.agg [(.int .i64 a0a),(.bool a0b),(.vs 1 a0c a0cr),(.vs 7 a0d a0dr),(.int .i64 a0e),(.vs 2 a0f a0fr),(.str a0g)])] S0 Q:=Ac w0 Tryz.func118 (by kernel_rfl) (by kernel_rfl) h
def LY(Ca:CaT)(a0a:List (List AV))(a0ar:Rt)(a0b:Int)(a1:AV)(S0:St)(Q:QT):Prop:=
 AA (DT AK (.agg [(.vs 2 a0a a0ar),(.int .i64 a0b)])) fun c2=>
 AA (some c2) fun _=>
 AA (AD CA (some c2) 0) fun t8=>
 AA (A9 (AV.strip t8)) fun t9=>
 AA (AJ .geq t9 (.int .i64 64)) fun t10=>
 ifK t10
 (AA (AD AK (some c2) 0) fun t11=>
 AA (AI AK (some [(.vs 2 [] .nil),(.int .i64 0)]) 0 (AV.strip t11)) fun b4=>
 AA ((AD AK (some b4) 0).map AV.strip) fun r4=>
 Q (.tup [(AV.flat r4),(.int .i64 0),(.int .i64 6)]) S0)
 (AA (some c2) fun _=>
 AA (AD AN (some c2) 1) fun t13=>
 AA (BV C0 1 [(0,(AV.strip t13)),(1,(AV.strip a1))]) fun t15=>
 AA (BY 2 [t15]) fun e16=>
 AA (some c2) fun _=>
 AA (AD CA (some c2) 0) fun t18=>
 AA (some c2) fun _=>
 AA (AD AN (some c2) 1) fun t21=>
 AA (AJ .add (AV.strip t21) (.int .i64 1)) fun t22=>
 AA (some c2) fun _=>
 AA (AD AN (some c2) 1) fun t25=>
 AA (AT C0 S0 (.vs 2 e16 .full) (AV.strip t18)) fun t19=>
 AA (BV AK 1 [(0,t19),(1,t22)]) fun t23=>
 AA (AI AK (some [(.vs 2 [] .nil),(.int .i64 0)]) 0 t23) fun b4_2=>
 AA ((AD AK (some b4_2) 0).map AV.strip) fun r4_2=>
 Q (.tup [(AV.flat r4_2),(AV.flat (AV.strip t25)),(.int .i64 0)]) S0)
theorem RJ{w0 a0a a0ar a0b a1 S0 Q}(h:LY (AP (En w0)) a0a a0ar a0b a1 S0 Q):AC w0 F9 [(.agg [(.vs 2 a0a a0ar),(.int .i64 a0b)]),a1] S0 Q:=Ac w0 Tryz.func119 (by kernel_rfl) (by kernel_rfl) h
def FM(Ca:CaT)(a0:List (List AV))(a0r:Rt)(S0:St)(Q:QT):Prop:=
 AA (Gw .slice .eql (.vs 1 a0 (Rt.strip a0r)) (.vs 1 [] .nil)) fun t4=>
 ifK t4
 (Q (.vs 1 [] .nil) S0)
 (AA (AT AG S0 (.vs 1 [] .full) (.vs 1 a0 (Rt.strip a0r))) fun t7=>
 Q t7 S0)
theorem IT{w0 a0 a0r S0 Q}(h:FM (AP (En w0)) a0 a0r S0 Q):AC w0 B9 [(.vs 1 a0 a0r)] S0 Q:=Ac w0 Tryz.func120 (by kernel_rfl) (by kernel_rfl) h
def Ew(Ca:CaT)(a0:List (List AV))(a0r:Rt)(S0:St)(Q:QT):Prop:=
 AA (Gw .slice .eql (.vs 7 a0 (Rt.strip a0r)) (.vs 7 [] .nil)) fun t4=>
 ifK t4
 (Q (.vs 7 [] .nil) S0)
 (AA (AT AF S0 (.vs 7 [] .full) (.vs 7 a0 (Rt.strip a0r))) fun t7=>
 Q t7 S0)
theorem G5{w0 a0 a0r S0 Q}(h:Ew (AP (En w0)) a0 a0r S0 Q):AC w0 DS [(.vs 7 a0 a0r)] S0 Q:=Ac w0 Tryz.func121 (by kernel_rfl) (by kernel_rfl) h
def H7(Ca:CaT)(a0 a0o:Nat)(a1:Int)(S0:St)(Q:QT):Prop:=
 Ca Cr [(.ptr a0 a0o),(.int .i64 a1)] S0 fun t7 S=>
 AA (JY AF t7 0) fun t8=>
 AA (JY Dg (AV.strip t8) 1) fun t9=>
 Q (AV.strip t9) S
theorem Mt{w0 a0 a0o a1 S0 Q}(h:H7 (AP (En w0)) a0 a0o a1 S0 Q):AC w0 Ee [(.ptr a0 a0o),(.int .i64 a1)] S0 Q:=Ac w0 Tryz.func124 (by kernel_rfl) (by kernel_rfl) h
def Qh(Ca:CaT)(a0a:Int)(a0b:Bool)(a0c:List (List AV))(a0cr:Rt)(a0d:List (List AV))(a0dr:Rt)(a0e:Int)(a0f:List (List AV))(a0fr:Rt)(a0g:List UInt8)(a1:Int)(a2:AV)(S0:St)(Q:QT):Prop:=
 AA (DT AF (.agg [(.int .i64 a0a),(.bool a0b),(.vs 1 a0c a0cr),(.vs 7 a0d a0dr),(.int .i64 a0e),(.vs 2 a0f a0fr),(.str a0g)])) fun c3=>
 AA (Hq (AV.strip a2)) fun t12=>
 AA (AO AN S0 t12) fun t13=>
 AA (some c3) fun _=>
 AA (AD AX (some c3) 2) fun t15=>
 AA (A9 (AV.strip t15)) fun t16=>
 AA (AJ .add (.int .i64 1) t16) fun t17=>
 AA (some c3) fun _=>
 AA (AD Bc (some c3) 5) fun t19=>
 AA (A9 (AV.strip t19)) fun t20=>
 AA (AJ .add t17 t20) fun t21=>
 AA (AJ .sub (AV.strip t13) t21) fun t22=>
 AA (Hq (AV.strip a2)) fun t23=>
 AA (Bx AN S0 t23 t22) fun S=>
 AL (fun (S_4:St)=>
 AA (Hq (AV.strip a2)) fun t41=>
 AA (AO AN S_4 t41) fun t42=>
 AA (some c3) fun _=>
 AA (AD AG (some c3) 6) fun t44=>
 AA (DN (AV.strip t44)) fun t45=>
 AA (AJ .sub (AV.strip t42) t45) fun t46=>
 AA (Hq (AV.strip a2)) fun t47=>
 AA (Bx AN S_4 t47 t46) fun S_5=>
 AA (Hq (AV.strip a2)) fun t49=>
 AA (AO AN S_5 t49) fun t50=>
 AA (AJ .lss (AV.strip t50) (.int .i64 0)) fun t51=>
 AL (fun (x54:AV)=>
 AA (AZ (AV.strip t51) (.bool true) x54) fun t55=>
 ifK (AV.strip t55)
 (Q (.bool false) S_5)
 (AL (fun (S_8:St)=>
 Q (.bool true) S_8) fun j_2=>
 AA (some c3) fun _=>
 AA (AD Ad (some c3) 3) fun t57=>
 AA (A9 (AV.strip t57)) fun t58=>
 Bo ([(.int .i64 0)],[]) (fun v_2 bx_2=>([v_2 59],[])) (fun nx_2 v_2 bx_2 S_6=>
 AA (AJ .lss (v_2 59) t58) fun t60=>
 ifK t60
 (AA (Aa AF (AV.strip t57) (v_2 59)) fun t61=>
 AA (AO AF S_6 t61) fun t62=>
 AA (AI AF (some AF.zero) 0 (AV.strip t62)) fun b10=>
 AA (AD AF (some b10) 0) fun t63=>
 AU Ca JC [(AV.strip t63),(.int .i64 (IntKind.i64.wrap (a1 - 1))),(AV.strip a2)] S_6 fun t67 S_7=>
 AA (unA .not t67) fun t68=>
 ifK t68
 (Q (.bool false) S_7)
 (AA (AJ .add (v_2 59) (.int .i64 1)) fun t69=>
 nx_2 ([(AV.strip t69)],[]) S_7))
 (j_2 S_6)) S_5)) fun j=>
 ifK (AV.strip t51)
 (j (.tup []))
 (j (.bool (decide (a1 < 0))))) fun j_3=>
 AA (some c3) fun _=>
 AA (AD Bc (some c3) 5) fun t25=>
 AA (A9 (AV.strip t25)) fun t26=>
 Bo ([(.int .i64 0)],[]) (fun v bx=>([v 27],[])) (fun nx v bx S_2=>
 AA (AJ .lss (v 27) t26) fun t28=>
 ifK t28
 (AA (Aa Ae (AV.strip t25) (v 27)) fun t29=>
 AA (AO Ae S_2 t29) fun t30=>
 AA (AI Ae (some [(.int .i64 0),(.str [])]) 0 (AV.strip t30)) fun b8=>
 AA (Hq (AV.strip a2)) fun t32=>
 AA (AO AN S_2 t32) fun t33=>
 AA (some b8) fun _=>
 AA (AD AG (some b8) 1) fun t35=>
 AA (DN (AV.strip t35)) fun t36=>
 AA (AJ .sub (AV.strip t33) t36) fun t37=>
 AA (Hq (AV.strip a2)) fun t38=>
 AA (Bx AN S_2 t38 t37) fun S_3=>
 AA (AJ .add (v 27) (.int .i64 1)) fun t39=>
 nx ([(AV.strip t39)],[]) S_3)
 (j_3 S_2)) S
theorem Xl{w0 a0a a0b a0c a0cr a0d a0dr a0e a0f a0fr a0g a1 a2 S0 Q}(h:Qh (AP (En w0)) a0a a0b a0c a0cr a0d a0dr a0e a0f a0fr a0g a1 a2 S0 Q):AC w0 JC [(.agg [(.int .i64 a0a),(.bool a0b),(.vs 1 a0c a0cr),(.vs 7 a0d a0dr),(.int .i64 a0e),(.vs 2 a0f a0fr),(.str a0g)]),(.int .i64 a1),a2] S0 Q:=Ac w0 Tryz.func127 (by kernel_rfl) (by kernel_rfl) h
def VN(Ca:CaT)(a0a:Int)(a0b:Bool)(a0c:List (List AV))(a0cr:Rt)(a0d:List (List AV))(a0dr:Rt)(a0e:Int)(a0f:List (List AV))(a0fr:Rt)(a0g:List UInt8)(S0:St)(Q:QT):Prop:=
 AA (DT AF (.agg [(.int .i64 a0a),(.bool a0b),(.vs 1 a0c a0cr),(.vs 7 a0d a0dr),(.int .i64 a0e),(.vs 2 a0f a0fr),(.str a0g)])) fun c1=>
 AL (fun (y1:Option (List AV)) (S_3:St)=>
 AA (AD AF y1 0) fun t18=>
 AU Ca PY [(AV.strip t18)] S_3 fun t19 S_4=>
 Q t19 S_4) fun j=>
 Bo ([(.int .i64 0)],[(some c1)]) (fun v bx=>([v 3],[bx 1])) (fun nx v bx S=>
 AA (bx 1) fun _=>
 AA (AD Ad (bx 1) 3) fun t6=>
 AA (A9 (AV.strip t6)) fun t7=>
 AA (AJ .lss (AV.strip (v 3)) t7) fun t8=>
 ifK t8
 (AA (bx 1) fun _=>
 AA (AD Ad (bx 1) 3) fun t12=>
 AA (Aa AF (AV.strip t12) (AV.strip (v 3))) fun t14=>
 AA (AO AF S t14) fun t15=>
 AU Ca Lr [(AV.strip t15)] S fun t16 S_2=>
 AA (unA .not t16) fun t17=>
 ifK t17
 (Q (.bool false) S_2)
 (AA (AJ .add (AV.strip (v 3)) (.int .i64 1)) fun t10=>
 nx ([t10],[(bx 1)]) S_2))
 (j (bx 1) S)) S0
theorem am{w0 a0a a0b a0c a0cr a0d a0dr a0e a0f a0fr a0g S0 Q}(h:VN (AP (En w0)) a0a a0b a0c a0cr a0d a0dr a0e a0f a0fr a0g S0 Q):AC w0 Lr [(.agg [(.int .i64 a0a),(.bool a0b),(.vs 1 a0c a0cr),(.vs 7 a0d a0dr),(.int .i64 a0e),(.vs 2 a0f a0fr),(.str a0g)])] S0 Q:=Ac w0 Tryz.func128 (by kernel_rfl) (by kernel_rfl) h
def Qc(Ca:CaT)(a0a:Int)(a0b:Bool)(a0c:List (List AV))(a0cr:Rt)(a0d:List (List AV))(a0dr:Rt)(a0e:Int)(a0f:List (List AV))(a0fr:Rt)(a0g:List UInt8)(S0:St)(Q:QT):Prop:=
 AA (DT AF (.agg [(.int .i64 a0a),(.bool a0b),(.vs 1 a0c a0cr),(.vs 7 a0d a0dr),(.int .i64 a0e),(.vs 2 a0f a0fr),(.str a0g)])) fun c1=>
 AL (fun (x3:AV) (S_3:St)=>
 Q (AV.strip x3) S_3) fun j=>
 Bo ([(.int .i64 1),(.int .i64 0)],[(some c1)]) (fun v bx=>([v 3,v 4],[bx 1])) (fun nx v bx S=>
 AA (bx 1) fun _=>
 AA (AD Ad (bx 1) 3) fun t7=>
 AA (A9 (AV.strip t7)) fun t8=>
 AA (AJ .lss (AV.strip (v 4)) t8) fun t9=>
 ifK t9
 (AA (bx 1) fun _=>
 AA (AD Ad (bx 1) 3) fun t14=>
 AA (Aa AF (AV.strip t14) (AV.strip (v 4))) fun t16=>
 AA (AO AF S t16) fun t17=>
 AU Ca JA [(AV.strip t17)] S fun t18 S_2=>
 AA (AJ .add (AV.strip (v 3)) t18) fun t19=>
 AA (AJ .add (AV.strip (v 4)) (.int .i64 1)) fun t11=>
 nx ([t19,t11],[(bx 1)]) S_2)
 (j (v 3) S)) S0
theorem Xu{w0 a0a a0b a0c a0cr a0d a0dr a0e a0f a0fr a0g S0 Q}(h:Qc (AP (En w0)) a0a a0b a0c a0cr a0d a0dr a0e a0f a0fr a0g S0 Q):AC w0 JA [(.agg [(.int .i64 a0a),(.bool a0b),(.vs 1 a0c a0cr),(.vs 7 a0d a0dr),(.int .i64 a0e),(.vs 2 a0f a0fr),(.str a0g)])] S0 Q:=Ac w0 Tryz.func129 (by kernel_rfl) (by kernel_rfl) h
def Qr(Ca:CaT)(a0a:Int)(a0b:Bool)(a0c:List (List AV))(a0cr:Rt)(a0d:List (List AV))(a0dr:Rt)(a0e:Int)(a0f:List (List AV))(a0fr:Rt)(a0g:List UInt8)(S0:St)(Q:QT):Prop:=
 AA (DT AF (.agg [(.int .i64 a0a),(.bool a0b),(.vs 1 a0c a0cr),(.vs 7 a0d a0dr),(.int .i64 a0e),(.vs 2 a0f a0fr),(.str a0g)])) fun c1=>
 AL (fun (x3_2:AV) (S_4:St)=>
 Q (AV.strip x3_2) S_4) fun j_2=>
 Bo ([(.int .i64 0),(.int .i64 0)],[(some c1)]) (fun v bx=>([v 3,v 4],[bx 1])) (fun nx v bx S=>
 AA (bx 1) fun _=>
 AA (AD Ad (bx 1) 3) fun t8=>
 AA (A9 (AV.strip t8)) fun t9=>
 AA (AJ .lss (AV.strip (v 4)) t9) fun t10=>
 ifK t10
 (AL (fun (x3:AV) (S_3:St)=>
 AA (AJ .add (AV.strip (v 4)) (.int .i64 1)) fun t12=>
 nx ([x3,t12],[(bx 1)]) S_3) fun j=>
 AA (bx 1) fun _=>
 AA (AD Ad (bx 1) 3) fun t14=>
 AA (Aa AF (AV.strip t14) (AV.strip (v 4))) fun t16=>
 AA (AO AF S t16) fun t17=>
 AU Ca I7 [(AV.strip t17)] S fun t18 S_2=>
 AA (AJ .add t18 (.int .i64 1)) fun t19=>
 AA (AJ .gtr (AV.strip t19) (AV.strip (v 3))) fun t22=>
 ifK t22
 (j (AV.strip t19) S_2)
 (j (v 3) S_2))
 (j_2 (v 3) S)) S0
theorem XR{w0 a0a a0b a0c a0cr a0d a0dr a0e a0f a0fr a0g S0 Q}(h:Qr (AP (En w0)) a0a a0b a0c a0cr a0d a0dr a0e a0f a0fr a0g S0 Q):AC w0 I7 [(.agg [(.int .i64 a0a),(.bool a0b),(.vs 1 a0c a0cr),(.vs 7 a0d a0dr),(.int .i64 a0e),(.vs 2 a0f a0fr),(.str a0g)])] S0 Q:=Ac w0 Tryz.func130 (by kernel_rfl) (by kernel_rfl) h
def Tr(Ca:CaT)(a0:List UInt8)(S0:St)(Q:QT):Prop:=
 AL (fun (x12:AV)=>
 AA (AZ (.bool (a0==[])) (.bool true) x12) fun t13=>
 ifK (AV.strip t13)
 (Q (.tup [(.vs 1 [] .nil),(.bool false),(.int .i64 1)]) S0)
 (AL (fun (x2_2:AV) (S_6:St)=>
 AA (Fd (.str a0) (.int .i64 0)) fun t42=>
 AA (AJ .eql t42 (.int .u8 47)) fun t43=>
 Q (.tup [(AV.flat x2_2),(AV.flat t43),(.int .i64 0)]) S_6) fun j_5=>
 Ca N7 [(.str a0),(.str [47])] S0 fun t15 S=>
 AA (A9 t15) fun t16=>
 Bo ([(.vs 1 [] .nil),(.int .i64 0)],[]) (fun v bx=>([v 2,v 17],[])) (fun nx v bx S_2=>
 AA (AJ .lss (v 17) t16) fun t18=>
 ifK t18
 (AL (fun (x2:AV) (S_5:St)=>
 AA (AJ .add (v 17) (.int .i64 1)) fun t39=>
 nx ([x2,(AV.strip t39)],[]) S_5) fun j_4=>
 AA (Aa AG t15 (v 17)) fun t19=>
 AA (AO AG S_2 t19) fun t20=>
 AA (AJ .eql (AV.strip (AV.strip t20)) (.str [])) fun t23=>
 AL (fun (x26:AV)=>
 AA (AZ (AV.strip t23) (.bool true) x26) fun t27=>
 ifK (AV.strip t27)
 (j_4 (v 2) S_2)
 (AA (AJ .eql (AV.strip (AV.strip t20)) (.str [46,46])) fun t30=>
 AL (fun (x33:AV) (S_4:St)=>
 AA (AZ (AV.strip t30) (.bool true) x33) fun t34=>
 ifK (AV.strip t34)
 (AA (BY 1 [(AV.strip (AV.strip t20))]) fun e37=>
 AA (AT AG S_4 (v 2) (.vs 1 e37 .full)) fun t38=>
 j_4 t38 S_4)
 (Q (.tup [(.vs 1 [] .nil),(.bool false),(.int .i64 1)]) S_4)) fun j_2=>
 ifK (AV.strip t30)
 (j_2 (.tup []) S_2)
 (AU Ca KN [(AV.strip (AV.strip t20))] S_2 fun t33 S_3=>
 j_2 t33 S_3))) fun j_3=>
 ifK (AV.strip t23)
 (j_3 (.tup []))
 (AA (AJ .eql (AV.strip (AV.strip t20)) (.str [46])) fun t26=>
 j_3 t26))
 (j_5 (v 2) S_2)) S)) fun j=>
 ifK (.bool (a0==[]))
 (j (.tup []))
 (j (.bool (decide ((List.length a0:Int) > 1024))))
theorem Zn{w0 a0 S0 Q}(h:Tr (AP (En w0)) a0 S0 Q):AC w0 H5 [(.str a0)] S0 Q:=Ac w0 Tryz.func131 (by kernel_rfl) (by kernel_rfl) h
def Mi(Ca:CaT)(a0 a0o:Nat)(S0:St)(Q:QT):Prop:=
 AA (AO Bd S0 (.ptr a0 (a0o+1))) fun t6=>
 AA (AO Bd S0 (.ptr a0 (a0o+1))) fun t10=>
 AA (A9 (AV.strip t10)) fun t11=>
 AA (AJ .sub t11 (.int .i64 1)) fun t12=>
 AA (Aa Cs (AV.strip t6) t12) fun t13=>
 AA (AO Cs S0 t13) fun t14=>
 AA (AI Cs (some [(.str []),(.vs 2 [] .nil)]) 0 (AV.strip t14)) fun b2=>
 AA ((AD Cs (some b2) 0).map AV.strip) fun r2=>
 Q r2 S0
theorem Tq{w0 a0 a0o S0 Q}(h:Mi (AP (En w0)) a0 a0o S0 Q):AC w0 FZ [(.ptr a0 a0o)] S0 Q:=Ac w0 Tryz.func132 (by kernel_rfl) (by kernel_rfl) h
def K1(Ca:CaT)(a0 a0o:Nat)(a1:List UInt8)(S0:St)(Q:QT):Prop:=
 AA (AO AN S0 (.ptr a0 (a0o+3))) fun t11=>
 AA (AJ .add (AV.strip t11) (.int .i64 1)) fun t12=>
 AA (Bx AN S0 (.ptr a0 (a0o+3)) t12) fun S=>
 AA (AO AN S (.ptr a0 (a0o+3))) fun t18=>
 AA (AJ .gtr (AV.strip t18) (.int .i64 40)) fun t19=>
 ifK t19
 (Q (.int .i64 4) S)
 (Ca H5 [(.str a1)] S fun t22 S_2=>
 AA (AM t22 0) fun t23=>
 AA (AM (AS t22 0) 1) fun t24=>
 AA (AM (AS (AS t22 0) 1) 2) fun t25=>
 AA (AJ .neq (AV.strip t25) (.int .i64 0)) fun t27=>
 ifK t27
 (Q (AV.strip t25) S_2)
 (AL (fun (S_4:St)=>
 AA (AO AX S_4 (.ptr a0 (a0o+0))) fun t43=>
 AA (AT AG S_4 t23 (AV.strip t43)) fun t44=>
 AA (Bx AX S_4 (.ptr a0 (a0o+0)) t44) fun S_5=>
 Q (.int .i64 0) S_5) fun j=>
 ifK (AV.strip t24)
 (AA (AO Bd S_2 (.ptr a0 (a0o+1))) fun t34=>
 AA (Dk Cs (AV.strip0 t34) none (some (.int .i64 1)) none) fun t35=>
 AA (Bx Bd (stripMem S_2 (.ptr a0 (a0o+1))) (.ptr a0 (a0o+1)) t35) fun S_3=>
 j S_3)
 (j S_2)))
theorem QK{w0 a0 a0o a1 S0 Q}(h:K1 (AP (En w0)) a0 a0o a1 S0 Q):AC w0 HV [(.ptr a0 a0o),(.str a1)] S0 Q:=Ac w0 Tryz.func133 (by kernel_rfl) (by kernel_rfl) h
def TO(Ca:CaT)(a0 a1:List UInt8)(S0:St)(Q:QT):Prop:=
 ifK (.bool (a0==[47]))
 (AA (AJ .add (.str a0) (.str a1)) fun t9=>
 Q t9 S0)
 (AA (AJ .add (.str a0) (.str [47])) fun t11=>
 AA (AJ .add t11 (.str a1)) fun t13=>
 Q t13 S0)
theorem Zd{w0 a0 a1 S0 Q}(h:TO (AP (En w0)) a0 a1 S0 Q):AC w0 J5 [(.str a0),(.str a1)] S0 Q:=Ac w0 Tryz.func134 (by kernel_rfl) (by kernel_rfl) h
def JT(Ca:CaT)(a0 a0o:Nat)(a1:Int)(a2:List UInt8)(S0:St)(Q:QT):Prop:=
 Ca Cr [(.ptr a0 a0o),(.int .i64 a1)] S0 fun t13 S=>
 AA (AI A4 (some A4.zero) 0 t13) fun b8=>
 AA (some b8) fun _=>
 AA (some b8) fun _=>
 AA (AD AX (some b8) 2) fun t17=>
 AU Ca DC [(AV.strip t17),(.str a2)] S fun t19 S_2=>
 AA (AM t19 0) fun t20=>
 AA (AM (AS t19 0) 1) fun t21=>
 AA (unA .not (AV.strip t21)) fun t23=>
 ifK t23
 (Q (.tup [(.int .i64 0),(.bool false)]) S_2)
 (AA (some b8) fun _=>
 AA (AD Fh (some b8) 7) fun t25=>
 AA (Aa AN (AV.strip t25) (AV.strip t20)) fun t27=>
 AA (AO AN S_2 t27) fun t28=>
 Q (.tup [(AV.flat (AV.strip t28)),(.bool true)]) S_2)
theorem OR{w0 a0 a0o a1 a2 S0 Q}(h:JT (AP (En w0)) a0 a0o a1 a2 S0 Q):AC w0 E7 [(.ptr a0 a0o),(.int .i64 a1),(.str a2)] S0 Q:=Ac w0 Tryz.func135 (by kernel_rfl) (by kernel_rfl) h
def Ja(Ca:CaT)(a0 a0o:Nat)(a1:Int)(S0:St)(Q:QT):Prop:=
 Ca Cr [(.ptr a0 a0o),(.int .i64 a1)] S0 fun t7 S=>
 AA (JY AF t7 0) fun t8=>
 AA (JY AN (AV.strip t8) 0) fun t9=>
 Q (AV.strip t9) S
theorem OM{w0 a0 a0o a1 S0 Q}(h:Ja (AP (En w0)) a0 a0o a1 S0 Q):AC w0 E8 [(.ptr a0 a0o),(.int .i64 a1)] S0 Q:=Ac w0 Tryz.func136 (by kernel_rfl) (by kernel_rfl) h
def Kg(Ca:CaT)(a0 a0o:Nat)(a1:Int)(S0:St)(Q:QT):Prop:=
 AL (fun (x14:AV)=>
 AA (AZ (.bool (decide (a1 < 0))) (.bool true) x14) fun t15=>
 ifK (AV.strip t15)
 (Q (.agg A4.zero) S0)
 (AA (AO Bw S0 (.ptr a0 (a0o+0))) fun t20=>
 AA (Aa A4 (AV.strip t20) (.int .i64 a1)) fun t22=>
 AA (AO A4 S0 t22) fun t23=>
 AA (AI A4 (some A4.zero) 0 (AV.strip t23)) fun b4=>
 AA ((AD A4 (some b4) 0).map AV.strip) fun r4=>
 Q r4 S0)) fun j=>
 ifK (.bool (decide (a1 < 0)))
 (j (.tup []))
 (AA (AO Bw S0 (.ptr a0 (a0o+0))) fun t12=>
 AA (A9 (AV.strip t12)) fun t13=>
 AA (AJ .geq (.int .i64 a1) t13) fun t14=>
 j t14)
theorem P8{w0 a0 a0o a1 S0 Q}(h:Kg (AP (En w0)) a0 a0o a1 S0 Q):AC w0 Cr [(.ptr a0 a0o),(.int .i64 a1)] S0 Q:=Ac w0 Tryz.func137 (by kernel_rfl) (by kernel_rfl) h
def Qi(Ca:CaT)(a0:List UInt8)(S0:St)(Q:QT):Prop:=
 AL (fun (x14:AV)=>
 AA (AZ (.bool (decide ((List.length a0:Int) < 1))) (.bool true) x14) fun t15=>
 ifK (AV.strip t15)
 (Q (.tup [(.vs 1 [] .nil),(.bool false)]) S0)
 (AL (fun (x4_2:AV) (S_5:St)=>
 Q (.tup [(AV.flat (AV.strip x4_2)),(.bool true)]) S_5) fun j_6=>
 Bo ([(.str a0),(.vs 1 [] .full),(.int .i64 0),(.int .i64 0)],[]) (fun v bx=>([v 0,v 4,v 5,v 6],[])) (fun nx v bx S=>
 AA (DN (AV.strip (v 0))) fun t19=>
 AA (AJ .leq (AV.strip (v 6)) t19) fun t20=>
 ifK t20
 (AL (fun (x0:AV) (x4:AV) (x5:AV) (S_4:St)=>
 AA (AJ .add (AV.strip (v 6)) (.int .i64 1)) fun t22=>
 nx ([x0,x4,x5,t22],[]) S_4) fun j_5=>
 AA (DN (AV.strip (v 0))) fun t25=>
 AA (AJ .lss (AV.strip (v 6)) t25) fun t26=>
 AL (fun (x31:AV)=>
 AA (AZ (AV.strip t26) x31 (.bool false)) fun t32=>
 ifK (AV.strip t32)
 (j_5 (v 0) (v 4) (v 5) S)
 (AA (Cc (v 0) (some (AV.strip (v 5))) (some (AV.strip (v 6)))) fun t36=>
 AA (AJ .add (AV.strip (v 6)) (.int .i64 1)) fun t38=>
 AA (AJ .eql (AV.strip t36) (.str [])) fun t40=>
 AL (fun (x43:AV)=>
 AA (AZ (AV.strip t40) (.bool true) x43) fun t44=>
 ifK (AV.strip t44)
 (j_5 (AV.strip (v 0)) (v 4) t38 S)
 (AA (AJ .neq (AV.strip t36) (.str [46,46])) fun t46=>
 AL (fun (x50:AV) (S_3:St)=>
 AA (AZ (AV.strip t46) x50 (.bool false)) fun t51=>
 ifK (AV.strip t51)
 (Q (.tup [(.vs 1 [] .nil),(.bool false)]) S_3)
 (AA (BY 1 [(AV.strip t36)]) fun e54=>
 AA (AT AG S_3 (v 4) (.vs 1 e54 .full)) fun t55=>
 j_5 (AV.strip (v 0)) t55 t38 S_3)) fun j_4=>
 ifK (AV.strip t46)
 (AU Ca I6 [(AV.strip t36)] S fun t49 S_2=>
 AA (unA .not t49) fun t50=>
 j_4 t50 S_2)
 (j_4 (.tup []) S))) fun j_3=>
 ifK (AV.strip t40)
 (j_3 (.tup []))
 (AA (AJ .eql (AV.strip t36) (.str [46])) fun t43=>
 j_3 t43))) fun j_2=>
 ifK (AV.strip t26)
 (AA (Fd (AV.strip (v 0)) (AV.strip (v 6))) fun t30=>
 AA (AJ .neq t30 (.int .u8 47)) fun t31=>
 j_2 t31)
 (j_2 (.tup [])))
 (j_6 (v 4) S)) S0)) fun j=>
 ifK (.bool (decide ((List.length a0:Int) < 1)))
 (j (.tup []))
 (j (.bool (decide ((List.length a0:Int) > 1024))))
theorem XQ{w0 a0 S0 Q}(h:Qi (AP (En w0)) a0 S0 Q):AC w0 Fx [(.str a0)] S0 Q:=Ac w0 Tryz.func140 (by kernel_rfl) (by kernel_rfl) h
def UK(Ca:CaT)(a0a:List (List AV))(a0ar:Rt)(a0b:Int)(a1:List (List AV))(a1r:Rt)(S0:St)(Q:QT):Prop:=
 AA (DT AK (.agg [(.vs 2 a0a a0ar),(.int .i64 a0b)])) fun c2=>
 AA (D3 AX false S0 (.int .i64 (List.length a1:Int)) (.int .i64 (List.length a1:Int))) fun p19=>
 AL (fun (y2:Option (List AV)) (S_6:St)=>
 AL (fun (x9_2:AV) (S_14:St)=>
 Q (AV.strip x9_2) S_14) fun j_3=>
 AU Ca J0 [(AV.strip p19.1)] S_6 fun t42 S_7=>
 AU Ca NH [t42] S_7 fun t43 S_8=>
 AA (A9 t43) fun t44=>
 Bo ([(.vs 2 [] .nil),(.int .i64 0)],[y2]) (fun v_2 bx_2=>([v_2 9,v_2 45],[bx_2 2])) (fun nx_2 v_2 bx_2 S_9=>
 AA (AJ .lss (v_2 45) t44) fun t46=>
 ifK t46
 (AL (fun (x9:AV) (S_13:St)=>
 AA (AJ .add (v_2 45) (.int .i64 1)) fun t83=>
 nx_2 ([x9,(AV.strip t83)],[(bx_2 2)]) S_13) fun j_2=>
 AA (Aa BO t43 (v_2 45)) fun t47=>
 AA (AO BO S_9 t47) fun t48=>
 AA (AI BO (some [(.str []),(.int .i64 0)]) 0 (AV.strip t48)) fun b11=>
 AA (AD AK (bx_2 2) 0) fun t49=>
 AA (some b11) fun _=>
 AA (AD AN (some b11) 1) fun t52=>
 AA (Aa Bf (.vs 2 a1 (Rt.strip a1r)) (AV.strip t52)) fun t53=>
 AA (BK t53 0) fun t54=>
 AA (AO AN S_9 t54) fun t55=>
 AA (some b11) fun _=>
 AA (AD AN (some b11) 1) fun t59=>
 AA (Aa Bf (.vs 2 a1 (Rt.strip a1r)) (AV.strip t59)) fun t60=>
 AA (BK t60 1) fun t61=>
 AA (AO AN S_9 t61) fun t62=>
 AU Ca Da [(AV.strip t49),(AV.strip t55)] S_9 fun t56 S_10=>
 (AA (AO AN S_10 t61) fun t62_2=>
 ((AV.strip t62_2):AV)=(AV.strip t62))∧
 (AA (some b11) fun _=>
 AA (AD AG (some b11) 0) fun t67=>
 AU Ca E7 [(AV.strip t56),(AV.strip (AV.strip t62)),(AV.strip t67)] S_10 fun t68 S_11=>
 AA (AM t68 0) fun t69=>
 AA (AM (AS t68 0) 1) fun t70=>
 AU Ca E8 [(AV.strip t56),(AV.strip t69)] S_11 fun t73 S_12=>
 AA (AJ .neq (AV.strip t73) (.int .i64 4)) fun t75=>
 ifK t75
 (AA (some b11) fun _=>
 AA (AD AG (some b11) 0) fun t78=>
 AA (BV Bn 1 [(0,(AV.strip t78)),(1,(AV.strip t73))]) fun t80=>
 AA (BY 2 [t80]) fun e81=>
 AA (AT Bn S_12 (v_2 9) (.vs 2 e81 .full)) fun t82=>
 j_2 t82 S_12)
 (j_2 (v_2 9) S_12)))
 (j_3 (v_2 9) S_9)) S_8) fun j_4=>
 Bo ([(.int .i64 0)],[(some c2)]) (fun v bx=>([v 22],[bx 2])) (fun nx v bx S=>
 AA (AJ .lss (v 22) (.int .i64 (List.length a1:Int))) fun t23=>
 ifK t23
 (AL (fun (S_5:St)=>
 AA (AJ .add (v 22) (.int .i64 1)) fun t40=>
 nx ([(AV.strip t40)],[(bx 2)]) S_5) fun j=>
 AA (Aa Bf (.vs 2 a1 (Rt.strip a1r)) (v 22)) fun t25=>
 AA (AO Bf S t25) fun t26=>
 AA (AI Bf (some [(.int .i64 0),(.int .i64 0)]) 0 (AV.strip t26)) fun b7=>
 AA (AD AK (bx 2) 0) fun t27=>
 AA (some b7) fun _=>
 AA (AD AN (some b7) 0) fun t29=>
 AU Ca Da [(AV.strip t27),(AV.strip t29)] S fun t30 S_2=>
 AA (Gw .ptr .neq (AV.strip t30) .nil) fun t32=>
 ifK t32
 (AA (some b7) fun _=>
 AA (AD AN (some b7) 1) fun t37=>
 AU Ca F3 [(AV.strip t30),(AV.strip t37)] S_2 fun t38 S_3=>
 AA (Aa AX (AV.strip p19.1) (AV.strip (AV.strip (v 22)))) fun t39=>
 AA (Bx AX S_3 t39 t38) fun S_4=>
 j S_4)
 (j S_2))
 (j_4 (bx 2) S)) p19.2
theorem Ym{w0 a0a a0ar a0b a1 a1r S0 Q}(h:UK (AP (En w0)) a0a a0ar a0b a1 a1r S0 Q):AC w0 Nu [(.agg [(.vs 2 a0a a0ar),(.int .i64 a0b)]),(.vs 2 a1 a1r)] S0 Q:=Ac w0 Tryz.func146 (by kernel_rfl) (by kernel_rfl) h
def Vb(Ca:CaT)(a0:List UInt8)(S0:St)(Q:QT):Prop:=
 AL (fun (x3_2:AV) (S_4:St)=>
 Q (AV.strip x3_2) S_4) fun j_4=>
 Bo ([(.str a0),(.vs 2 [] .nil),(.int .i64 0)],[]) (fun v bx=>([v 0,v 3,v 4],[])) (fun nx v bx S=>
 AA (DN (AV.strip (v 0))) fun t8=>
 AA (AJ .lss (AV.strip (v 4)) t8) fun t9=>
 ifK t9
 (AL (fun (x5:AV) (S_3:St)=>
 AL (fun (x0:AV) (x3:AV)=>
 AA (AJ .add (AV.strip x5) (.int .i64 1)) fun t36=>
 nx ([x0,x3,t36],[]) S_3) fun j_2=>
 AA (AJ .gtr (AV.strip x5) (AV.strip (v 4))) fun t25=>
 ifK t25
 (AA (Cc (v 0) (some (AV.strip (v 4))) (some (AV.strip x5))) fun t31=>
 AA (BV Ae 1 [(0,(AV.strip (v 4))),(1,t31)]) fun t32=>
 AA (BY 2 [t32]) fun e33=>
 AA (AT Ae S_3 (v 3) (.vs 2 e33 .full)) fun t34=>
 j_2 (AV.strip (v 0)) t34)
 (j_2 (v 0) (v 3))) fun j_3=>
 Bo ([(AV.strip (v 4))],[]) (fun v_2 bx_2=>([v_2 5],[])) (fun nx_2 v_2 bx_2 S_2=>
 AA (DN (AV.strip (v 0))) fun t13=>
 AA (AJ .lss (AV.strip (v_2 5)) t13) fun t14=>
 AL (fun (x19:AV)=>
 AA (AZ (AV.strip t14) x19 (.bool false)) fun t20=>
 ifK (AV.strip t20)
 (AA (AJ .add (AV.strip (v_2 5)) (.int .i64 1)) fun t22=>
 nx_2 ([t22],[]) S_2)
 (j_3 (v_2 5) S_2)) fun j=>
 ifK (AV.strip t14)
 (AA (Fd (AV.strip (v 0)) (AV.strip (v_2 5))) fun t18=>
 AA (AJ .neq t18 (.int .u8 0)) fun t19=>
 j t19)
 (j (.tup []))) S)
 (j_4 (v 3) S)) S0
theorem bT{w0 a0 S0 Q}(h:Vb (AP (En w0)) a0 S0 Q):AC w0 PD [(.str a0)] S0 Q:=Ac w0 Tryz.func149 (by kernel_rfl) (by kernel_rfl) h
set_option maxHeartbeats 2000000
open Go.Proofs
def UF(Ca:CaT)(a0:List (List AV))(a0r:Rt)(a1 a2:Int)(S0:St)(Q:QT):Prop:=
 AA (bQ [(.int .i64 (if 0 > a2 then 0 else a2)),(.int .i64 (IntKind.i64.wrap ((List.length a0:Int) - (if (List.length a0:Int) < (if 0 > a1 then 0 else a1) then (List.length a0:Int) else (if 0 > a1 then 0 else a1)))))]) fun t21=>
 AA (AJ .add (.int .i64 (if (List.length a0:Int) < (if 0 > a1 then 0 else a1) then (List.length a0:Int) else (if 0 > a1 then 0 else a1))) t21) fun t22=>
 AA (Dk Bn (.vs 2 a0 a0r) (some (.int .i64 (if (List.length a0:Int) < (if 0 > a1 then 0 else a1) then (List.length a0:Int) else (if 0 > a1 then 0 else a1)))) (some (AV.strip t22)) none) fun t26=>
 AA (AT Bn S0 (.vs 2 [] .nil) t26) fun t27=>
 AA (AJ .eql (AV.strip t22) (.int .i64 (List.length a0:Int))) fun t31=>
 Q (.tup [(AV.flat t27),(AV.flat t31)]) S0
theorem Yz{w0 a0 a0r a1 a2 S0 Q}(h:UF (AP (En w0)) a0 a0r a1 a2 S0 Q):AC w0 No [(.vs 2 a0 a0r),(.int .i64 a1),(.int .i64 a2)] S0 Q:=Ac w0 Tryz.func154 (by kernel_rfl) (by kernel_rfl) h
def Jp(Ca:CaT)(a0 a0o:Nat)(a1 a2:Int)(S0:St)(Q:QT):Prop:=
 Ca Eu [(.ptr a0 a0o),(.int .i64 a1)] S0 fun t12 S=>
 AA (AM t12 0) fun t13=>
 AA (AM (AS t12 0) 1) fun t14=>
 AA (AI A3 (some [(.int .i64 0),(.str []),(.int .i64 0)]) 0 t13) fun b7=>
 AA (AJ .neq (AV.strip t14) (.int .i64 0)) fun t16=>
 ifK t16
 (Q (AV.strip t14) S)
 (AA (some b7) fun _=>
 AA (AD AN (some b7) 2) fun t19=>
 AA (AJ .add (AV.strip t19) (.int .i64 a2)) fun t21=>
 AA (some b7) fun _=>
 AA (AI AN (some b7) 2 t21) fun b7_2=>
 AA (AO BT S (.ptr a0 (a0o+2))) fun t26=>
 AA (AD A3 (some b7_2) 0) fun t28=>
 AA (Fm .int S (AV.strip t26) (.int .i64 a1) (AV.strip t28)) fun S_2=>
 Q (.int .i64 0) S_2)
theorem Oi{w0 a0 a0o a1 a2 S0 Q}(h:Jp (AP (En w0)) a0 a0o a1 a2 S0 Q):AC w0 Gm [(.ptr a0 a0o),(.int .i64 a1),(.int .i64 a2)] S0 Q:=Ac w0 Tryz.func155 (by kernel_rfl) (by kernel_rfl) h
def Qf(Ca:CaT)(a0:List (List AV))(a0r:Rt)(S0:St)(Q:QT):Prop:=
 AA (D3 AG false S0 (.int .i64 0) (.int .i64 (List.length a0:Int))) fun p8=>
 AL (fun (x3:AV) (S_2:St)=>
 Q (AV.strip x3) S_2) fun j=>
 Bo ([p8.1,(.int .i64 0)],[]) (fun v bx=>([v 3,v 11],[])) (fun nx v bx S=>
 AA (AJ .lss (v 11) (.int .i64 (List.length a0:Int))) fun t12=>
 ifK t12
 (AA (Aa Bn (.vs 2 a0 (Rt.strip a0r)) (v 11)) fun t13=>
 AA (AO Bn S t13) fun t14=>
 AA (AI Bn (some [(.str []),(.int .i64 0)]) 0 (AV.strip t14)) fun b5=>
 AA (some b5) fun _=>
 AA (AD AG (some b5) 0) fun t17=>
 AA (BY 1 [(AV.strip t17)]) fun e18=>
 AA (AT AG S (v 3) (.vs 1 e18 .full)) fun t19=>
 AA (AJ .add (v 11) (.int .i64 1)) fun t20=>
 nx ([t19,(AV.strip t20)],[]) S)
 (j (v 3) S)) p8.2
theorem XM{w0 a0 a0r S0 Q}(h:Qf (AP (En w0)) a0 a0r S0 Q):AC w0 L8 [(.vs 2 a0 a0r)] S0 Q:=Ac w0 Tryz.func156 (by kernel_rfl) (by kernel_rfl) h
def Ov(Ca:CaT)(a0:List UInt8)(S0:St)(Q:QT):Prop:=
 AL (fun (x12:AV)=>
 AA (AZ (.bool (decide ((List.length a0:Int) > 4194304))) (.bool true) x12) fun t13=>
 AL (fun (x17:AV)=>
 AA (AZ (AV.strip (AV.strip t13)) (.bool true) x17) fun t18=>
 ifK (AV.strip t18)
 (Q (.tup [(.agg AF.zero),(.int .i64 1)]) S0)
 (AA (Cc (.str a0) (some (.int .i64 7)) none) fun t21=>
 AU Ca VB [t21] S0 fun t22 S=>
 AA (BV EG 1 [(0,t22),(2,(.int .i64 4096))]) fun t23=>
 AA (DT EG t23) fun c24=>
 Ca FI [(.ptr S.length 0),(.int .i64 0)] (S++[Obj.cells c24 Bj]) fun t26 S_2=>
 AA (AI AF (some AF.zero) 0 t26) fun b5=>
 AA (AO Dg S_2 (.ptr S.length 1)) fun t30=>
 AL (fun (x37:AV) (S_4:St)=>
 AA (AZ (AV.strip (AV.strip t30)) (.bool true) x37) fun t38=>
 AL (fun (x42:AV) (S_6:St)=>
 AA (AZ (AV.strip (AV.strip t38)) (.bool true) x42) fun t43=>
 ifK (AV.strip t43)
 (Q (.tup [(.agg AF.zero),(.int .i64 1)]) S_6)
 (AA (AD AF (some b5) 0) fun t45=>
 AA (AI AF (some AF.zero) 0 (AV.strip t45)) fun b2=>
 AA ((AD AF (some b2) 0).map AV.strip) fun r2=>
 Q (.tup [(AV.flat r2),(.int .i64 0)]) S_6)) fun j_3=>
 ifK (AV.strip (AV.strip t38))
 (j_3 (.tup []) S_4)
 (AA (AD AF (some b5) 0) fun t40=>
 AU Ca J8 [(AV.strip t40)] S_4 fun t41 S_5=>
 AA (unA .not t41) fun t42=>
 j_3 t42 S_5)) fun j_4=>
 ifK (AV.strip (AV.strip t30))
 (j_4 (.tup []) S_2)
 (AA (AO Dp S_2 (.ptr S.length 0)) fun t35=>
 AU Ca Ko [(AV.strip t35)] S_2 fun t36 S_3=>
 AA (AJ .gtr t36 (.int .i64 0)) fun t37=>
 j_4 t37 S_3))) fun j=>
 ifK (AV.strip (AV.strip t13))
 (j (.tup []))
 (AA (Cc (.str a0) none (some (.int .i64 7))) fun t16=>
 AA (AJ .neq t16 (.str [115,111,99,97,103,101,49])) fun t17=>
 j t17)) fun j_2=>
 ifK (.bool (decide ((List.length a0:Int) > 4194304)))
 (j_2 (.tup []))
 (j_2 (.bool (decide ((List.length a0:Int) < 7))))
theorem Vz{w0 a0 S0 Q}(h:Ov (AP (En w0)) a0 S0 Q):AC w0 K5 [(.str a0)] S0 Q:=Ac w0 Tryz.func157 (by kernel_rfl) (by kernel_rfl) h
def Xd(Ca:CaT)(a0:Int)(S0:St)(Q:QT):Prop:=
 AL (fun (x7:AV)=>
 AA (AZ (.bool (decide (a0≥1))) x7 (.bool false)) fun t8=>
 Q (AV.strip t8) S0) fun j=>
 ifK (.bool (decide (a0≥1)))
 (j (.bool (decide (a0≤4))))
 (j (.tup []))
theorem eX{w0 a0 S0 Q}(h:Xd (AP (En w0)) a0 S0 Q):AC w0 Rc [(.int .i64 a0)] S0 Q:=Ac w0 Tryz.func158 (by kernel_rfl) (by kernel_rfl) h
def QS(Ca:CaT)(a0:Int)(S0:St)(Q:QT):Prop:=
 Q (.agg [(.int .i64 a0),(.int .i64 0),(.int .i64 0),(.int .i64 0),(.int .i64 0),(.str []),(.vs 1 [] .nil),(.bool false)]) S0
theorem YR{w0 a0 S0 Q}(h:QS (AP (En w0)) a0 S0 Q):AC w0 E9 [(.int .i64 a0)] S0 Q:=Ac w0 Tryz.func159 (by kernel_rfl) (by kernel_rfl) h
def OK(Ca:CaT)(a0:Int)(S0:St)(Q:QT):Prop:=
 AL (fun (x7:AV)=>
 AA (AZ (.bool (a0==2)) (.bool true) x7) fun t8=>
 AL (fun (x11:AV)=>
 AA (AZ (AV.strip (AV.strip t8)) (.bool true) x11) fun t12=>
 Q (AV.strip t12) S0) fun j=>
 ifK (AV.strip (AV.strip t8))
 (j (.tup []))
 (j (.bool (a0==5)))) fun j_2=>
 ifK (.bool (a0==2))
 (j_2 (.tup []))
 (j_2 (.bool (a0==4)))
theorem U0{w0 a0 S0 Q}(h:OK (AP (En w0)) a0 S0 Q):AC w0 Jg [(.int .i64 a0)] S0 Q:=Ac w0 Tryz.func160 (by kernel_rfl) (by kernel_rfl) h
def Oe(Ca:CaT)(a0a:List (List AV))(a0ar:Rt)(a0b a1a:Int)(a1b:List UInt8)(a1c a1d a1e:Int)(a1f a2a:List UInt8)(a2ba a2bba a2bbb:Int)(a2bc:List (List AV))(a2bcr:Rt)(S0:St)(Q:QT):Prop:=
 AA (DT AK (.agg [(.vs 2 a0a a0ar),(.int .i64 a0b)])) fun c3=>
 AA (DT BQ (.agg [(.int .i64 a1a),(.str a1b),(.int .i64 a1c),(.int .i64 a1d),(.int .i64 a1e),(.str a1f)])) fun c4=>
 AA (DT Aj (.agg [(.str a2a),(.int .i64 a2ba),(.int .i64 a2bba),(.int .i64 a2bbb),(.vs 2 a2bc a2bcr)])) fun c5=>
 AA (AD AK (some c3) 0) fun t8=>
 AA (some c5) fun _=>
 AA (some c5) fun _=>
 AA (some c5) fun _=>
 AA (AD AN (some c5) 2) fun t12=>
 AU Ca Da [(AV.strip t8),(AV.strip t12)] S0 fun t13 S=>
 AA (some c4) fun _=>
 AA (AD AN (some c4) 0) fun t16=>
 AA (AJ .eql (AV.strip t16) (.int .i64 1)) fun t17=>
 AL (fun (x20:AV)=>
 AA (AZ (AV.strip t17) x20 (.bool false)) fun t21=>
 ifK (AV.strip t21)
 (AA (some c5) fun _=>
 AA (some c5) fun _=>
 AA (AD AN (some c5) 1) fun t24=>
 AA (BV AB 1 [(1,(AV.strip t24)),(3,(.int .i64 (-1)))]) fun t25=>
 AA (AI AB (some AB.zero) 0 t25) fun b6=>
 AA ((AD AB (some b6) 0).map AV.strip) fun r6=>
 Q r6 S)
 (AA (some c4) fun _=>
 AA (AD AN (some c4) 0) fun t28=>
 AA (AJ .eql (AV.strip t28) (.int .i64 1)) fun t29=>
 ifK t29
 (AA (some c5) fun _=>
 AA (some c5) fun _=>
 AA (AD AN (some c5) 1) fun t32=>
 AA (AD AK (some c3) 0) fun t33=>
 AA (some c5) fun _=>
 AA (some c5) fun _=>
 AA (some c5) fun _=>
 AA (AD AN (some c5) 2) fun t37=>
 AU Ca Il [(AV.strip t33),(AV.strip t37)] S fun t38 S_2=>
 AA (BV AB 1 [(1,(AV.strip t32)),(3,t38)]) fun t39=>
 AA (AI AB (some AB.zero) 0 t39) fun b6_2=>
 AA ((AD AB (some b6_2) 0).map AV.strip) fun r6_2=>
 Q r6_2 S_2)
 (AA (some c4) fun _=>
 AA (AD AN (some c4) 0) fun t42=>
 AA (AJ .eql (AV.strip t42) (.int .i64 2)) fun t43=>
 AL (fun (x48:AV)=>
 AA (AZ (AV.strip t43) x48 (.bool false)) fun t49=>
 ifK (AV.strip t49)
 (AA (some c5) fun _=>
 AA (some c5) fun _=>
 AA (AD AN (some c5) 1) fun t52=>
 AA (BV AB 1 [(1,(AV.strip t52))]) fun t53=>
 AA (AI AB (some AB.zero) 0 t53) fun b6_3=>
 AA ((AD AB (some b6_3) 0).map AV.strip) fun r6_3=>
 Q r6_3 S)
 (AA (some c4) fun _=>
 AA (AD AN (some c4) 0) fun t56=>
 AA (AJ .eql (AV.strip t56) (.int .i64 2)) fun t57=>
 ifK t57
 (AA (some c5) fun _=>
 AA (some c5) fun _=>
 AA (AD AN (some c5) 1) fun t60=>
 AA (some c5) fun _=>
 AA (some c5) fun _=>
 AA (some c5) fun _=>
 AA (AD AN (some c5) 3) fun t65=>
 AU Ca GW [(AV.strip t13),(AV.strip t65)] S fun t66 S_3=>
 AA (BV AB 1 [(1,(AV.strip t60)),(2,t66)]) fun t67=>
 AA (AI AB (some AB.zero) 0 t67) fun b6_4=>
 AA ((AD AB (some b6_4) 0).map AV.strip) fun r6_4=>
 Q r6_4 S_3)
 (AA (some c4) fun _=>
 AA (AD AN (some c4) 0) fun t70=>
 AA (AJ .eql (AV.strip t70) (.int .i64 3)) fun t71=>
 AL (fun (x76:AV)=>
 AA (AZ (AV.strip t71) x76 (.bool false)) fun t77=>
 ifK (AV.strip t77)
 (AA (some c5) fun _=>
 AA (some c5) fun _=>
 AA (some c5) fun _=>
 AA (AD AN (some c5) 3) fun t82=>
 AU Ca Ec [(AV.strip t13),(AV.strip t82)] S fun t83 S_4=>
 AA (BV AB 1 [(5,t83)]) fun t84=>
 AA (AI AB (some AB.zero) 0 t84) fun b6_5=>
 AA ((AD AB (some b6_5) 0).map AV.strip) fun r6_5=>
 Q r6_5 S_4)
 (AA (some c4) fun _=>
 AA (AD AN (some c4) 0) fun t87=>
 AA (AJ .eql (AV.strip t87) (.int .i64 4)) fun t88=>
 AL (fun (x93:AV)=>
 AA (AZ (AV.strip t88) x93 (.bool false)) fun t94=>
 ifK (AV.strip t94)
 (Ca E9 [(.int .i64 5)] S fun t95 S_5=>
 AA (AI AB (some AB.zero) 0 t95) fun b6_6=>
 AA ((AD AB (some b6_6) 0).map AV.strip) fun r6_6=>
 Q r6_6 S_5)
 (AA (some c4) fun _=>
 AA (AD AN (some c4) 0) fun t98=>
 AA (AJ .eql (AV.strip t98) (.int .i64 4)) fun t99=>
 ifK t99
 (AA (some c5) fun _=>
 AA (some c5) fun _=>
 AA (some c5) fun _=>
 AA (AD AN (some c5) 3) fun t104=>
 AA (some c4) fun _=>
 AA (AD AN (some c4) 2) fun t106=>
 AA (some c4) fun _=>
 AA (AD AN (some c4) 3) fun t108=>
 AU Ca GH [(AV.strip t13),(AV.strip t104),(AV.strip t106),(AV.strip t108)] S fun t109 S_6=>
 AA (BV AB 1 [(5,t109)]) fun t110=>
 AA (AI AB (some AB.zero) 0 t110) fun b6_7=>
 AA ((AD AB (some b6_7) 0).map AV.strip) fun r6_7=>
 Q r6_7 S_6)
 (Ca E9 [(.int .i64 1)] S fun t111 S_7=>
 AA (AI AB (some AB.zero) 0 t111) fun b6_8=>
 AA ((AD AB (some b6_8) 0).map AV.strip) fun r6_8=>
 Q r6_8 S_7))) fun j=>
 ifK (AV.strip t88)
 (AA (some c5) fun _=>
 AA (some c5) fun _=>
 AA (AD AN (some c5) 1) fun t92=>
 AA (AJ .eql (AV.strip t92) (.int .i64 2)) fun t93=>
 j t93)
 (j (.tup [])))) fun j_2=>
 ifK (AV.strip t71)
 (AA (some c5) fun _=>
 AA (some c5) fun _=>
 AA (AD AN (some c5) 1) fun t75=>
 AA (AJ .eql (AV.strip t75) (.int .i64 3)) fun t76=>
 j_2 t76)
 (j_2 (.tup []))))) fun j_3=>
 ifK (AV.strip t43)
 (AA (some c5) fun _=>
 AA (some c5) fun _=>
 AA (AD AN (some c5) 1) fun t47=>
 AA (AJ .eql (AV.strip t47) (.int .i64 2)) fun t48=>
 j_3 t48)
 (j_3 (.tup []))))) fun j_4=>
 ifK (AV.strip t17)
 (AA (Gw .ptr .eql (AV.strip t13) .nil) fun t20=>
 j_4 t20)
 (j_4 (.tup []))
theorem WD{w0 a0a a0ar a0b a1a a1b a1c a1d a1e a1f a2a a2ba a2bba a2bbb a2bc a2bcr S0 Q}(h:Oe (AP (En w0)) a0a a0ar a0b a1a a1b a1c a1d a1e a1f a2a a2ba a2bba a2bbb a2bc a2bcr S0 Q):AC w0 Ks [(.agg [(.vs 2 a0a a0ar),(.int .i64 a0b)]),(.agg [(.int .i64 a1a),(.str a1b),(.int .i64 a1c),(.int .i64 a1d),(.int .i64 a1e),(.str a1f)]),(.agg [(.str a2a),(.int .i64 a2ba),(.int .i64 a2bba),(.int .i64 a2bbb),(.vs 2 a2bc a2bcr)])] S0 Q:=Ac w0 Tryz.func161 (by kernel_rfl) (by kernel_rfl) h
def DZ(Ca:CaT)(a0:List (List AV))(a0r:Rt)(a1:AV)(S0:St)(Q:QT):Prop:=
 AL (fun (S_3:St)=>
 Q (.int .i64 (-1)) S_3) fun j=>
 Bo ([(.int .i64 0)],[]) (fun v bx=>([v 8],[])) (fun nx v bx S=>
 AA (AJ .lss (v 8) (.int .i64 (List.length a0:Int))) fun t9=>
 ifK t9
 (AA (Aa C0 (.vs 2 a0 (Rt.strip a0r)) (AV.strip (AV.strip (v 8)))) fun t14=>
 AA (AO C0 S t14) fun t15=>
 AA (Sk (AV.strip a1) [(AV.strip t15)]) fun a=>
 Ca a.1 a.2 S fun t16 S_2=>
 ifK t16
 (Q (AV.strip (AV.strip (v 8))) S_2)
 (AA (AJ .add (v 8) (.int .i64 1)) fun t18=>
 nx ([(AV.strip t18)],[]) S_2))
 (j S)) S0
theorem FE{w0 a0 a0r a1 S0 Q}(h:DZ (AP (En w0)) a0 a0r a1 S0 Q):AC w0 Ce [(.vs 2 a0 a0r),a1] S0 Q:=Ac w0 Tryz.func162 (by kernel_rfl) (by kernel_rfl) h
def Ho(Ca:CaT)(a0a:Int)(a0b a1:AV)(S0:St)(Q:QT):Prop:=
 AA (DT C0 (.agg [(.int .i64 a0a),a0b])) fun c2=>
 AA (some c2) fun _=>
 AA (AD AN (some c2) 0) fun t5=>
 AA (AO AN S0 a1) fun t6=>
 AA (AJ .eql (AV.strip t5) (AV.strip t6)) fun t7=>
 Q t7 S0
theorem Mr{w0 a0a a0b a1 S0 Q}(h:Ho (AP (En w0)) a0a a0b a1 S0 Q):AC w0 Ed [(.agg [(.int .i64 a0a),a0b]),a1] S0 Q:=Ac w0 Tryz.func163 (by kernel_rfl) (by kernel_rfl) h
def G_ref19_digit(Ca:CaT)(a0:Int)(S0:St)(Q:QT):Prop:=
 ifK (.bool (decide (a0 < 10)))
 (Q (.int .u8 (IntKind.u8.wrap (IntKind.i64.wrap (48+a0)))) S0)
 (Q (.int .u8 (IntKind.u8.wrap (IntKind.i64.wrap ((IntKind.i64.wrap (97+a0)) - 10)))) S0)
theorem ref19_digit_ok{w0 a0 S0 Q}(h:G_ref19_digit (AP (En w0)) a0 S0 Q):AC w0 F_ref19_digit [(.int .i64 a0)] S0 Q:=Ac w0 Tryz.func175 (by kernel_rfl) (by kernel_rfl) h
def Sp(Ca:CaT)(a0a:Int)(a0b:Bool)(a0c:List (List AV))(a0cr:Rt)(a0d:List (List AV))(a0dr:Rt)(a0e:Int)(a0f:List (List AV))(a0fr:Rt)(a0g:List UInt8)(S0:St)(Q:QT):Prop:=
 AA (DT AF (.agg [(.int .i64 a0a),(.bool a0b),(.vs 1 a0c a0cr),(.vs 7 a0d a0dr),(.int .i64 a0e),(.vs 2 a0f a0fr),(.str a0g)])) fun c1=>
 AA (Bx AN (S0++[Obj.cells AN.zero EV]) (.ptr S0.length 0) (.int .i64 4096)) fun S=>
 AA (some c1) fun _=>
 AA (AD AN (some c1) 0) fun t5=>
 AA (AJ .eql (AV.strip t5) (.int .i64 2)) fun t6=>
 AL (fun (x9:AV) (S_3:St)=>
 AA (AZ (AV.strip t6) x9 (.bool false)) fun t10=>
 Q (AV.strip t10) S_3) fun j=>
 ifK (AV.strip t6)
 (AA (AD AF (some c1) 0) fun t8=>
 AU Ca KA [(AV.strip t8),(.int .i64 0),(.ptr S0.length 0)] S fun t9 S_2=>
 j t9 S_2)
 (j (.tup []) S)
theorem Zx{w0 a0a a0b a0c a0cr a0d a0dr a0e a0f a0fr a0g S0 Q}(h:Sp (AP (En w0)) a0a a0b a0c a0cr a0d a0dr a0e a0f a0fr a0g S0 Q):AC w0 J8 [(.agg [(.int .i64 a0a),(.bool a0b),(.vs 1 a0c a0cr),(.vs 7 a0d a0dr),(.int .i64 a0e),(.vs 2 a0f a0fr),(.str a0g)])] S0 Q:=Ac w0 Tryz.func176 (by kernel_rfl) (by kernel_rfl) h
def Jw(Ca:CaT)(a0 a0o:Nat)(a1a:Int)(a1b:Bool)(a1c:List (List AV))(a1cr:Rt)(a1d:List (List AV))(a1dr:Rt)(a1e:Int)(a1f:List (List AV))(a1fr:Rt)(a1g:List UInt8)(S0:St)(Q:QT):Prop:=
 AA (DT AF (.agg [(.int .i64 a1a),(.bool a1b),(.vs 1 a1c a1cr),(.vs 7 a1d a1dr),(.int .i64 a1e),(.vs 2 a1f a1fr),(.str a1g)])) fun c3=>
 AA (AO Bw S0 (.ptr a0 (a0o+0))) fun t12=>
 AA (A9 (AV.strip t12)) fun t13=>
 AA (AO Bw S0 (.ptr a0 (a0o+0))) fun t18=>
 AA (appendR A4 (stripMem S0 (.ptr a0 (a0o+0))) (AV.strip0 t18) (.vs 8 [A4.zero] .full)) fun p21=>
 AA (Bx Bw p21.2 (.ptr a0 (a0o+0)) p21.1) fun S=>
 AA (AD AF (some c3) 0) fun t24=>
 AA (BV A4 1 [(0,(AV.strip t24))]) fun t25=>
 AA (AI A4 (some A4.zero) 0 t25) fun b6=>
 AL (fun (y6:Option (List AV)) (S_4:St)=>
 AA (some c3) fun _=>
 AA (AD AX (some c3) 2) fun t43=>
 AA (some c3) fun _=>
 AA (AD Bc (some c3) 5) fun t46=>
 AA y6 fun _=>
 AA y6 fun _=>
 AU Ca B9 [(AV.strip t43)] S_4 fun t44 S_5=>
 AU Ca C7 [(AV.strip t46)] S_5 fun t47 S_6=>
 AA (AI Ad y6 3 (.vs 7 [] .nil)) fun b6_3=>
 AA (some b6_3) fun _=>
 AA (some b6_3) fun _=>
 AA (AI AX (some b6_3) 2 t44) fun b6_4=>
 AA (some b6_4) fun _=>
 AA (some b6_4) fun _=>
 AA (AI Bc (some b6_4) 5 t47) fun b6_5=>
 AA (AO Bw S_6 (.ptr a0 (a0o+0))) fun t57=>
 AA (AD A4 (some b6_5) 0) fun t59=>
 AA (Aa A4 (AV.strip t57) (AV.strip t13)) fun t60=>
 AA (Bx A4 S_6 t60 (AV.strip t59)) fun S_7=>
 Q (AV.strip t13) S_7) fun j=>
 AA (some c3) fun _=>
 AA (AD Ad (some c3) 3) fun t27=>
 AA (A9 (AV.strip t27)) fun t28=>
 Bo ([(.int .i64 0)],[(some b6)]) (fun v bx=>([v 29],[bx 6])) (fun nx v bx S_2=>
 AA (AJ .lss (v 29) t28) fun t30=>
 ifK t30
 (AA (Aa AF (AV.strip t27) (v 29)) fun t31=>
 AA (AO AF S_2 t31) fun t32=>
 AA (AI AF (some AF.zero) 0 (AV.strip t32)) fun b8=>
 AA (bx 6) fun _=>
 AA (AD AF (some b8) 0) fun t36=>
 AA (AD Fh (bx 6) 7) fun t34=>
 AU Ca FH [(.ptr a0 a0o),(AV.strip t36)] S_2 fun t37 S_3=>
 AA (BY 1 [t37]) fun e38=>
 AA (AT AN S_3 (AV.strip0 t34) (.vs 1 e38 .full)) fun t39=>
 AA (CJ (bx 6) 7) fun _=>
 AA (AI Fh (CJ (bx 6) 7) 7 t39) fun b6_2=>
 AA (AJ .add (v 29) (.int .i64 1)) fun t41=>
 nx ([(AV.strip t41)],[(some b6_2)]) S_3)
 (j (bx 6) S_2)) S
theorem O4{w0 a0 a0o a1a a1b a1c a1cr a1d a1dr a1e a1f a1fr a1g S0 Q}(h:Jw (AP (En w0)) a0 a0o a1a a1b a1c a1cr a1d a1dr a1e a1f a1fr a1g S0 Q):AC w0 FH [(.ptr a0 a0o),(.agg [(.int .i64 a1a),(.bool a1b),(.vs 1 a1c a1cr),(.vs 7 a1d a1dr),(.int .i64 a1e),(.vs 2 a1f a1fr),(.str a1g)])] S0 Q:=Ac w0 Tryz.func177 (by kernel_rfl) (by kernel_rfl) h
def Vr(Ca:CaT)(a0a:Int)(a0b:Bool)(a0c:List (List AV))(a0cr:Rt)(a0d:List (List AV))(a0dr:Rt)(a0e:Int)(a0f:List (List AV))(a0fr:Rt)(a0g:List UInt8)(S0:St)(Q:QT):Prop:=
 AA (DT AF (.agg [(.int .i64 a0a),(.bool a0b),(.vs 1 a0c a0cr),(.vs 7 a0d a0dr),(.int .i64 a0e),(.vs 2 a0f a0fr),(.str a0g)])) fun c1=>
 AA (some c1) fun _=>
 AA (AD Dg (some c1) 1) fun t8=>
 AA (unA .not (AV.strip t8)) fun t9=>
 AL (fun (x14:AV)=>
 AA (AZ (AV.strip t9) x14 (.bool false)) fun t15=>
 AL (fun (x20:AV)=>
 AA (AZ (AV.strip (AV.strip t15)) x20 (.bool false)) fun t21=>
 AA (some c1) fun _=>
 AA (AD AN (some c1) 4) fun t23=>
 AA (AJ .eql (AV.strip t23) (.int .i64 0)) fun t24=>
 AL (fun (x29:AV)=>
 AA (AZ (AV.strip t24) x29 (.bool false)) fun t30=>
 AA (some c1) fun _=>
 AA (AD AN (some c1) 0) fun t32=>
 AA (AJ .eql (AV.strip t32) (.int .i64 1)) fun t34=>
 ifK t34
 (AL (fun (x39:AV)=>
 AA (AZ (AV.strip (AV.strip (AV.strip t21))) x39 (.bool false)) fun t40=>
 AL (fun (x46:AV) (S_2:St)=>
 AA (AZ (AV.strip (AV.strip t40)) x46 (.bool false)) fun t47=>
 Q (AV.strip t47) S_2) fun j=>
 ifK (AV.strip (AV.strip t40))
 (AA (some c1) fun _=>
 AA (AD AN (some c1) 4) fun t43=>
 AA (some c1) fun _=>
 AA (AD Bc (some c1) 5) fun t45=>
 AU Ca MI [(AV.strip t43),(AV.strip t45)] S0 fun t46 S=>
 j t46 S)
 (j (.tup []) S0)) fun j_2=>
 ifK (AV.strip (AV.strip (AV.strip t21)))
 (AA (some c1) fun _=>
 AA (AD AG (some c1) 6) fun t38=>
 AA (AJ .eql (AV.strip t38) (.str [])) fun t39=>
 j_2 t39)
 (j_2 (.tup [])))
 (AA (AJ .eql (AV.strip t32) (.int .i64 2)) fun t49=>
 ifK t49
 (AL (fun (x54:AV)=>
 AA (AZ (AV.strip (AV.strip (AV.strip t30))) x54 (.bool false)) fun t55=>
 AL (fun (x58:AV) (S_4:St)=>
 AA (AZ (AV.strip (AV.strip t55)) x58 (.bool false)) fun t59=>
 Q (AV.strip t59) S_4) fun j_3=>
 ifK (AV.strip (AV.strip t55))
 (AA (AD AF (some c1) 0) fun t57=>
 AU Ca Jf [(AV.strip t57)] S0 fun t58 S_3=>
 j_3 t58 S_3)
 (j_3 (.tup []) S0)) fun j_4=>
 ifK (AV.strip (AV.strip (AV.strip t30)))
 (AA (some c1) fun _=>
 AA (AD AG (some c1) 6) fun t53=>
 AA (AJ .eql (AV.strip t53) (.str [])) fun t54=>
 j_4 t54)
 (j_4 (.tup [])))
 (AA (AJ .eql (AV.strip t32) (.int .i64 3)) fun t61=>
 ifK t61
 (AA (some c1) fun _=>
 AA (AD AG (some c1) 6) fun t64=>
 AU Ca Fx [(AV.strip t64)] S0 fun t65 S_5=>
 AA (AM t65 0) fun t66=>
 AA (AM (AS t65 0) 1) fun t67=>
 AL (fun (x70:AV)=>
 AA (AZ (AV.strip (AV.strip (AV.strip t21))) x70 (.bool false)) fun t71=>
 AL (fun (x73:AV)=>
 AA (AZ (AV.strip (AV.strip t71)) x73 (.bool false)) fun t74=>
 AL (fun (x79:AV)=>
 AA (AZ (AV.strip (AV.strip t74)) x79 (.bool false)) fun t80=>
 Q (AV.strip t80) S_5) fun j_5=>
 ifK (AV.strip (AV.strip t74))
 (AA (some c1) fun _=>
 AA (AD AG (some c1) 6) fun t77=>
 AA (DN (AV.strip t77)) fun t78=>
 AA (AJ .leq t78 (.int .i64 256)) fun t79=>
 j_5 t79)
 (j_5 (.tup []))) fun j_6=>
 ifK (AV.strip (AV.strip t71))
 (j_6 (AV.strip t67))
 (j_6 (.tup []))) fun j_7=>
 ifK (AV.strip (AV.strip (AV.strip t21)))
 (j_7 (AV.strip (AV.strip t30)))
 (j_7 (.tup [])))
 (AA (AJ .eql (AV.strip t32) (.int .i64 4)) fun t82=>
 ifK t82
 (AL (fun (x85:AV)=>
 AA (AZ (AV.strip (AV.strip (AV.strip t21))) x85 (.bool false)) fun t86=>
 AL (fun (x90:AV)=>
 AA (AZ (AV.strip (AV.strip t86)) x90 (.bool false)) fun t91=>
 Q (AV.strip t91) S0) fun j_8=>
 ifK (AV.strip (AV.strip t86))
 (AA (some c1) fun _=>
 AA (AD AG (some c1) 6) fun t89=>
 AA (AJ .eql (AV.strip t89) (.str [])) fun t90=>
 j_8 t90)
 (j_8 (.tup []))) fun j_9=>
 ifK (AV.strip (AV.strip (AV.strip t21)))
 (j_9 (AV.strip (AV.strip t30)))
 (j_9 (.tup [])))
 (Q (.bool false) S0))))) fun j_10=>
 ifK (AV.strip t24)
 (AA (some c1) fun _=>
 AA (AD Bc (some c1) 5) fun t27=>
 AA (A9 (AV.strip t27)) fun t28=>
 AA (AJ .eql t28 (.int .i64 0)) fun t29=>
 j_10 t29)
 (j_10 (.tup []))) fun j_11=>
 ifK (AV.strip (AV.strip t15))
 (AA (some c1) fun _=>
 AA (AD Ad (some c1) 3) fun t18=>
 AA (A9 (AV.strip t18)) fun t19=>
 AA (AJ .eql t19 (.int .i64 0)) fun t20=>
 j_11 t20)
 (j_11 (.tup []))) fun j_12=>
 ifK (AV.strip t9)
 (AA (some c1) fun _=>
 AA (AD AX (some c1) 2) fun t12=>
 AA (A9 (AV.strip t12)) fun t13=>
 AA (AJ .eql t13 (.int .i64 0)) fun t14=>
 j_12 t14)
 (j_12 (.tup []))
theorem bS{w0 a0a a0b a0c a0cr a0d a0dr a0e a0f a0fr a0g S0 Q}(h:Vr (AP (En w0)) a0a a0b a0c a0cr a0d a0dr a0e a0f a0fr a0g S0 Q):AC w0 PY [(.agg [(.int .i64 a0a),(.bool a0b),(.vs 1 a0c a0cr),(.vs 7 a0d a0dr),(.int .i64 a0e),(.vs 2 a0f a0fr),(.str a0g)])] S0 Q:=Ac w0 Tryz.func183 (by kernel_rfl) (by kernel_rfl) h
def TY(Ca:CaT)(a0:List UInt8)(S0:St)(Q:QT):Prop:=
 AL (fun (x7:AV)=>
 AA (AZ (.bool (!(a0==[]))) x7 (.bool false)) fun t8=>
 AL (fun (x11:AV)=>
 AA (AZ (AV.strip (AV.strip t8)) x11 (.bool false)) fun t12=>
 AL (fun (x16:AV)=>
 AA (AZ (AV.strip (AV.strip t12)) x16 (.bool false)) fun t17=>
 AL (fun (x21:AV) (S_2:St)=>
 AA (AZ (AV.strip (AV.strip t17)) x21 (.bool false)) fun t22=>
 Q (AV.strip t22) S_2) fun j=>
 ifK (AV.strip (AV.strip t17))
 (Ca Ib [(.str a0),(.str [47,0])] S0 fun t20 S=>
 AA (unA .not t20) fun t21=>
 j t21 S)
 (j (.tup []) S0)) fun j_2=>
 ifK (AV.strip (AV.strip t12))
 (j_2 (.bool (decide ((List.length a0:Int)≤64))))
 (j_2 (.tup []))) fun j_3=>
 ifK (AV.strip (AV.strip t8))
 (j_3 (.bool (!(a0==[46,46]))))
 (j_3 (.tup []))) fun j_4=>
 ifK (.bool (!(a0==[])))
 (j_4 (.bool (!(a0==[46]))))
 (j_4 (.tup []))
theorem ZR{w0 a0 S0 Q}(h:TY (AP (En w0)) a0 S0 Q):AC w0 KN [(.str a0)] S0 Q:=Ac w0 Tryz.func185 (by kernel_rfl) (by kernel_rfl) h
def EM(Ca:CaT)(a0:List (List AV))(a0r:Rt)(a1:List UInt8)(S0:St)(Q:QT):Prop:=
 AL (fun (x7:AV) (S_3:St)=>
 AA (AJ .lss (AV.strip x7) (.int .i64 (List.length a0:Int))) fun t34=>
 AL (fun (x52:AV) (S_8:St)=>
 AA (AZ (AV.strip t34) x52 (.bool false)) fun t53=>
 Q (.tup [(AV.flat (AV.strip x7)),(AV.flat (AV.strip t53))]) S_8) fun j_3=>
 ifK (AV.strip t34)
 (AA (Aa AG (.vs 1 a0 (Rt.strip a0r)) (AV.strip x7)) fun t38=>
 AA (AO AG S_3 t38) fun t39=>
 AA (AJ .eql (AV.strip t39) (.str a1)) fun t41=>
 AL (fun (x51:AV) (S_7:St)=>
 AA (AZ (AV.strip t41) (.bool true) x51) fun t52=>
 j_3 (AV.strip t52) S_7) fun j_2=>
 gK (AV.strip t41)
 (j_2 (.tup []) S_3)
 (AA (Aa AG (.vs 1 a0 (Rt.strip a0r)) (AV.strip x7)) fun t45=>
 AA (AO AG S_3 t45) fun t46=>
 AU Ca F4 [(AV.strip t46)] S_3 fun t47 S_4=>
 AL (fun (x50:AV) (S_6:St)=>
 AA (AZ (AV.strip t47) x50 (.bool false)) fun t51=>
 j_2 (AV.strip t51) S_6) fun j=>
 gK (AV.strip t47)
 (Ca F4 [(.str a1)] S_4 fun t50 S_5=>
 j t50 S_5)
 (j (.tup []) S_4)
 (j (.tup []) S_4))
 (j_2 (.tup []) S_3))
 (j_3 (.tup []) S_3)) fun j_4=>
 Bo ([(.int .i64 0),(.int .i64 (List.length a0:Int))],[]) (fun v bx=>([v 7,v 8],[])) (fun nx v bx S=>
 AA (AJ .lss (AV.strip (v 7)) (AV.strip (v 8))) fun t15=>
 ifK t15
 (AA (AJ .add (AV.strip (v 7)) (AV.strip (v 8))) fun t18=>
 AA (Gz .u64 t18) fun t19=>
 AA (AJ .shr t19 (.int .u64 1)) fun t20=>
 AA (Gz .i64 t20) fun t21=>
 AA (Aa AG (.vs 1 a0 (Rt.strip a0r)) (AV.strip t21)) fun t24=>
 AA (AO AG S t24) fun t25=>
 AU Ca H0 [(AV.strip t25),(.str a1)] S fun t27 S_2=>
 ifK t27
 (AA (AJ .add (AV.strip t21) (.int .i64 1)) fun t29=>
 nx ([t29,(v 8)],[]) S_2)
 (nx ([(v 7),(AV.strip t21)],[]) S_2))
 (j_4 (v 7) S)) S0
theorem GI{w0 a0 a0r a1 S0 Q}(h:EM (AP (En w0)) a0 a0r a1 S0 Q):AC w0 DC [(.vs 1 a0 a0r),(.str a1)] S0 Q:=Ac w0 Tryz.func186 (by kernel_rfl) (by kernel_rfl) h
def Q4(Ca:CaT)(a0:List UInt8)(S0:St)(Q:QT):Prop:=
 AL (fun (x8:AV)=>
 AA (AZ (.bool (a0==[])) (.bool true) x8) fun t9=>
 AL (fun (x12:AV)=>
 AA (AZ (AV.strip (AV.strip t9)) (.bool true) x12) fun t13=>
 AL (fun (x17:AV)=>
 AA (AZ (AV.strip (AV.strip t13)) (.bool true) x17) fun t18=>
 ifK (AV.strip t18)
 (Q (.bool false) S0)
 (AL (fun (S_2:St)=>
 Q (.bool true) S_2) fun j_5=>
 Bo ([(.int .i64 0)],[]) (fun v bx=>([v 3],[])) (fun nx v bx S=>
 AA (AJ .lss (AV.strip (v 3)) (.int .i64 (List.length a0:Int))) fun t22=>
 ifK t22
 (AA (Fd (.str a0) (AV.strip (v 3))) fun t27=>
 AA (AJ .eql t27 (.int .u8 47)) fun t28=>
 AL (fun (x33:AV)=>
 AA (AZ (AV.strip t28) (.bool true) x33) fun t34=>
 ifK (AV.strip t34)
 (Q (.bool false) S)
 (AA (AJ .add (AV.strip (v 3)) (.int .i64 1)) fun t24=>
 nx ([t24],[]) S)) fun j_4=>
 ifK (AV.strip t28)
 (j_4 (.tup []))
 (AA (Fd (.str a0) (AV.strip (v 3))) fun t32=>
 AA (AJ .eql t32 (.int .u8 0)) fun t33=>
 j_4 t33))
 (j_5 S)) S0)) fun j=>
 ifK (AV.strip (AV.strip t13))
 (j (.tup []))
 (j (.bool (decide ((List.length a0:Int) > 64))))) fun j_2=>
 ifK (AV.strip (AV.strip t9))
 (j_2 (.tup []))
 (j_2 (.bool (a0==[46,46])))) fun j_3=>
 ifK (.bool (a0==[]))
 (j_3 (.tup []))
 (j_3 (.bool (a0==[46])))
theorem Xw{w0 a0 S0 Q}(h:Q4 (AP (En w0)) a0 S0 Q):AC w0 I6 [(.str a0)] S0 Q:=Ac w0 Tryz.func189 (by kernel_rfl) (by kernel_rfl) h
def Sq(Ca:CaT)(a0 a1:List UInt8)(S0:St)(Q:QT):Prop:=
 AL (fun (S_2:St)=>
 Q (.bool (decide ((List.length a0:Int) < (List.length a1:Int)))) S_2) fun j_2=>
 Bo ([(.int .i64 0)],[]) (fun v bx=>([v 5],[])) (fun nx v bx S=>
 AA (AJ .lss (AV.strip (v 5)) (.int .i64 (List.length a0:Int))) fun t9=>
 AL (fun (x14:AV)=>
 AA (AZ (AV.strip t9) x14 (.bool false)) fun t15=>
 ifK (AV.strip t15)
 (AA (Fd (.str a0) (AV.strip (v 5))) fun t20=>
 AA (Fd (.str a1) (AV.strip (v 5))) fun t23=>
 AA (AJ .neq t20 t23) fun t24=>
 ifK t24
 (AA (Fd (.str a0) (AV.strip (v 5))) fun t27=>
 AA (Fd (.str a1) (AV.strip (v 5))) fun t30=>
 AA (AJ .lss t27 t30) fun t31=>
 Q t31 S)
 (AA (AJ .add (AV.strip (v 5)) (.int .i64 1)) fun t17=>
 nx ([t17],[]) S))
 (j_2 S)) fun j=>
 ifK (AV.strip t9)
 (AA (AJ .lss (AV.strip (v 5)) (.int .i64 (List.length a1:Int))) fun t14=>
 j t14)
 (j (.tup []))) S0
theorem ZP{w0 a0 a1 S0 Q}(h:Sq (AP (En w0)) a0 a1 S0 Q):AC w0 J3 [(.str a0),(.str a1)] S0 Q:=Ac w0 Tryz.func191 (by kernel_rfl) (by kernel_rfl) h
def IV(Ca:CaT)(a0 a0o:Nat)(a1:Int)(S0:St)(Q:QT):Prop:=
 Ca Cr [(.ptr a0 a0o),(.int .i64 a1)] S0 fun t7 S=>
 AA (JY AF t7 0) fun t8=>
 AA (JY AX (AV.strip t8) 2) fun t9=>
 AU Ca B9 [(AV.strip t9)] S fun t10 S_2=>
 Q t10 S_2
theorem Nr{w0 a0 a0o a1 S0 Q}(h:IV (AP (En w0)) a0 a0o a1 S0 Q):AC w0 F3 [(.ptr a0 a0o),(.int .i64 a1)] S0 Q:=Ac w0 Tryz.func196 (by kernel_rfl) (by kernel_rfl) h
def T4(Ca:CaT)(a0:List (List AV))(a0r:Rt)(S0:St)(Q:QT):Prop:=
 AL (fun (x3_2:AV) (S_2:St)=>
 Q (AV.strip x3_2) S_2) fun j_3=>
 Bo ([(.vs 2 [] .nil),(.int .i64 0)],[]) (fun v bx=>([v 3,v 8],[])) (fun nx v bx S=>
 AA (AJ .lss (v 8) (.int .i64 (List.length a0:Int))) fun t9=>
 ifK t9
 (AL (fun (x3:AV)=>
 AA (AJ .add (v 8) (.int .i64 1)) fun t30=>
 nx ([x3,(AV.strip t30)],[]) S) fun j_2=>
 AA (Aa BO (.vs 2 a0 (Rt.strip a0r)) (v 8)) fun t11=>
 AA (AO BO S t11) fun t12=>
 AA (AI BO (some [(.str []),(.int .i64 0)]) 0 (AV.strip t12)) fun b5=>
 AA (AJ .eql (AV.strip (AV.strip (v 8))) (.int .i64 0)) fun t14=>
 AL (fun (x24:AV)=>
 AA (AZ (AV.strip t14) (.bool true) x24) fun t25=>
 ifK (AV.strip t25)
 (AA (AD BO (some b5) 0) fun t27=>
 AA (BY 2 [(AV.strip t27)]) fun e28=>
 AA (AT BO S (v 3) (.vs 2 e28 .full)) fun t29=>
 j_2 t29)
 (j_2 (v 3))) fun j=>
 ifK (AV.strip t14)
 (j (.tup []))
 (AA (AJ .sub (AV.strip (AV.strip (v 8))) (.int .i64 1)) fun t18=>
 AA (Aa BO (.vs 2 a0 (Rt.strip a0r)) t18) fun t19=>
 AA (BK t19 0) fun t20=>
 AA (AO AG S t20) fun t21=>
 AA (some b5) fun _=>
 AA (AD AG (some b5) 0) fun t23=>
 AA (AJ .neq (AV.strip t21) (AV.strip t23)) fun t24=>
 j t24))
 (j_3 (v 3) S)) S0
theorem ZL{w0 a0 a0r S0 Q}(h:T4 (AP (En w0)) a0 a0r S0 Q):AC w0 NH [(.vs 2 a0 a0r)] S0 Q:=Ac w0 Tryz.func197 (by kernel_rfl) (by kernel_rfl) h
def Sh(Ca:CaT)(a0:List (List AV))(a0r:Rt)(S0:St)(Q:QT):Prop:=
 AA (DT Fg (.agg [(.vs 3 [] .nil),(.fn Ch [] [])])) fun c10=>
 AL (fun (x4_2:AV) (S_4:St)=>
 AA (RP Df Cw (.ptr S0.length 0)) fun t44=>
 AU Ca NN [t44] S_4 fun t45 S_5=>
 AA (D3 BO false S_5 (.int .i64 0) (AV.strip x4_2)) fun p47=>
 AL (fun (x7:AV) (S_12:St)=>
 Q (AV.strip x7) S_12) fun j_2=>
 Bo ([p47.1],[]) (fun v_2 bx_2=>([v_2 7],[])) (fun nx_2 v_2 bx_2 S_6=>
 Ca FL [(.ptr S0.length 0)] S_6 fun t49 S_7=>
 AA (AJ .gtr t49 (.int .i64 0)) fun t50=>
 ifK t50
 (AA (AO Bh S_7 (.ptr S0.length 0)) fun t54=>
 AA (Aa BE (AV.strip t54) (.int .i64 0)) fun t55=>
 AA (Hq (AV.strip t55)) fun t58=>
 AA (BK t58 0) fun t59=>
 AA (AO BO S_7 t59) fun t60=>
 AA (BY 2 [(AV.strip t60)]) fun e61=>
 AA (AT BO S_7 (v_2 7) (.vs 2 e61 .full)) fun t62=>
 AA (Hq (AV.strip t55)) fun t64=>
 AA (BK t64 2) fun t65=>
 AA (AO AX S_7 t65) fun t66=>
 AA (A9 (AV.strip t66)) fun t67=>
 AA (AJ .eql t67 (.int .i64 0)) fun t68=>
 ifK t68
 (AA (RP Df Cw (.ptr S0.length 0)) fun t70=>
 AU Ca O9 [t70] S_7 fun t71 S_8=>
 nx_2 ([t62],[]) S_8)
 (AA (Hq (AV.strip t55)) fun t75=>
 AA (BK t75 2) fun t76=>
 AA (AO AX S_7 t76) fun t77=>
 AA (Aa AG (AV.strip t77) (.int .i64 0)) fun t78=>
 AA (AO AG S_7 t78) fun t79=>
 AA (Hq (AV.strip t55)) fun t81=>
 AA (BK t81 2) fun t82=>
 AA (AO AX S_7 t82) fun t83=>
 AA (Hq (AV.strip t55)) fun t85=>
 AA (BK t85 0) fun t86=>
 AA (BK t86 0) fun t87=>
 AA (Dk AG (AV.strip t83) (some (.int .i64 1)) none none) fun t84=>
 AA (Bx AG S_7 t87 (AV.strip t79)) fun S_9=>
 AA (Hq (AV.strip t55)) fun t88=>
 AA (BK t88 2) fun t89=>
 AA (Bx AX S_9 t89 t84) fun S_10=>
 AA (RP Df Cw (.ptr S0.length 0)) fun t91=>
 AU Ca Ot [t91,(.int .i64 0)] S_10 fun t92 S_11=>
 nx_2 ([t62],[]) S_11))
 (j_2 (v_2 7) S_7)) p47.2) fun j_3=>
 Bo ([(.int .i64 0),(.int .i64 0)],[]) (fun v bx=>([v 4,v 13],[])) (fun nx v bx S=>
 AA (AJ .lss (v 13) (.int .i64 (List.length a0:Int))) fun t14=>
 ifK t14
 (AL (fun (x4:AV) (S_3:St)=>
 AA (AJ .add (v 13) (.int .i64 1)) fun t42=>
 nx ([x4,(AV.strip t42)],[]) S_3) fun j=>
 AA (Aa AX (.vs 1 a0 (Rt.strip a0r)) (v 13)) fun t16=>
 AA (AO AX S t16) fun t17=>
 AA (A9 (AV.strip (AV.strip t17))) fun t20=>
 AA (AJ .add (AV.strip (v 4)) t20) fun t21=>
 AA (A9 (AV.strip (AV.strip t17))) fun t23=>
 AA (AJ .gtr t23 (.int .i64 0)) fun t24=>
 ifK t24
 (AA (Aa AG (AV.strip (AV.strip t17)) (.int .i64 0)) fun t31=>
 AA (AO AG S t31) fun t32=>
 AA (BV BO 1 [(0,(AV.strip t32)),(1,(AV.strip (AV.strip (v 13))))]) fun t34=>
 AA (Dk AG (AV.strip (AV.strip t17)) (some (.int .i64 1)) none none) fun t36=>
 AA (BV BE 1 [(0,t34),(1,t36)]) fun t37=>
 AA (BY 3 [t37]) fun e38=>
 AA (AO Bh S (.ptr S0.length 0)) fun t29=>
 (AA (AO AG (stripMem S (.ptr S0.length 0)) t31) fun t32_2=>
 ((AV.strip t32_2):AV)=(AV.strip t32))∧
 (AA (appendR BE (stripMem S (.ptr S0.length 0)) (AV.strip0 t29) (.vs 3 e38 .full)) fun p39=>
 AA (Bx Bh p39.2 (.ptr S0.length 0) p39.1) fun S_2=>
 j t21 S_2))
 (j t21 S))
 (j_3 (v 4) S)) (S0++[Obj.cells c10 Dh])
theorem Zu{w0 a0 a0r S0 Q}(h:Sh (AP (En w0)) a0 a0r S0 Q):AC w0 J0 [(.vs 1 a0 a0r)] S0 Q:=Ac w0 Tryz.func198 (by kernel_rfl) (by kernel_rfl) h
def VO(Ca:CaT)(a0:List UInt8)(S0:St)(Q:QT):Prop:=
 AA (DT FC (.agg [(.str a0)])) fun c5=>
 Q (.ptr S0.length 0) (S0++[Obj.cells c5 DQ])
theorem ba{w0 a0 S0 Q}(h:VO (AP (En w0)) a0 S0 Q):AC w0 VB [(.str a0)] S0 Q:=Ac w0 Tryz.func203 (by kernel_rfl) (by kernel_rfl) h
def Gq(Ca:CaT)(a0 a0o:Nat)(a1:Int)(S0:St)(Q:QT):Prop:=
 AL (fun (S_3:St)=>
 AA (AO Dg S_3 (.ptr a0 (a0o+1))) fun t32=>
 ifK (AV.strip t32)
 (Q (.agg AF.zero) S_3)
 (Ca Cb [(.ptr a0 a0o),(.int .i64 1)] S_3 fun t35 S_4=>
 AA (BV AF 1 [(0,t35)]) fun t36=>
 AA (AI AF (some AF.zero) 0 t36) fun b5=>
 AL (fun (y5:Option (List AV)) (S_17:St)=>
 AA (AD AF y5 0) fun t120=>
 AA (AI AF (some AF.zero) 0 (AV.strip t120)) fun b4=>
 AA ((AD AF (some b4) 0).map AV.strip) fun r4=>
 Q r4 S_17) fun j_5=>
 AA (some b5) fun _=>
 AA (AD AN (some b5) 0) fun t38=>
 AA (AJ .eql (AV.strip t38) (.int .i64 1)) fun t40=>
 ifK t40
 (Ca Cb [(.ptr a0 a0o),(.int .i64 4)] S_4 fun t42 S_5=>
 AA (some b5) fun _=>
 AA (AI AN (some b5) 4 t42) fun b5_2=>
 Ca Cb [(.ptr a0 a0o),(.int .i64 4)] S_5 fun t45 S_6=>
 Bo ([t45],[(some b5_2)]) (fun v bx=>([v 6],[bx 5])) (fun nx v bx S_7=>
 AA (AJ .gtr (AV.strip (v 6)) (.int .i64 0)) fun t47=>
 AL (fun (x53:AV)=>
 AA (AZ (AV.strip t47) x53 (.bool false)) fun t54=>
 ifK (AV.strip t54)
 (Ca Cb [(.ptr a0 a0o),(.int .i64 4)] S_7 fun t58 S_8=>
 AA (bx 5) fun _=>
 AA (AD Bc (bx 5) 5) fun t60=>
 Ca EY [(.ptr a0 a0o),(.int .i64 4)] S_8 fun t63 S_9=>
 AA (BV Ae 1 [(0,(AV.strip t58)),(1,t63)]) fun t64=>
 AA (BY 2 [t64]) fun e65=>
 AA (AT Ae S_9 (AV.strip0 t60) (.vs 2 e65 .full)) fun t66=>
 AA (CJ (bx 5) 5) fun _=>
 AA (AI Bc (CJ (bx 5) 5) 5 t66) fun b5_3=>
 AA (AJ .sub (AV.strip (v 6)) (.int .i64 1)) fun t56=>
 nx ([t56],[(some b5_3)]) S_9)
 (j_5 (bx 5) S_7)) fun j_2=>
 ifK (AV.strip t47)
 (AA (AO Dg S_7 (.ptr a0 (a0o+1))) fun t52=>
 AA (unA .not (AV.strip t52)) fun t53=>
 j_2 t53)
 (j_2 (.tup []))) S_6)
 (AA (AJ .eql (AV.strip t38) (.int .i64 2)) fun t69=>
 ifK t69
 (Ca Cb [(.ptr a0 a0o),(.int .i64 1)] S_4 fun t71 S_10=>
 AA (AJ .eql (AV.strip t71) (.int .i64 1)) fun t74=>
 AA (AO Dg S_10 (.ptr a0 (a0o+1))) fun t78=>
 AL (fun (x81:AV)=>
 AA (AZ (AV.strip (AV.strip t78)) (.bool true) x81) fun t82=>
 AA (some b5) fun _=>
 AA (AI Dg (some b5) 1 t74) fun b5_4=>
 AA (Bx Dg S_10 (.ptr a0 (a0o+1)) (AV.strip t82)) fun S_11=>
 Ca Cb [(.ptr a0 a0o),(.int .i64 2)] S_11 fun t87 S_12=>
 Bo ([t87],[(some b5_4)]) (fun v_2 bx_2=>([v_2 9],[bx_2 5])) (fun nx_2 v_2 bx_2 S_13=>
 AA (AJ .gtr (AV.strip (v_2 9)) (.int .i64 0)) fun t89=>
 AL (fun (x95:AV)=>
 AA (AZ (AV.strip t89) x95 (.bool false)) fun t96=>
 ifK (AV.strip t96)
 (AA (bx_2 5) fun _=>
 AA (AD AX (bx_2 5) 2) fun t100=>
 Ca EY [(.ptr a0 a0o),(.int .i64 1)] S_13 fun t102 S_14=>
 AA (BY 1 [t102]) fun e103=>
 AA (AT AG S_14 (AV.strip0 t100) (.vs 1 e103 .full)) fun t104=>
 AA (CJ (bx_2 5) 2) fun _=>
 AA (AI AX (CJ (bx_2 5) 2) 2 t104) fun b5_5=>
 AA (some b5_5) fun _=>
 AA (AD Ad (some b5_5) 3) fun t107=>
 Ca FI [(.ptr a0 a0o),(.int .i64 (IntKind.i64.wrap (a1+1)))] S_14 fun t111 S_15=>
 AA (BY 7 [t111]) fun e112=>
 AA (AT AF S_15 (AV.strip0 t107) (.vs 7 e112 .full)) fun t113=>
 AA (CJ (some b5_5) 3) fun _=>
 AA (AI Ad (CJ (some b5_5) 3) 3 t113) fun b5_6=>
 AA (AJ .sub (AV.strip (v_2 9)) (.int .i64 1)) fun t98=>
 nx_2 ([t98],[(some b5_6)]) S_15)
 (j_5 (bx_2 5) S_13)) fun j_3=>
 ifK (AV.strip t89)
 (AA (AO Dg S_13 (.ptr a0 (a0o+1))) fun t94=>
 AA (unA .not (AV.strip t94)) fun t95=>
 j_3 t95)
 (j_3 (.tup []))) S_12) fun j_4=>
 ifK (AV.strip (AV.strip t78))
 (j_4 (.tup []))
 (AA (AJ .gtr (AV.strip t71) (.int .i64 1)) fun t81=>
 j_4 t81))
 (AA (AJ .eql (AV.strip t38) (.int .i64 3)) fun t116=>
 ifK t116
 (Ca EY [(.ptr a0 a0o),(.int .i64 2)] S_4 fun t118 S_16=>
 AA (some b5) fun _=>
 AA (AI AG (some b5) 6 t118) fun b5_7=>
 j_5 (some b5_7) S_16)
 (j_5 (some b5) S_4))))) fun j_6=>
 AA (AO AN S0 (.ptr a0 (a0o+2))) fun t13=>
 AA (AJ .sub (AV.strip t13) (.int .i64 1)) fun t14=>
 AA (Bx AN S0 (.ptr a0 (a0o+2)) t14) fun S=>
 AA (AO AN S (.ptr a0 (a0o+2))) fun t20=>
 AA (AJ .lss (AV.strip t20) (.int .i64 0)) fun t21=>
 AL (fun (x24:AV)=>
 AA (AZ (AV.strip t21) (.bool true) x24) fun t25=>
 ifK (AV.strip t25)
 (AA (Bx Dg S (.ptr a0 (a0o+1)) (.bool true)) fun S_2=>
 j_6 S_2)
 (j_6 S)) fun j=>
 ifK (AV.strip t21)
 (j (.tup []))
 (j (.bool (decide (a1 > 15))))
theorem JV{w0 a0 a0o a1 S0 Q}(h:Gq (AP (En w0)) a0 a0o a1 S0 Q):AC w0 FI [(.ptr a0 a0o),(.int .i64 a1)] S0 Q:=Ac w0 Tryz.func204 (by kernel_rfl) (by kernel_rfl) h
def LE(Ca:CaT)(a0 a0o:Nat)(S0:St)(Q:QT):Prop:=
 AA (AO AG S0 (.ptr a0 (a0o+0))) fun t6=>
 AA (DN (AV.strip t6)) fun t7=>
 Q t7 S0
theorem QD{w0 a0 a0o S0 Q}(h:LE (AP (En w0)) a0 a0o S0 Q):AC w0 Ko [(.ptr a0 a0o)] S0 Q:=Ac w0 Tryz.func205 (by kernel_rfl) (by kernel_rfl) h
def Mp(Ca:CaT)(a0a:List (List AV))(a0ar:Rt)(a0b a1:Int)(S0:St)(Q:QT):Prop:=
 AA (DT AK (.agg [(.vs 2 a0a a0ar),(.int .i64 a0b)])) fun c2=>
 AL (fun (x12:AV)=>
 AA (AZ (.bool (decide (a1 < 0))) (.bool true) x12) fun t13=>
 ifK (AV.strip t13)
 (Q (.int .i64 (-1)) S0)
 (AA (some c2) fun _=>
 AA (AD CA (some c2) 0) fun t15=>
 AA (Aa C0 (AV.strip t15) (.int .i64 a1)) fun t17=>
 AA (BK t17 0) fun t18=>
 AA (AO AN S0 t18) fun t19=>
 Q (AV.strip t19) S0)) fun j=>
 ifK (.bool (decide (a1 < 0)))
 (j (.tup []))
 (AA (some c2) fun _=>
 AA (AD CA (some c2) 0) fun t10=>
 AA (A9 (AV.strip t10)) fun t11=>
 AA (AJ .geq (.int .i64 a1) t11) fun t12=>
 j t12)
theorem SY{w0 a0a a0ar a0b a1 S0 Q}(h:Mp (AP (En w0)) a0a a0ar a0b a1 S0 Q):AC w0 Il [(.agg [(.vs 2 a0a a0ar),(.int .i64 a0b)]),(.int .i64 a1)] S0 Q:=Ac w0 Tryz.func206 (by kernel_rfl) (by kernel_rfl) h
def JP(Ca:CaT)(a0 a0o:Nat)(a1:Int)(S0:St)(Q:QT):Prop:=
 Ca Cr [(.ptr a0 a0o),(.int .i64 a1)] S0 fun t7 S=>
 AA (JY AF t7 0) fun t8=>
 AA (JY AN (AV.strip t8) 4) fun t9=>
 Q (AV.strip t9) S
theorem OT{w0 a0 a0o a1 S0 Q}(h:JP (AP (En w0)) a0 a0o a1 S0 Q):AC w0 GW [(.ptr a0 a0o),(.int .i64 a1)] S0 Q:=Ac w0 Tryz.func207 (by kernel_rfl) (by kernel_rfl) h
def JW(Ca:CaT)(a0 a0o:Nat)(a1 a2 a3:Int)(S0:St)(Q:QT):Prop:=
 Ca Cr [(.ptr a0 a0o),(.int .i64 a1)] S0 fun t12 S=>
 AA (AI A4 (some A4.zero) 0 t12) fun b9=>
 AA (some b9) fun _=>
 AA (some b9) fun _=>
 AA (AD AN (some b9) 4) fun t15=>
 AA (some b9) fun _=>
 AA (some b9) fun _=>
 AA (AD Bc (some b9) 5) fun t18=>
 AU Ca L5 [(AV.strip t15),(AV.strip t18),(.int .i64 a2),(.int .i64 a3)] S fun t21 S_2=>
 Q t21 S_2
theorem OV{w0 a0 a0o a1 a2 a3 S0 Q}(h:JW (AP (En w0)) a0 a0o a1 a2 a3 S0 Q):AC w0 GH [(.ptr a0 a0o),(.int .i64 a1),(.int .i64 a2),(.int .i64 a3)] S0 Q:=Ac w0 Tryz.func208 (by kernel_rfl) (by kernel_rfl) h
def Sv(Ca:CaT)(a0a:Int)(a0b:Bool)(a0c:List (List AV))(a0cr:Rt)(a0d:List (List AV))(a0dr:Rt)(a0e:Int)(a0f:List (List AV))(a0fr:Rt)(a0g:List UInt8)(a1:Int)(a2:AV)(S0:St)(Q:QT):Prop:=
 AA (DT AF (.agg [(.int .i64 a0a),(.bool a0b),(.vs 1 a0c a0cr),(.vs 7 a0d a0dr),(.int .i64 a0e),(.vs 2 a0f a0fr),(.str a0g)])) fun c3=>
 AA (Hq (AV.strip a2)) fun t13=>
 AA (AO AN S0 t13) fun t14=>
 AA (AJ .sub (AV.strip t14) (.int .i64 1)) fun t15=>
 AA (Hq (AV.strip a2)) fun t16=>
 AA (Bx AN S0 t16 t15) fun S=>
 AA (Hq (AV.strip a2)) fun t18=>
 AA (AO AN S t18) fun t19=>
 AA (AJ .lss (AV.strip t19) (.int .i64 0)) fun t20=>
 AL (fun (x23:AV)=>
 AA (AZ (AV.strip t20) (.bool true) x23) fun t24=>
 AL (fun (x28:AV) (S_3:St)=>
 AA (AZ (AV.strip (AV.strip t24)) (.bool true) x28) fun t29=>
 ifK (AV.strip t29)
 (Q (.bool false) S_3)
 (AL (
 Q (.bool false) S_3) fun j_5=>
 AA (some c3) fun _=>
 AA (AD AN (some c3) 0) fun t31=>
 AA (AJ .eql (AV.strip t31) (.int .i64 1)) fun t33=>
 ifK t33
 (AA (some c3) fun _=>
 AA (AD AN (some c3) 4) fun t35=>
 AA (some c3) fun _=>
 AA (AD Bc (some c3) 5) fun t37=>
 AU Ca KZ [(AV.strip t35),(AV.strip t37)] S_3 fun t38 S_4=>
 Q t38 S_4)
 (AA (AJ .eql (AV.strip t31) (.int .i64 3)) fun t40=>
 ifK t40
 (AA (some c3) fun _=>
 AA (AD AG (some c3) 6) fun t43=>
 AU Ca H5 [(AV.strip t43)] S_3 fun t44 S_5=>
 AA (AM t44 0) fun t45=>
 AA (AM (AS t44 0) 1) fun t46=>
 AA (AM (AS (AS t44 0) 1) 2) fun t47=>
 AA (AJ .eql (AV.strip t47) (.int .i64 0)) fun t49=>
 AL (fun (x54:AV)=>
 AA (AZ (AV.strip t49) x54 (.bool false)) fun t55=>
 Q (AV.strip t55) S_5) fun j_3=>
 ifK (AV.strip t49)
 (AA (some c3) fun _=>
 AA (AD AG (some c3) 6) fun t52=>
 AA (DN (AV.strip t52)) fun t53=>
 AA (AJ .leq t53 (.int .i64 256)) fun t54=>
 j_3 t54)
 (j_3 (.tup [])))
 (AA (AJ .eql (AV.strip t31) (.int .i64 4)) fun t57=>
 ifK t57
 (Q (.bool true) S_3)
 (AA (AJ .eql (AV.strip t31) (.int .i64 2)) fun t59=>
 ifK t59
 (AA (AD AF (some c3) 0) fun t60=>
 AU Ca Ni [(AV.strip t60)] S_3 fun t61 S_6=>
 AA (unA .not t61) fun t62=>
 ifK t62
 (Q (.bool false) S_6)
 (AL (fun (S_9:St)=>
 Q (.bool true) S_9) fun j_4=>
 AA (some c3) fun _=>
 AA (AD Ad (some c3) 3) fun t64=>
 AA (A9 (AV.strip t64)) fun t65=>
 Bo ([(.int .i64 0)],[]) (fun v bx=>([v 66],[])) (fun nx v bx S_7=>
 AA (AJ .lss (v 66) t65) fun t67=>
 ifK t67
 (AA (Aa AF (AV.strip t64) (v 66)) fun t68=>
 AA (AO AF S_7 t68) fun t69=>
 AA (AI AF (some AF.zero) 0 (AV.strip t69)) fun b11=>
 AA (AD AF (some b11) 0) fun t70=>
 AU Ca KA [(AV.strip t70),(.int .i64 (IntKind.i64.wrap (a1+1))),(AV.strip a2)] S_7 fun t74 S_8=>
 AA (unA .not t74) fun t75=>
 ifK t75
 (Q (.bool false) S_8)
 (AA (AJ .add (v 66) (.int .i64 1)) fun t76=>
 nx ([(AV.strip t76)],[]) S_8))
 (j_4 S_7)) S_6))
 (j_5)))))) fun j=>
 ifK (AV.strip (AV.strip t24))
 (j (.tup []) S)
 (AA (AD AF (some c3) 0) fun t26=>
 AU Ca O5 [(AV.strip t26)] S fun t27 S_2=>
 AA (unA .not t27) fun t28=>
 j t28 S_2)) fun j_2=>
 ifK (AV.strip t20)
 (j_2 (.tup []))
 (j_2 (.bool (decide (a1 > 15))))
theorem Ys{w0 a0a a0b a0c a0cr a0d a0dr a0e a0f a0fr a0g a1 a2 S0 Q}(h:Sv (AP (En w0)) a0a a0b a0c a0cr a0d a0dr a0e a0f a0fr a0g a1 a2 S0 Q):AC w0 KA [(.agg [(.int .i64 a0a),(.bool a0b),(.vs 1 a0c a0cr),(.vs 7 a0d a0dr),(.int .i64 a0e),(.vs 2 a0f a0fr),(.str a0g)]),(.int .i64 a1),a2] S0 Q:=Ac w0 Tryz.func218 (by kernel_rfl) (by kernel_rfl) h
def EF(Ca:CaT)(a0:List (List AV))(a0r:Rt)(S0:St)(Q:QT):Prop:=
 AA (Gw .slice .eql (.vs 2 a0 (Rt.strip a0r)) (.vs 2 [] .nil)) fun t4=>
 ifK t4
 (Q (.vs 2 [] .nil) S0)
 (AA (AT Ae S0 (.vs 2 [] .full) (.vs 2 a0 (Rt.strip a0r))) fun t7=>
 Q t7 S0)
theorem GG{w0 a0 a0r S0 Q}(h:EF (AP (En w0)) a0 a0r S0 Q):AC w0 C7 [(.vs 2 a0 a0r)] S0 Q:=Ac w0 Tryz.func219 (by kernel_rfl) (by kernel_rfl) h
set_option maxHeartbeats 2000000
open Go.Proofs
def Qn(Ca:CaT)(a0:Int)(a1:List (List AV))(a1r:Rt)(S0:St)(Q:QT):Prop:=
 AL (fun (x10:AV)=>
 AA (AZ (.bool (decide (a0 < 0))) (.bool true) x10) fun t11=>
 ifK (AV.strip t11)
 (Q (.bool false) S0)
 (AL (fun (S_2:St)=>
 Q (.bool true) S_2) fun j_6=>
 Bo ([(.int .i64 0)],[]) (fun v bx=>([v 5],[])) (fun nx v bx S=>
 AA (AJ .lss (AV.strip (v 5)) (.int .i64 (List.length a1:Int))) fun t15=>
 ifK t15
 (AA (Aa Ae (.vs 2 a1 (Rt.strip a1r)) (AV.strip (v 5))) fun t20=>
 AA (BK t20 0) fun t21=>
 AA (AO AN S t21) fun t22=>
 AA (AJ .lss (AV.strip t22) (.int .i64 0)) fun t23=>
 AL (fun (x31:AV)=>
 AA (AZ (AV.strip t23) (.bool true) x31) fun t32=>
 AL (fun (x40:AV)=>
 AA (AZ (AV.strip (AV.strip t32)) (.bool true) x40) fun t41=>
 AL (fun (x56:AV)=>
 AA (AZ (AV.strip (AV.strip t41)) (.bool true) x56) fun t57=>
 ifK (AV.strip t57)
 (Q (.bool false) S)
 (AA (AJ .gtr (AV.strip (v 5)) (.int .i64 0)) fun t59=>
 AL (fun (x80:AV)=>
 AA (AZ (AV.strip t59) x80 (.bool false)) fun t81=>
 ifK (AV.strip t81)
 (Q (.bool false) S)
 (AA (AJ .add (AV.strip (v 5)) (.int .i64 1)) fun t17=>
 nx ([t17],[]) S)) fun j_5=>
 ifK (AV.strip t59)
 (AA (Aa Ae (.vs 2 a1 (Rt.strip a1r)) (AV.strip (v 5))) fun t63=>
 AA (BK t63 0) fun t64=>
 AA (AO AN S t64) fun t65=>
 AA (AJ .sub (AV.strip (v 5)) (.int .i64 1)) fun t68=>
 AA (Aa Ae (.vs 2 a1 (Rt.strip a1r)) t68) fun t69=>
 AA (BK t69 0) fun t70=>
 AA (AO AN S t70) fun t71=>
 AA (AJ .sub (AV.strip (v 5)) (.int .i64 1)) fun t74=>
 AA (Aa Ae (.vs 2 a1 (Rt.strip a1r)) t74) fun t75=>
 AA (BK t75 1) fun t76=>
 AA (AO AG S t76) fun t77=>
 AA (DN (AV.strip t77)) fun t78=>
 AA (AJ .add (AV.strip t71) t78) fun t79=>
 AA (AJ .lss (AV.strip t65) t79) fun t80=>
 j_5 t80)
 (j_5 (.tup [])))) fun j_2=>
 ifK (AV.strip (AV.strip t41))
 (j_2 (.tup []))
 (AA (Aa Ae (.vs 2 a1 (Rt.strip a1r)) (AV.strip (v 5))) fun t45=>
 AA (BK t45 0) fun t46=>
 AA (AO AN S t46) fun t47=>
 AA (Aa Ae (.vs 2 a1 (Rt.strip a1r)) (AV.strip (v 5))) fun t50=>
 AA (BK t50 1) fun t51=>
 AA (AO AG S t51) fun t52=>
 AA (DN (AV.strip t52)) fun t53=>
 AA (AJ .add (AV.strip t47) t53) fun t54=>
 AA (AJ .gtr t54 (.int .i64 a0)) fun t56=>
 j_2 t56)) fun j_3=>
 ifK (AV.strip (AV.strip t32))
 (j_3 (.tup []))
 (AA (Aa Ae (.vs 2 a1 (Rt.strip a1r)) (AV.strip (v 5))) fun t36=>
 AA (BK t36 1) fun t37=>
 AA (AO AG S t37) fun t38=>
 AA (DN (AV.strip t38)) fun t39=>
 AA (AJ .lss t39 (.int .i64 1)) fun t40=>
 j_3 t40)) fun j_4=>
 ifK (AV.strip t23)
 (j_4 (.tup []))
 (AA (Aa Ae (.vs 2 a1 (Rt.strip a1r)) (AV.strip (v 5))) fun t27=>
 AA (BK t27 0) fun t28=>
 AA (AO AN S t28) fun t29=>
 AA (AJ .gtr (AV.strip t29) (.int .i64 a0)) fun t31=>
 j_4 t31))
 (j_6 S)) S0)) fun j=>
 ifK (.bool (decide (a0 < 0)))
 (j (.tup []))
 (j (.bool (decide (a0 > 1048576))))
theorem X0{w0 a0 a1 a1r S0 Q}(h:Qn (AP (En w0)) a0 a1 a1r S0 Q):AC w0 MI [(.int .i64 a0),(.vs 2 a1 a1r)] S0 Q:=Ac w0 Tryz.func222 (by kernel_rfl) (by kernel_rfl) h
def OJ(Ca:CaT)(a0a:Int)(a0b:Bool)(a0c:List (List AV))(a0cr:Rt)(a0d:List (List AV))(a0dr:Rt)(a0e:Int)(a0f:List (List AV))(a0fr:Rt)(a0g:List UInt8)(S0:St)(Q:QT):Prop:=
 AA (DT AF (.agg [(.int .i64 a0a),(.bool a0b),(.vs 1 a0c a0cr),(.vs 7 a0d a0dr),(.int .i64 a0e),(.vs 2 a0f a0fr),(.str a0g)])) fun c1=>
 AA (some c1) fun _=>
 AA (AD AX (some c1) 2) fun t5=>
 AA (A9 (AV.strip t5)) fun t6=>
 AA (some c1) fun _=>
 AA (AD Ad (some c1) 3) fun t8=>
 AA (A9 (AV.strip t8)) fun t9=>
 AA (AJ .neq t6 t9) fun t10=>
 ifK t10
 (Q (.bool false) S0)
 (AL (fun (S_6:St)=>
 Q (.bool true) S_6) fun j_3=>
 Bo ([(.int .i64 0)],[(some c1)]) (fun v bx=>([v 3],[bx 1])) (fun nx v bx S=>
 AA (bx 1) fun _=>
 AA (AD AX (bx 1) 2) fun t13=>
 AA (A9 (AV.strip t13)) fun t14=>
 AA (AJ .lss (AV.strip (v 3)) t14) fun t15=>
 ifK t15
 (AA (bx 1) fun _=>
 AA (AD AX (bx 1) 2) fun t19=>
 AA (Aa AG (AV.strip t19) (AV.strip (v 3))) fun t21=>
 AA (AO AG S t21) fun t22=>
 AU Ca I6 [(AV.strip t22)] S fun t23 S_2=>
 AA (unA .not t23) fun t24=>
 AL (fun (x42:AV) (S_5:St)=>
 AA (AZ (AV.strip t24) (.bool true) x42) fun t43=>
 ifK (AV.strip t43)
 (Q (.bool false) S_5)
 (AA (AJ .add (AV.strip (v 3)) (.int .i64 1)) fun t17=>
 nx ([t17],[(bx 1)]) S_5)) fun j_2=>
 ifK (AV.strip t24)
 (j_2 (.tup []) S_2)
 (AA (AJ .gtr (AV.strip (v 3)) (.int .i64 0)) fun t27=>
 AL (fun (x41:AV) (S_4:St)=>
 AA (AZ (AV.strip t27) x41 (.bool false)) fun t42=>
 j_2 (AV.strip t42) S_4) fun j=>
 gK (AV.strip t27)
 (AA (bx 1) fun _=>
 AA (AD AX (bx 1) 2) fun t30=>
 AA (AJ .sub (AV.strip (v 3)) (.int .i64 1)) fun t32=>
 AA (Aa AG (AV.strip t30) t32) fun t33=>
 AA (AO AG S_2 t33) fun t34=>
 AA (bx 1) fun _=>
 AA (AD AX (bx 1) 2) fun t36=>
 AA (Aa AG (AV.strip t36) (AV.strip (v 3))) fun t38=>
 AA (AO AG S_2 t38) fun t39=>
 AU Ca J3 [(AV.strip t34),(AV.strip t39)] S_2 fun t40 S_3=>
 AA (unA .not t40) fun t41=>
 j t41 S_3)
 (j (.tup []) S_2)
 (j (.tup []) S_2)))
 (j_3 S)) S0)
theorem UX{w0 a0a a0b a0c a0cr a0d a0dr a0e a0f a0fr a0g S0 Q}(h:OJ (AP (En w0)) a0a a0b a0c a0cr a0d a0dr a0e a0f a0fr a0g S0 Q):AC w0 Jf [(.agg [(.int .i64 a0a),(.bool a0b),(.vs 1 a0c a0cr),(.vs 7 a0d a0dr),(.int .i64 a0e),(.vs 2 a0f a0fr),(.str a0g)])] S0 Q:=Ac w0 Tryz.func223 (by kernel_rfl) (by kernel_rfl) h
def Lq(Ca:CaT)(a0 a1:List UInt8)(S0:St)(Q:QT):Prop:=
 Ca HK [(.str a0)] S0 fun t6 S=>
 AL (fun (x10:AV) (S_3:St)=>
 AA (AZ (AV.strip t6) x10 (.bool false)) fun t11=>
 AL (fun (x15:AV)=>
 AA (AZ (AV.strip (AV.strip t11)) (.bool true) x15) fun t16=>
 Q (AV.strip t16) S_3) fun j=>
 ifK (AV.strip (AV.strip t11))
 (j (.tup []))
 (j (.bool (Op.bytesLess a0 a1)))) fun j_2=>
 ifK (AV.strip t6)
 (Ca HK [(.str a1)] S fun t9 S_2=>
 AA (unA .not t9) fun t10=>
 j_2 t10 S_2)
 (j_2 (.tup []) S)
theorem Rs{w0 a0 a1 S0 Q}(h:Lq (AP (En w0)) a0 a1 S0 Q):AC w0 H0 [(.str a0),(.str a1)] S0 Q:=Ac w0 Tryz.func225 (by kernel_rfl) (by kernel_rfl) h
def IW(Ca:CaT)(a0:List UInt8)(S0:St)(Q:QT):Prop:=
 Q (.bool (!(a0==a0))) S0
theorem NZ{w0 a0 S0 Q}(h:IW (AP (En w0)) a0 S0 Q):AC w0 F4 [(.str a0)] S0 Q:=Ac w0 Tryz.func226 (by kernel_rfl) (by kernel_rfl) h
def Mk(Ca:CaT)(a0a:List UInt8)(a0b:Int)(a1a:List UInt8)(a1b:Int)(S0:St)(Q:QT):Prop:=
 AA (DT BO (.agg [(.str a0a),(.int .i64 a0b)])) fun c2=>
 AA (DT BO (.agg [(.str a1a),(.int .i64 a1b)])) fun c3=>
 AA (some c2) fun _=>
 AA (AD AG (some c2) 0) fun t6=>
 AA (some c3) fun _=>
 AA (AD AG (some c3) 0) fun t8=>
 AA (AJ .neq (AV.strip t6) (AV.strip t8)) fun t9=>
 ifK t9
 (AA (some c2) fun _=>
 AA (AD AG (some c2) 0) fun t11=>
 AA (some c3) fun _=>
 AA (AD AG (some c3) 0) fun t13=>
 AA (AJ .lss (AV.strip t11) (AV.strip t13)) fun t14=>
 Q t14 S0)
 (AA (some c2) fun _=>
 AA (AD AN (some c2) 1) fun t16=>
 AA (some c3) fun _=>
 AA (AD AN (some c3) 1) fun t18=>
 AA (AJ .lss (AV.strip t16) (AV.strip t18)) fun t19=>
 Q t19 S0)
theorem SR{w0 a0a a0b a1a a1b S0 Q}(h:Mk (AP (En w0)) a0a a0b a1a a1b S0 Q):AC w0 Ch [(.agg [(.str a0a),(.int .i64 a0b)]),(.agg [(.str a1a),(.int .i64 a1b)])] S0 Q:=Ac w0 Tryz.func229 (by kernel_rfl) (by kernel_rfl) h
def T0(Ca:CaT)(a0:AV)(S0:St)(Q:QT):Prop:=
 AA (FJ C (AV.strip a0) "Len" []) fun a=>
 Ca a.1 a.2 S0 fun t5 S=>
 AA (AJ .quo (AV.strip t5) (.int .i64 2)) fun t7=>
 AA (AJ .sub t7 (.int .i64 1)) fun t8=>
 Bo ([t8],[]) (fun v bx=>([v 3],[])) (fun nx v bx S_2=>
 AA (AJ .geq (AV.strip (v 3)) (.int .i64 0)) fun t10=>
 ifK t10
 (AU Ca IB [(AV.strip a0),(AV.strip (v 3)),(AV.strip t5)] S_2 fun t16 S_3=>
 AA (AJ .sub (AV.strip (v 3)) (.int .i64 1)) fun t12=>
 nx ([t12],[]) S_3)
 (Q (.tup []) S_2)) S
theorem Y0{w0 a0 S0 Q}(h:T0 (AP (En w0)) a0 S0 Q):AC w0 NN [a0] S0 Q:=Ac w0 Tryz.func230 (by kernel_rfl) (by kernel_rfl) h
def Mw(Ca:CaT)(a0 a0o:Nat)(S0:St)(Q:QT):Prop:=
 AA (AO Bh S0 (.ptr a0 (a0o+0))) fun t6=>
 AA (A9 (AV.strip t6)) fun t7=>
 Q t7 S0
theorem UE{w0 a0 a0o S0 Q}(h:Mw (AP (En w0)) a0 a0o S0 Q):AC w0 FL [(.ptr a0 a0o)] S0 Q:=Ac w0 Tryz.func231 (by kernel_rfl) (by kernel_rfl) h
def Vk(Ca:CaT)(a0:AV)(S0:St)(Q:QT):Prop:=
 AA (FJ C (AV.strip a0) "Len" []) fun a=>
 Ca a.1 a.2 S0 fun t5 S=>
 AA (AJ .sub t5 (.int .i64 1)) fun t6=>
 AA (FJ C (AV.strip a0) "Swap" [(.int .i64 0),(AV.strip t6)]) fun a_2=>
 Ca a_2.1 a_2.2 S fun t9 S_2=>
 AU Ca IB [(AV.strip a0),(.int .i64 0),(AV.strip t6)] S_2 fun t12 S_3=>
 AA (FJ C (AV.strip a0) "Pop" []) fun a_3=>
 Ca a_3.1 a_3.2 S_3 fun t14 S_4=>
 Q t14 S_4
theorem cK{w0 a0 S0 Q}(h:Vk (AP (En w0)) a0 S0 Q):AC w0 O9 [a0] S0 Q:=Ac w0 Tryz.func232 (by kernel_rfl) (by kernel_rfl) h
def Vs(Ca:CaT)(a0:AV)(a1:Int)(S0:St)(Q:QT):Prop:=
 AA (FJ C (AV.strip a0) "Len" []) fun a=>
 Ca a.1 a.2 S0 fun t7 S=>
 AU Ca IB [(AV.strip a0),(.int .i64 a1),t7] S fun t8 S_2=>
 AA (unA .not t8) fun t9=>
 ifK t9
 (AU Ca Xh [(AV.strip a0),(.int .i64 a1)] S_2 fun t12 S_3=>
 Q (.tup []) S_3)
 (Q (.tup []) S_2)
theorem bE{w0 a0 a1 S0 Q}(h:Vs (AP (En w0)) a0 a1 S0 Q):AC w0 Ot [a0,(.int .i64 a1)] S0 Q:=Ac w0 Tryz.func233 (by kernel_rfl) (by kernel_rfl) h
def Id(Ca:CaT)(a0 a0o:Nat)(a1:Int)(S0:St)(Q:QT):Prop:=
 AA (AO Dp S0 (.ptr a0 (a0o+0))) fun t11=>
 AU Ca Fl [(AV.strip t11),(.int .i64 a1)] S0 fun t13 S=>
 AA (AM t13 0) fun t14=>
 AA (AM (AS t13 0) 1) fun t15=>
 AA (AO Dg S (.ptr a0 (a0o+1))) fun t20=>
 AL (fun (x23:AV)=>
 AA (AZ (AV.strip (AV.strip t20)) (.bool true) x23) fun t24=>
 AA (Bx Dg S (.ptr a0 (a0o+1)) (AV.strip t24)) fun S_2=>
 Q (AV.strip t14) S_2) fun j=>
 ifK (AV.strip (AV.strip t20))
 (j (.tup []))
 (AA (unA .not (AV.strip t15)) fun t23=>
 j t23)
theorem Ns{w0 a0 a0o a1 S0 Q}(h:Id (AP (En w0)) a0 a0o a1 S0 Q):AC w0 Cb [(.ptr a0 a0o),(.int .i64 a1)] S0 Q:=Ac w0 Tryz.func235 (by kernel_rfl) (by kernel_rfl) h
def Jv(Ca:CaT)(a0 a0o:Nat)(a1:Int)(S0:St)(Q:QT):Prop:=
 AA (AO Dp S0 (.ptr a0 (a0o+0))) fun t11=>
 AU Ca HQ [(AV.strip t11),(.int .i64 a1)] S0 fun t13 S=>
 AA (AM t13 0) fun t14=>
 AA (AM (AS t13 0) 1) fun t15=>
 AA (AO Dg S (.ptr a0 (a0o+1))) fun t20=>
 AL (fun (x23:AV)=>
 AA (AZ (AV.strip (AV.strip t20)) (.bool true) x23) fun t24=>
 AA (Bx Dg S (.ptr a0 (a0o+1)) (AV.strip t24)) fun S_2=>
 Q (AV.strip t14) S_2) fun j=>
 ifK (AV.strip (AV.strip t20))
 (j (.tup []))
 (AA (unA .not (AV.strip t15)) fun t23=>
 j t23)
theorem O1{w0 a0 a0o a1 S0 Q}(h:Jv (AP (En w0)) a0 a0o a1 S0 Q):AC w0 EY [(.ptr a0 a0o),(.int .i64 a1)] S0 Q:=Ac w0 Tryz.func236 (by kernel_rfl) (by kernel_rfl) h
def Qk(Ca:CaT)(a0:Int)(a1:List (List AV))(a1r:Rt)(a2 a3:Int)(S0:St)(Q:QT):Prop:=
 AL (fun (x19:AV)=>
 AA (AZ (.bool (decide (a2 < 0))) (.bool true) x19) fun t20=>
 AL (fun (x23:AV)=>
 AA (AZ (AV.strip (AV.strip t20)) (.bool true) x23) fun t24=>
 ifK (AV.strip t24)
 (Q (.str []) S0)
 (AL (fun (S_8:St)=>
 Ca D0 [(.ptr S0.length 0)] S_8 fun t76 S_9=>
 AA (AJ .sub (.int .i64 (if (IntKind.i64.wrap (a0 - a2)) < a3 then (IntKind.i64.wrap (a0 - a2)) else a3)) t76) fun t77=>
 AU Ca Io [(.str [0]),t77] S_9 fun t78 S_10=>
 AU Ca Co [(.ptr S0.length 0),t78] S_10 fun t79 S_11=>
 Ca G8 [(.ptr S0.length 0)] S_11 fun t80 S_12=>
 Q t80 S_12) fun j_4=>
 Bo ([(.int .i64 0)],[]) (fun v bx=>([v 32],[])) (fun nx v bx S=>
 AA (AJ .lss (v 32) (.int .i64 (List.length a1:Int))) fun t33=>
 ifK t33
 (AL (fun (S_7:St)=>
 AA (AJ .add (v 32) (.int .i64 1)) fun t74=>
 nx ([(AV.strip t74)],[]) S_7) fun j_3=>
 AA (Aa Ae (.vs 2 a1 (Rt.strip a1r)) (v 32)) fun t34=>
 AA (AO Ae S t34) fun t35=>
 AA (AI Ae (some [(.int .i64 0),(.str [])]) 0 (AV.strip t35)) fun b11=>
 AA (some b11) fun _=>
 AA (AD AN (some b11) 0) fun t37=>
 AA (some b11) fun _=>
 AA (AD AN (some b11) 0) fun t43=>
 AA (some b11) fun _=>
 AA (AD AG (some b11) 1) fun t45=>
 AA (DN (AV.strip t45)) fun t46=>
 AA (AJ .add (AV.strip t43) t46) fun t47=>
 AA (bQ [t47,(.int .i64 (IntKind.i64.wrap (a2+(if (IntKind.i64.wrap (a0 - a2)) < a3 then (IntKind.i64.wrap (a0 - a2)) else a3))))]) fun t51=>
 Ca D0 [(.ptr S0.length 0)] S fun t39 S_2=>
 AA (AJ .add (.int .i64 a2) t39) fun t40=>
 AA (bt [(AV.strip t37),t40]) fun t41=>
 AA (AJ .geq (AV.strip t41) (AV.strip t51)) fun t54=>
 ifK t54
 (j_3 S_2)
 (AA (AJ .sub (AV.strip t41) (.int .i64 a2)) fun t57=>
 Ca D0 [(.ptr S0.length 0)] S_2 fun t58 S_3=>
 AA (AJ .sub t57 t58) fun t59=>
 AU Ca Io [(.str [0]),t59] S_3 fun t60 S_4=>
 AU Ca Co [(.ptr S0.length 0),t60] S_4 fun t61 S_5=>
 AA (some b11) fun _=>
 AA (AD AG (some b11) 1) fun t63=>
 AA (CJ (some b11) 1) fun _=>
 AA (AD AN (CJ (some b11) 1) 0) fun t66=>
 AA (AJ .sub (AV.strip t41) (AV.strip t66)) fun t67=>
 AA (CJ (some b11) 1) fun _=>
 AA (AD AN (CJ (some b11) 1) 0) fun t70=>
 AA (AJ .sub (AV.strip t51) (AV.strip t70)) fun t71=>
 AA (Cc (AV.strip0 t63) (some t67) (some t71)) fun t72=>
 AU Ca Co [(.ptr S0.length 0),t72] S_5 fun t73 S_6=>
 j_3 S_6))
 (j_4 S)) (S0++[Obj.cells DM.zero DL]))) fun j=>
 ifK (AV.strip (AV.strip t20))
 (j (.tup []))
 (j (.bool (decide (a3 < 1))))) fun j_2=>
 ifK (.bool (decide (a2 < 0)))
 (j_2 (.tup []))
 (j_2 (.bool (decide (a2≥a0))))
theorem XK{w0 a0 a1 a1r a2 a3 S0 Q}(h:Qk (AP (En w0)) a0 a1 a1r a2 a3 S0 Q):AC w0 L5 [(.int .i64 a0),(.vs 2 a1 a1r),(.int .i64 a2),(.int .i64 a3)] S0 Q:=Ac w0 Tryz.func237 (by kernel_rfl) (by kernel_rfl) h
def U9(Ca:CaT)(a0a:Int)(a0b:Bool)(a0c:List (List AV))(a0cr:Rt)(a0d:List (List AV))(a0dr:Rt)(a0e:Int)(a0f:List (List AV))(a0fr:Rt)(a0g:List UInt8)(S0:St)(Q:QT):Prop:=
 AA (DT AF (.agg [(.int .i64 a0a),(.bool a0b),(.vs 1 a0c a0cr),(.vs 7 a0d a0dr),(.int .i64 a0e),(.vs 2 a0f a0fr),(.str a0g)])) fun c1=>
 AA (some c1) fun _=>
 AA (AD AN (some c1) 0) fun t7=>
 AA (AJ .eql (AV.strip t7) (.int .i64 2)) fun t8=>
 AA (some c1) fun _=>
 AA (AD AN (some c1) 0) fun t10=>
 AA (AJ .eql (AV.strip t10) (.int .i64 1)) fun t11=>
 AA (some c1) fun _=>
 AA (AD AN (some c1) 0) fun t13=>
 AA (AJ .eql (AV.strip t13) (.int .i64 3)) fun t14=>
 AA (unA .not (AV.strip t8)) fun t16=>
 AL (fun (x31:AV)=>
 AA (AZ (AV.strip t16) x31 (.bool false)) fun t32=>
 AL (fun (x46:AV)=>
 AA (AZ (AV.strip (AV.strip t32)) (.bool true) x46) fun t47=>
 ifK (AV.strip t47)
 (Q (.bool false) S0)
 (AL (fun (x52:AV)=>
 AA (AZ (AV.strip (AV.strip t14)) (.bool true) x52) fun t53=>
 Q (AV.strip t53) S0) fun j_7=>
 ifK (AV.strip (AV.strip t14))
 (j_7 (.tup []))
 (AA (some c1) fun _=>
 AA (AD AG (some c1) 6) fun t51=>
 AA (AJ .eql (AV.strip t51) (.str [])) fun t52=>
 j_7 t52))) fun j_5=>
 ifK (AV.strip (AV.strip t32))
 (j_5 (.tup []))
 (AA (unA .not (AV.strip t11)) fun t35=>
 AL (fun (x45:AV)=>
 AA (AZ (AV.strip t35) x45 (.bool false)) fun t46=>
 j_5 (AV.strip t46)) fun j_4=>
 gK (AV.strip t35)
 (AA (some c1) fun _=>
 AA (AD AN (some c1) 4) fun t38=>
 AA (AJ .neq (AV.strip t38) (.int .i64 0)) fun t39=>
 AL (fun (x44:AV)=>
 AA (AZ (AV.strip t39) (.bool true) x44) fun t45=>
 j_4 (AV.strip t45)) fun j_3=>
 gK (AV.strip t39)
 (j_3 (.tup []))
 (AA (some c1) fun _=>
 AA (AD Bc (some c1) 5) fun t42=>
 AA (A9 (AV.strip t42)) fun t43=>
 AA (AJ .gtr t43 (.int .i64 0)) fun t44=>
 j_3 t44)
 (j_3 (.tup [])))
 (j_4 (.tup []))
 (j_4 (.tup [])))) fun j_6=>
 ifK (AV.strip t16)
 (AA (some c1) fun _=>
 AA (AD Dg (some c1) 1) fun t19=>
 AL (fun (x24:AV)=>
 AA (AZ (AV.strip (AV.strip t19)) (.bool true) x24) fun t25=>
 AL (fun (x30:AV)=>
 AA (AZ (AV.strip (AV.strip t25)) (.bool true) x30) fun t31=>
 j_6 (AV.strip t31)) fun j=>
 gK (AV.strip (AV.strip t25))
 (j (.tup []))
 (AA (some c1) fun _=>
 AA (AD Ad (some c1) 3) fun t28=>
 AA (A9 (AV.strip t28)) fun t29=>
 AA (AJ .gtr t29 (.int .i64 0)) fun t30=>
 j t30)
 (j (.tup []))) fun j_2=>
 gK (AV.strip (AV.strip t19))
 (j_2 (.tup []))
 (AA (some c1) fun _=>
 AA (AD AX (some c1) 2) fun t22=>
 AA (A9 (AV.strip t22)) fun t23=>
 AA (AJ .gtr t23 (.int .i64 0)) fun t24=>
 j_2 t24)
 (j_2 (.tup [])))
 (j_6 (.tup []))
theorem bR{w0 a0a a0b a0c a0cr a0d a0dr a0e a0f a0fr a0g S0 Q}(h:U9 (AP (En w0)) a0a a0b a0c a0cr a0d a0dr a0e a0f a0fr a0g S0 Q):AC w0 O5 [(.agg [(.int .i64 a0a),(.bool a0b),(.vs 1 a0c a0cr),(.vs 7 a0d a0dr),(.int .i64 a0e),(.vs 2 a0f a0fr),(.str a0g)])] S0 Q:=Ac w0 Tryz.func254 (by kernel_rfl) (by kernel_rfl) h
def PE(Ca:CaT)(a0:Int)(a1:List (List AV))(a1r:Rt)(S0:St)(Q:QT):Prop:=
 AL (fun (S_2:St)=>
 AL (fun (x44:AV)=>
 AA (AZ (.bool (decide (a0≥0))) x44 (.bool false)) fun t45=>
 Q (AV.strip t45) S_2) fun j_3=>
 ifK (.bool (decide (a0≥0)))
 (j_3 (.bool (decide (a0≤1048576))))
 (j_3 (.tup []))) fun j_4=>
 Bo ([(.int .i64 0),(.int .i64 0)],[]) (fun v bx=>([v 5,v 10],[])) (fun nx v bx S=>
 AA (AJ .lss (v 10) (.int .i64 (List.length a1:Int))) fun t11=>
 ifK t11
 (AA (Aa Ae (.vs 2 a1 (Rt.strip a1r)) (v 10)) fun t12=>
 AA (AO Ae S t12) fun t13=>
 AA (AI Ae (some [(.int .i64 0),(.str [])]) 0 (AV.strip t13)) fun b7=>
 AA (some b7) fun _=>
 AA (AD AN (some b7) 0) fun t15=>
 AA (AJ .lss (AV.strip t15) (AV.strip (v 5))) fun t17=>
 AL (fun (x21:AV)=>
 AA (AZ (AV.strip t17) (.bool true) x21) fun t22=>
 AL (fun (x31:AV)=>
 AA (AZ (AV.strip (AV.strip t22)) (.bool true) x31) fun t32=>
 ifK (AV.strip t32)
 (Q (.bool false) S)
 (AA (some b7) fun _=>
 AA (AD AN (some b7) 0) fun t34=>
 AA (some b7) fun _=>
 AA (AD AG (some b7) 1) fun t36=>
 AA (DN (AV.strip t36)) fun t37=>
 AA (AJ .add (AV.strip t34) t37) fun t38=>
 AA (AJ .add (v 10) (.int .i64 1)) fun t39=>
 nx ([t38,(AV.strip t39)],[]) S)) fun j=>
 ifK (AV.strip (AV.strip t22))
 (j (.tup []))
 (AA (some b7) fun _=>
 AA (AD AG (some b7) 1) fun t25=>
 AA (DN (AV.strip t25)) fun t26=>
 AA (some b7) fun _=>
 AA (AD AN (some b7) 0) fun t29=>
 AA (AJ .sub (.int .i64 a0) (AV.strip t29)) fun t30=>
 AA (AJ .gtr t26 t30) fun t31=>
 j t31)) fun j_2=>
 ifK (AV.strip t17)
 (j_2 (.tup []))
 (AA (some b7) fun _=>
 AA (AD AG (some b7) 1) fun t20=>
 AA (AJ .eql (AV.strip t20) (.str [])) fun t21=>
 j_2 t21))
 (j_4 S)) S0
theorem WN{w0 a0 a1 a1r S0 Q}(h:PE (AP (En w0)) a0 a1 a1r S0 Q):AC w0 KZ [(.int .i64 a0),(.vs 2 a1 a1r)] S0 Q:=Ac w0 Tryz.func255 (by kernel_rfl) (by kernel_rfl) h
def Tp(Ca:CaT)(a0a:Int)(a0b:Bool)(a0c:List (List AV))(a0cr:Rt)(a0d:List (List AV))(a0dr:Rt)(a0e:Int)(a0f:List (List AV))(a0fr:Rt)(a0g:List UInt8)(S0:St)(Q:QT):Prop:=
 AA (DT AF (.agg [(.int .i64 a0a),(.bool a0b),(.vs 1 a0c a0cr),(.vs 7 a0d a0dr),(.int .i64 a0e),(.vs 2 a0f a0fr),(.str a0g)])) fun c1=>
 AL (fun (y1:Option (List AV)) (S_3:St)=>
 AA y1 fun _=>
 AA (AD AX y1 2) fun t32=>
 AA (A9 (AV.strip t32)) fun t33=>
 AA y1 fun _=>
 AA (AD Ad y1 3) fun t35=>
 AA (A9 (AV.strip t35)) fun t36=>
 AA (AJ .eql t33 t36) fun t37=>
 Q t37 S_3) fun j_3=>
 AA (some c1) fun _=>
 AA (AD AX (some c1) 2) fun t6=>
 AA (A9 (AV.strip t6)) fun t7=>
 Bo ([(.int .i64 0)],[(some c1)]) (fun v bx=>([v 8],[bx 1])) (fun nx v bx S=>
 AA (AJ .lss (v 8) t7) fun t9=>
 ifK t9
 (AA (Aa AG (AV.strip t6) (v 8)) fun t11=>
 AA (AO AG S t11) fun t12=>
 AU Ca KN [(AV.strip (AV.strip t12))] S fun t14 S_2=>
 AA (unA .not t14) fun t15=>
 AL (fun (x28:AV)=>
 AA (AZ (AV.strip t15) (.bool true) x28) fun t29=>
 ifK (AV.strip t29)
 (Q (.bool false) S_2)
 (AA (AJ .add (v 8) (.int .i64 1)) fun t30=>
 nx ([(AV.strip t30)],[(bx 1)]) S_2)) fun j_2=>
 ifK (AV.strip t15)
 (j_2 (.tup []))
 (AA (AJ .gtr (AV.strip (AV.strip (v 8))) (.int .i64 0)) fun t18=>
 AL (fun (x27:AV)=>
 AA (AZ (AV.strip t18) x27 (.bool false)) fun t28=>
 j_2 (AV.strip t28)) fun j=>
 gK (AV.strip t18)
 (AA (bx 1) fun _=>
 AA (AD AX (bx 1) 2) fun t21=>
 AA (AJ .sub (AV.strip (AV.strip (v 8))) (.int .i64 1)) fun t23=>
 AA (Aa AG (AV.strip t21) t23) fun t24=>
 AA (AO AG S_2 t24) fun t25=>
 AA (AJ .geq (AV.strip t25) (AV.strip (AV.strip t12))) fun t27=>
 j t27)
 (j (.tup []))
 (j (.tup []))))
 (j_3 (bx 1) S)) S0
theorem Yo{w0 a0a a0b a0c a0cr a0d a0dr a0e a0f a0fr a0g S0 Q}(h:Tp (AP (En w0)) a0a a0b a0c a0cr a0d a0dr a0e a0f a0fr a0g S0 Q):AC w0 Ni [(.agg [(.int .i64 a0a),(.bool a0b),(.vs 1 a0c a0cr),(.vs 7 a0d a0dr),(.int .i64 a0e),(.vs 2 a0f a0fr),(.str a0g)])] S0 Q:=Ac w0 Tryz.func256 (by kernel_rfl) (by kernel_rfl) h
def KV(Ca:CaT)(a0:List UInt8)(S0:St)(Q:QT):Prop:=
 Q (.bool (!(a0==a0))) S0
theorem QJ{w0 a0 S0 Q}(h:KV (AP (En w0)) a0 S0 Q):AC w0 HK [(.str a0)] S0 Q:=Ac w0 Tryz.func260 (by kernel_rfl) (by kernel_rfl) h
def SH(Ca:CaT)(a0:AV)(a1 a2:Int)(S0:St)(Q:QT):Prop:=
 AL (fun (x7:AV) (S_7:St)=>
 AA (AJ .gtr (AV.strip x7) (.int .i64 a1)) fun t47=>
 Q t47 S_7) fun j_4=>
 Bo ([(.int .i64 a1)],[]) (fun v bx=>([v 7],[])) (fun nx v bx S=>
 AA (AJ .mul (.int .i64 2) (AV.strip (v 7))) fun t13=>
 AA (AJ .add t13 (.int .i64 1)) fun t14=>
 AA (AJ .geq (AV.strip t14) (.int .i64 a2)) fun t17=>
 AL (fun (x20:AV)=>
 AA (AZ (AV.strip t17) (.bool true) x20) fun t21=>
 ifK (AV.strip t21)
 (j_4 (v 7) S)
 (AL (fun (x9:AV) (S_4:St)=>
 AA (FJ C (AV.strip a0) "Less" [(AV.strip x9),(AV.strip (v 7))]) fun a_2=>
 Ca a_2.1 a_2.2 S_4 fun t38 S_5=>
 AA (unA .not t38) fun t39=>
 ifK t39
 (j_4 (v 7) S_5)
 (AA (FJ C (AV.strip a0) "Swap" [(AV.strip (v 7)),(AV.strip x9)]) fun a_3=>
 Ca a_3.1 a_3.2 S_5 fun t43 S_6=>
 nx ([(AV.strip x9)],[]) S_6)) fun j_3=>
 AA (AJ .add (AV.strip t14) (.int .i64 1)) fun t24=>
 AA (AJ .lss (AV.strip t24) (.int .i64 a2)) fun t27=>
 AL (fun (x32:AV) (S_3:St)=>
 AA (AZ (AV.strip t27) x32 (.bool false)) fun t33=>
 ifK (AV.strip t33)
 (j_3 (AV.strip t24) S_3)
 (j_3 (AV.strip t14) S_3)) fun j_2=>
 ifK (AV.strip t27)
 (AA (FJ C (AV.strip a0) "Less" [(AV.strip t24),(AV.strip t14)]) fun a=>
 Ca a.1 a.2 S fun t32 S_2=>
 j_2 t32 S_2)
 (j_2 (.tup []) S))) fun j=>
 ifK (AV.strip t17)
 (j (.tup []))
 (AA (AJ .lss (AV.strip t14) (.int .i64 0)) fun t20=>
 j t20)) S0
theorem Zg{w0 a0 a1 a2 S0 Q}(h:SH (AP (En w0)) a0 a1 a2 S0 Q):AC w0 IB [a0,(.int .i64 a1),(.int .i64 a2)] S0 Q:=Ac w0 Tryz.func263 (by kernel_rfl) (by kernel_rfl) h
def XV(Ca:CaT)(a0:AV)(a1:Int)(S0:St)(Q:QT):Prop:=
 Bo ([(.int .i64 a1)],[]) (fun v bx=>([v 1],[])) (fun nx v bx S=>
 AA (AJ .sub (AV.strip (v 1)) (.int .i64 1)) fun t6=>
 AA (AJ .quo t6 (.int .i64 2)) fun t7=>
 AA (AJ .eql (AV.strip t7) (AV.strip (v 1))) fun t10=>
 AL (fun (x16:AV) (S_3:St)=>
 AA (AZ (AV.strip t10) (.bool true) x16) fun t17=>
 ifK (AV.strip t17)
 (Q (.tup []) S_3)
 (AA (FJ C (AV.strip a0) "Swap" [(AV.strip t7),(AV.strip (v 1))]) fun a_2=>
 Ca a_2.1 a_2.2 S_3 fun t21 S_4=>
 nx ([(AV.strip t7)],[]) S_4)) fun j=>
 ifK (AV.strip t10)
 (j (.tup []) S)
 (AA (FJ C (AV.strip a0) "Less" [(AV.strip (v 1)),(AV.strip t7)]) fun a=>
 Ca a.1 a.2 S fun t15 S_2=>
 AA (unA .not t15) fun t16=>
 j t16 S_2)) S0
theorem eG{w0 a0 a1 S0 Q}(h:XV (AP (En w0)) a0 a1 S0 Q):AC w0 Xh [a0,(.int .i64 a1)] S0 Q:=Ac w0 Tryz.func264 (by kernel_rfl) (by kernel_rfl) h
def Kh(Ca:CaT)(a0 a0o:Nat)(a1:Int)(S0:St)(Q:QT):Prop:=
 AL (fun (x12:AV)=>
 AA (AZ (.bool (decide (a1 < 1))) (.bool true) x12) fun t13=>
 AL (fun (x21:AV)=>
 AA (AZ (AV.strip (AV.strip t13)) (.bool true) x21) fun t22=>
 ifK (AV.strip t22)
 (Q (.tup [(.int .i64 0),(.bool false)]) S0)
 (AL (fun (x6:AV) (S_2:St)=>
 AA (AO AG S_2 (.ptr a0 (a0o+0))) fun t42=>
 AA (Cc (AV.strip0 t42) (some (.int .i64 a1)) none) fun t44=>
 AA (Bx AG (stripMem S_2 (.ptr a0 (a0o+0))) (.ptr a0 (a0o+0)) t44) fun S_3=>
 Q (.tup [(AV.flat (AV.strip x6)),(.bool true)]) S_3) fun j_3=>
 Bo ([(.int .i64 0),(.int .i64 0)],[]) (fun v bx=>([v 6,v 24],[])) (fun nx v bx S=>
 AA (AJ .lss (v 24) (.int .i64 a1)) fun t25=>
 ifK t25
 (AA (AJ .shl (AV.strip (v 6)) (.int .u64 8)) fun t28=>
 AA (AO AG S (.ptr a0 (a0o+0))) fun t32=>
 AA (Fd (AV.strip t32) (AV.strip (AV.strip (v 24)))) fun t34=>
 AA (Gz .i64 t34) fun t35=>
 AA (AJ .or t28 t35) fun t36=>
 AA (AJ .add (v 24) (.int .i64 1)) fun t37=>
 nx ([t36,(AV.strip t37)],[]) S)
 (j_3 (v 6) S)) S0)) fun j=>
 ifK (AV.strip (AV.strip t13))
 (j (.tup []))
 (AA (AO AG S0 (.ptr a0 (a0o+0))) fun t19=>
 AA (DN (AV.strip t19)) fun t20=>
 AA (AJ .gtr (.int .i64 a1) t20) fun t21=>
 j t21)) fun j_2=>
 ifK (.bool (decide (a1 < 1)))
 (j_2 (.tup []))
 (j_2 (.bool (decide (a1 > 4))))
theorem QC{w0 a0 a0o a1 S0 Q}(h:Kh (AP (En w0)) a0 a0o a1 S0 Q):AC w0 Fl [(.ptr a0 a0o),(.int .i64 a1)] S0 Q:=Ac w0 Tryz.func265 (by kernel_rfl) (by kernel_rfl) h
def Kk(Ca:CaT)(a0 a0o:Nat)(a1:Int)(S0:St)(Q:QT):Prop:=
 AA (AO AG S0 (.ptr a0 (a0o+0))) fun t13=>
 Ca Fl [(.ptr a0 a0o),(.int .i64 a1)] S0 fun t17 S=>
 AA (AM t17 0) fun t18=>
 AA (AM (AS t17 0) 1) fun t19=>
 AA (unA .not (AV.strip t19)) fun t21=>
 AL (fun (x29:AV)=>
 AA (AZ (AV.strip t21) (.bool true) x29) fun t30=>
 ifK (AV.strip t30)
 (AA (Bx AG S (.ptr a0 (a0o+0)) (AV.strip (AV.strip t13))) fun S_2=>
 Q (.tup [(.str []),(.bool false)]) S_2)
 (AA (AO AG S (.ptr a0 (a0o+0))) fun t38=>
 AA (Cc (AV.strip0 t38) none (some (AV.strip t18))) fun t40=>
 AA (AO AG (stripMem S (.ptr a0 (a0o+0))) (.ptr a0 (a0o+0))) fun t45=>
 AA (Cc (AV.strip0 t45) (some (AV.strip t18)) none) fun t47=>
 AA (Bx AG (stripMem (stripMem S (.ptr a0 (a0o+0))) (.ptr a0 (a0o+0))) (.ptr a0 (a0o+0)) t47) fun S_3=>
 Q (.tup [(AV.flat (AV.strip t40)),(.bool true)]) S_3)) fun j=>
 ifK (AV.strip t21)
 (j (.tup []))
 (AA (AO AG S (.ptr a0 (a0o+0))) fun t27=>
 AA (DN (AV.strip t27)) fun t28=>
 AA (AJ .gtr (AV.strip t18) t28) fun t29=>
 j t29)
theorem QP{w0 a0 a0o a1 S0 Q}(h:Kk (AP (En w0)) a0 a0o a1 S0 Q):AC w0 HQ [(.ptr a0 a0o),(.int .i64 a1)] S0 Q:=Ac w0 Tryz.func266 (by kernel_rfl) (by kernel_rfl) h
def Ic(Ca:CaT)(a0 a0o:Nat)(S0:St)(Q:QT):Prop:=
 AA (AO Gi S0 (.ptr a0 (a0o+1))) fun t6=>
 AA (A9 (AV.strip t6)) fun t7=>
 Q t7 S0
theorem Ny{w0 a0 a0o S0 Q}(h:Ic (AP (En w0)) a0 a0o S0 Q):AC w0 D0 [(.ptr a0 a0o)] S0 Q:=Ac w0 Tryz.func267 (by kernel_rfl) (by kernel_rfl) h
def Fb(Ca:CaT)(a0 a0o:Nat)(a1:List UInt8)(S0:St)(Q:QT):Prop:=
 Ca GD [(.ptr a0 a0o)] S0 fun t7 S=>
 AA (AO Gi S (.ptr a0 (a0o+1))) fun t12=>
 AA (AT HG (stripMem S (.ptr a0 (a0o+1))) (AV.strip0 t12) (.str a1)) fun t14=>
 AA (Bx Gi (stripMem S (.ptr a0 (a0o+1))) (.ptr a0 (a0o+1)) t14) fun S_2=>
 Q (.tup [(.int .i64 (List.length a1:Int)),.nilifc]) S_2
theorem If{w0 a0 a0o a1 S0 Q}(h:Fb (AP (En w0)) a0 a0o a1 S0 Q):AC w0 Co [(.ptr a0 a0o),(.str a1)] S0 Q:=Ac w0 Tryz.func268 (by kernel_rfl) (by kernel_rfl) h
def Ll(Ca:CaT)(a0 a0o:Nat)(a1 a2:Int)(S0:St)(Q:QT):Prop:=
 AA (AO B5 S0 (.ptr a0 (a0o+1))) fun t10=>
 AA (AO Bh S0 (.ptr a0 (a0o+0))) fun t14=>
 AA (Aa BE (AV.strip t14) (.int .i64 a1)) fun t16=>
 AA (BK t16 0) fun t17=>
 AA (AO BO S0 t17) fun t18=>
 AA (AO Bh S0 (.ptr a0 (a0o+0))) fun t22=>
 AA (Aa BE (AV.strip t22) (.int .i64 a2)) fun t24=>
 AA (BK t24 0) fun t25=>
 AA (AO BO S0 t25) fun t26=>
 AA (Sk (AV.strip t10) [(AV.strip t18),(AV.strip t26)]) fun a=>
 Ca a.1 a.2 S0 fun t27 S=>
 Q t27 S
theorem RW{w0 a0 a0o a1 a2 S0 Q}(h:Ll (AP (En w0)) a0 a0o a1 a2 S0 Q):AC w0 GC [(.ptr a0 a0o),(.int .i64 a1),(.int .i64 a2)] S0 Q:=Ac w0 Tryz.func328 (by kernel_rfl) (by kernel_rfl) h
def M1(Ca:CaT)(a0 a0o:Nat)(S0:St)(Q:QT):Prop:=
 AA (AO Bh S0 (.ptr a0 (a0o+0))) fun t8=>
 AA (A9 (AV.strip t8)) fun t9=>
 AA (AJ .sub t9 (.int .i64 1)) fun t10=>
 AA (AO Bh S0 (.ptr a0 (a0o+0))) fun t14=>
 AA (Aa BE (AV.strip t14) (AV.strip t10)) fun t16=>
 AA (AO BE S0 t16) fun t17=>
 AA (AI BE (some [(.str []),(.int .i64 0),(.vs 1 [] .nil)]) 0 (AV.strip t17)) fun b4=>
 AA (AO Bh S0 (.ptr a0 (a0o+0))) fun t22=>
 AA (Dk BE (AV.strip0 t22) none (some (AV.strip t10)) none) fun t24=>
 AA (Bx Bh (stripMem S0 (.ptr a0 (a0o+0))) (.ptr a0 (a0o+0)) t24) fun S=>
 AA (AD BE (some b4) 0) fun t27=>
 AA (RP BE Vl (AV.strip t27)) fun t28=>
 Q t28 S
theorem TS{w0 a0 a0o S0 Q}(h:M1 (AP (En w0)) a0 a0o S0 Q):AC w0 Gf [(.ptr a0 a0o)] S0 Q:=Ac w0 Tryz.func329 (by kernel_rfl) (by kernel_rfl) h
def LR(Ca:CaT)(a0 a0o:Nat)(a1 a2:Int)(S0:St)(Q:QT):Prop:=
 AA (AO Bh S0 (.ptr a0 (a0o+0))) fun t9=>
 AA (AO Bh S0 (.ptr a0 (a0o+0))) fun t14=>
 AA (AO Bh S0 (.ptr a0 (a0o+0))) fun t19=>
 AA (Aa BE (AV.strip t19) (.int .i64 a2)) fun t21=>
 AA (AO BE S0 t21) fun t22=>
 AA (AO Bh S0 (.ptr a0 (a0o+0))) fun t26=>
 AA (Aa BE (AV.strip t26) (.int .i64 a1)) fun t28=>
 AA (AO BE S0 t28) fun t29=>
 AA (Aa BE (AV.strip t9) (.int .i64 a1)) fun t30=>
 AA (Bx BE S0 t30 (AV.strip t22)) fun S=>
 AA (Aa BE (AV.strip t14) (.int .i64 a2)) fun t31=>
 AA (Bx BE S t31 (AV.strip t29)) fun S_2=>
 Q (.tup []) S_2
theorem R2{w0 a0 a0o a1 a2 S0 Q}(h:LR (AP (En w0)) a0 a0o a1 a2 S0 Q):AC w0 GF [(.ptr a0 a0o),(.int .i64 a1),(.int .i64 a2)] S0 Q:=Ac w0 Tryz.func330 (by kernel_rfl) (by kernel_rfl) h
end Go.Av
