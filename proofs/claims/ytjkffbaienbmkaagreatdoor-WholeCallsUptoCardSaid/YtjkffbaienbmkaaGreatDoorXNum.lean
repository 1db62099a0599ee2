/- Parts of the proofs of this seat: abstract values over the model, and what the functions of the program do. No condition. -/
import Derived.Test.YtjkffbaienbmkaaGreatDoorXSplit
import Derived.Test.YtjkffbaienbmkaaGreatDoorM14
import Derived.Test.YtjkffbaienbmkaaGreatDoorY19
import Derived.Test.YtjkffbaienbmkaaGreatDoorXBldB
import Derived.Test.YtjkffbaienbmkaaGreatDoorXCut
import Derived.Test.YtjkffbaienbmkaaGreatDoorD0
import Derived.Test.YtjkffbaienbmkaaGreatDoorDOp
import Derived.Shelf.Strconv.Itoa3
import Derived.Lib.AppendIntMem
import Derived.Shelf.Strconv.AtoiAll
import Derived.Lib.AtoiErrMem
set_option linter.all false
set_option maxRecDepth 100000
namespace Go.Proofs
open Go.Shelf Go.Av
shelf_lay LaysM.n171 Nm 171 at Tryz as Tryz.lays171
end Go.Proofs
namespace Go.Av
open Go.Proofs Go.Shelf Go.RowKit
def TabL(w0:World):Prop:=Lib.TabIs Tryz.prog w0 "internal/strconv.uint64pow10" .u64 Lib.pow10Tab
theorem var_old{E:Env}{G:Gh}{w:World}{S:St}(h:Rel E G w S){P:Program}{name:String}{cs:Array Value}(hv:E.w0.var? P name=some cs):w.var? P name=some cs:=by
 unfold World.var? at hv ⊢;cases hg:P.globalNamed name with
 |none=>rw[hg] at hv;cases hv
 |some g=>
  rw[hg] at hv;simp only[Option.bind_some] at hv ⊢;have hlt:g < E.w0.heap.size:=by
   split at hv
   ·rename_i hh;exact(Array.getElem?_eq_some_iff.1 hh).1
   ·cases hv
  rw[(h.old g hlt).1];exact hv
set_option maxRecDepth 100000 in
theorem Itoa_A{w0:World}{S:St}{n:Int}(ht:TabL w0)(hn:od n){Q:AV→St→Prop}(hq:Q (.str (numS n)) S):AC w0 F_strconv_Itoa [.int .i64 n] S Q:=by
 refine AP.of_below_rel fn_strconv_Itoa (by kernel_rfl) (by kernel_rfl) fun G w args' hr hl' ha=>?_
 obtain⟨v,rfl⟩:∃v,args'=#[v]:=by
  match args',hl' with
  |⟨[v]⟩,_=>exact⟨v,rfl⟩
 have h0':=ha 0 _ v rfl rfl;cases h0';refine(Any.strconv_Itoa Tryz.lays171 n hn.1 hn.2 w (var_old hr ht)).mono ?_;rintro e w' ⟨rfl,k,os,rfl⟩;exact⟨_,.str (numS n),rfl,Lib.below_grow _ w (Nat.le_refl _) k os,.str _,rfl,hq⟩
end Go.Av
set_option maxRecDepth 100000
namespace Go.Proofs
open Go.Shelf Go.Av
shelf_lay LaysC.n172 Nm 172 at Tryz as Tryz.lays172
end Go.Proofs
namespace Go.Av
open Go.Proofs Go.Shelf Go.RowKit
def ErrL(w0:World)(g:Nat):Prop:=∃ev,w0.cell? ⟨g,0,none⟩=some ev∧(ev= .nilIface∨∃te pe,ev= .iface te pe)
def AtL(w0:World):Prop:=ErrL w0 (Tryz.lays172_ren.g 15)∧ErrL w0 (Tryz.lays172_ren.g 16)
def atoiV(s:Str):Int:=match Lib.atoiAll s with| .ok v=>v| .«syntax»=>0| .range=>Lib.atoiSat s
def atoiE(s:Str):AV:=match Lib.atoiAll s with| .ok _=>.nilifc|_=>.ifc (Tryz.lays172_ren.t 168) .undef
set_option maxRecDepth 100000 in
theorem Atoi_A{w0:World}{S:St}{s:Str}(he:AtL w0)(hs:s.length≤281474976710656){Q:AV→St→Prop}(hq:Q (.tup [.int .i64 (atoiV s),atoiE s]) S):AC w0 F_strconv_Atoi [.str s] S Q:=by
 refine AP.of_below_tup fn_strconv_Atoi (by kernel_rfl) (by kernel_rfl) fun G w args' hr hl' ha=>?_
 obtain⟨v,rfl⟩:∃v,args'=#[v]:=by
  match args',hl' with
  |⟨[v]⟩,_=>exact⟨v,rfl⟩
 have h0':=ha 0 _ v rfl rfl;cases h0';unfold atoiV atoiE at hq;have hsz:(⟨s.toArray⟩:ByteArray).size≤281474976710656:=by simpa[ByteArray.size] using hs
 cases hat:Lib.atoiAll s with
 |ok v=>
  rw[hat] at hq;refine(Any.strconv_Atoi_ok Tryz.lays172 ⟨s.toArray⟩ (by omega) v hat w).mono ?_
  rintro e w' ⟨rfl,hw⟩;have hb:Below w.heap.size w w':=by
   rcases hw with rfl|⟨t,rfl⟩
   ·exact Below.refl _ _
   ·exact Lib.bytesWorld_below _ _ _
  refine⟨_,[.int .i64 v,.nilifc],rfl,hb,.tup _ _ rfl ?_,by simp[AV.cell1,AV.free1,AV.own],hq⟩
  intro i x u hx hv
  match i,hx,hv with
  |0,hx,hv=>cases hx;cases hv;exact .int _ _
  |1,hx,hv=>cases hx;cases hv;exact .nilifc
 |«syntax»=>
  rw[hat] at hq;obtain⟨ev,h1,h2⟩:=he.1;refine(Any.strconv_Atoi_syntax Tryz.lays172 ⟨s.toArray⟩ hsz hat ev w (m3 hr h1) h2).mono ?_;rintro e w' ⟨N,rfl,_,_,hb⟩;refine⟨_,[.int .i64 0,.ifc (Tryz.lays172_ren.t 168) .undef],rfl,hb,.tup _ _ rfl ?_,by simp[AV.cell1,AV.free1,AV.own],hq⟩
  intro i x u hx hv
  match i,hx,hv with
  |0,hx,hv=>cases hx;cases hv;exact .int _ _
  |1,hx,hv=>cases hx;cases hv;exact .ifc _ _ _ (.undef _)
 |range=>
  rw[hat] at hq;obtain⟨ev,h1,h2⟩:=he.2;refine(Any.strconv_Atoi_range Tryz.lays172 ⟨s.toArray⟩ hsz hat ev w (m3 hr h1) h2).mono ?_;rintro e w' ⟨N,rfl,_,_,hb⟩;refine⟨_,[.int .i64 (Lib.atoiSat s),.ifc (Tryz.lays172_ren.t 168) .undef],rfl,hb,.tup _ _ rfl ?_,by simp[AV.cell1,AV.free1,AV.own],hq⟩
  intro i x u hx hv
  match i,hx,hv with
  |0,hx,hv=>cases hx;cases hv;exact .int _ _
  |1,hx,hv=>cases hx;cases hv;exact .ifc _ _ _ (.undef _)
theorem call_Number_A{w0:World}{S:St}{s:Str}(ht:TabL w0)(he:AtL w0)(hs:s.length≤1048576000){Q:AV→St→Prop}(hq:Q (.tup [.int .i64 (atoiV s),.bool (numOf s).isSome]) S):AC w0 F_call_Number [.str s] S Q:=by
 apply call_Number_ok;unfold G_call_Number;refine Atoi_A he (by omega) ?_
 unfold numOf at hq;unfold atoiV atoiE;unfold atoiV at hq;cases hat:Lib.atoiAll s with
 |ok v=>
  rw[hat] at hq;simp[Gw,eqA,AH];refine Itoa_A ht (Lib.atoiAll_bounds hat) ?_
  by_cases e:numS v=s
  ·simp[e] at hq ⊢;exact hq
  ·simp[e] at hq ⊢;exact hq
 |«syntax»=>
  rw[hat] at hq;simp[Gw,eqA,AH];exact hq
 |range=>
  rw[hat] at hq;simp[Gw,eqA,AH];exact hq
theorem atoiV_num{s:Str}{n:Int}(h:numOf s=some n):atoiV s=n:=by
 unfold numOf at h;unfold atoiV;cases hat:Lib.atoiAll s with
 |ok v=>rw[hat] at h;simp only at h ⊢;split at h<;>cases h;rfl
 |«syntax»=>rw[hat] at h;cases h
 |range=>rw[hat] at h;cases h
set_option maxRecDepth 100000
open Go.Proofs
theorem hexd{d:Nat}(h:d < 16):([48,49,50,51,52,53,54,55,56,57,97,98,99,100,101,102]:Str)[d]? =some (digB d):=by
 have:∀d,d < 16→([48,49,50,51,52,53,54,55,56,57,97,98,99,100,101,102]:Str)[d]? =some (digB d):=by decide
 exact this d h
theorem shr4{n:Nat}:AJ .shr (.int .u8 (n:Int)) (.int .u64 4)=some (.int .u8 ((n / 16:Nat):Int)):=by
 simp only[AJ];rw[if_neg (by omega)]
 simp only[IntKind.bits];have h5:(2:Int) ^ (min (Int.toNat 4) 8)=((16:Nat):Int):=rfl;rw[h5,Int.fdiv_eq_ediv_of_nonneg _ (Int.natCast_nonneg _)];rfl
theorem u8_wrapn{n:Nat}(h:n < 256):IntKind.u8.wrap (n:Int)=(n:Int):=by
 simp[IntKind.wrap,IntKind.bits,IntKind.signed];omega
theorem and15{n:Nat}(h:n < 256):AJ .and (.int .u8 (n:Int)) (.int .u8 15)=some (.int .u8 ((n % 16:Nat):Int)):=by
 simp only[AJ,if_true,Gb];have e:∀n:Nat,n < 256→(BitVec.ofInt 8 (n:Int)&&&BitVec.ofInt 8 15).toNat=n % 16:=by decide+kernel
 show some (AV.int .u8 (IntKind.u8.wrap (((BitVec.ofInt 8 (n:Int)&&&BitVec.ofInt 8 15).toNat:Nat):Int)))=_
 rw[e n h,u8_wrapn (by omega)]
theorem hexc1(c:UInt8):Fd (.str [48,49,50,51,52,53,54,55,56,57,97,98,99,100,101,102]) (.int .u8 ((c.toNat:Int) / 16))=some (.int .u8 ((digB (c.toNat / 16)).toNat:Int)):=by
 have hlt:=c.toNat_lt;rw[show (c.toNat:Int) / 16=((c.toNat / 16:Nat):Int) by omega,kA,hexd (by omega)]
 rfl
theorem hexc2(c:UInt8):Fd (.str [48,49,50,51,52,53,54,55,56,57,97,98,99,100,101,102]) (.int .u8 ((c.toNat:Int) % 16))=some (.int .u8 ((digB (c.toNat % 16)).toNat:Int)):=by
 have hlt:=c.toNat_lt;rw[show (c.toNat:Int) % 16=((c.toNat % 16:Nat):Int) by omega,kA,hexd (by omega)]
 rfl
theorem hexF_snoc(s:Str)(c:UInt8):hexF (s++[c])=hexF s++[digB (c.toNat / 16),digB (c.toNat % 16)]:=by
 induction s with
 |nil=>rfl
 |cons x s ih=>rw[List.cons_append,hexF,ih];rfl
set_option maxRecDepth 100000 in
theorem call_Hex_A{w0:World}{S:St}{s:Str}(hs:s.length≤100000000){Q:AV→St→Prop}(hq:∀S',Sx S S'→Q (.str (hexS s)) S'):AC w0 F_call_Hex [.str s] S Q:=by
 apply call_Hex_ok;unfold G_call_Hex;unfold hexS at hq
 by_cases h:s=[]
 ·subst h;simpa using hq S (Sx.refl _)
 rw[if_neg h] at hq;have hb:(s==[])=false:=by simpa using h
 simp[hb,h];rw[AH];refine Al s (fun i (_:Unit)=>([.int .i64 i],[])) (fun i _ S'=>Sx S S'∧BldB S' S.length (hexF (s.take i))) () rfl ⟨.app _ _,by simpa[hexF] using Bld_newB S⟩ ?_ ?_
 ·rintro i _ S' v b c hi hxi hd hcc hmem ⟨hSx,hB⟩ hv;simp at hv;have hlt:=c.toNat_lt;have hfl:=hexF_len (s.take i);have htl:(s.take i).length≤s.length:=by simp;omega
  simp[hv,hcc,hxi];rw[shr4];simp[hexc1];refine Builder_WriteByte_A hB (by unfold lim;omega) (fun S2 h1 h2 h3=>?_)
  rw[and15 hlt];simp[hexc2];refine Builder_WriteByte_A h3 (by unfold lim;simp;omega) (fun S3 k1 k2 k3=>?_)
  try simp (disch:=omega) only[wrap64]
  refine .next hi () rfl ⟨fun j hj=>?_,?_⟩
  ·rw[k2 j (by omega),h2 j (by omega),hSx j hj]
  ·have e:s.take (i+1)=s.take i++[c]:=by rw[List.take_succ,hxi];rfl
   rw[e,hexF_snoc];simpa using k3
 ·rintro _ S' v b ⟨hSx,hB⟩ hv N;simp at hv;rw[List.take_length] at hB;have hfl:=hexF_len s;simp[hv];refine Builder_String_AB hB (by unfold lim;omega) (fun S3 h4 h5=>?_)
  exact hq _ fun j hj=>by
   have:=hB.lt;rw[h5 j (by omega),hSx j hj]
set_option maxRecDepth 100000
open Go.Proofs
theorem ref19_digit_A{w0:World}{S:St}{d:Nat}(hd:d < 16){Q:AV→St→Prop}(hq:Q (.int .u8 ((digB d).toNat:Int)) S):AC w0 F_ref19_digit [.int .i64 d] S Q:=by
 apply ref19_digit_ok;unfold G_ref19_digit;rw[digB_toNat hd] at hq
 by_cases h:d < 10
 ·have hc:(d:Int) < 10:=by omega
  rw[if_pos h] at hq;have e:IntKind.u8.wrap (IntKind.i64.wrap (48+(d:Int)))=((48+d:Nat):Int):=by
   rw[wrap64 (by omega) (by omega),show (48+(d:Int))=((48+d:Nat):Int) by omega,u8_wrapn (by omega)]
  rw[e];simp[hc];simpa using hq
 ·have hc:¬(d:Int) < 10:=by omega
  rw[if_neg h] at hq;have e:IntKind.u8.wrap (IntKind.i64.wrap (IntKind.i64.wrap (97+(d:Int)) - 10))=((87+d:Nat):Int):=by
   rw[wrap64 (n:=97+(d:Int)) (by omega) (by omega),wrap64 (by omega) (by omega),show (97+(d:Int) - 10)=((87+d:Nat):Int) by omega,u8_wrapn (by omega)]
  rw[e];simp[hc];simpa using hq
theorem bytesOf_bc(l:Str):bytesOf (byteCells l)=some l:=by
 induction l with
 |nil=>rfl
 |cons x l ih=>
  simp only[byteCells,List.map_cons] at ih ⊢;simp only[bytesOf,ih];simp
set_option maxRecDepth 100000 in
theorem ref19_Hex_A{w0:World}{S:St}{s:Str}(hs:s.length≤100000000){Q:AV→St→Prop}(hq:Q (.str (hexS s)) S):AC w0 F_ref19_Hex [.str s] S Q:=by
 apply ref19_Hex_ok;unfold G_ref19_Hex;unfold hexS at hq
 by_cases h:s=[]
 ·subst h;simpa using hq
 rw[if_neg h] at hq;have hb:(s==[])=false:=by simpa using h
 simp[hb,h];rw[AH];refine Al s (fun i (r:Rt)=>([.vs 1 (byteCells (hexF (s.take i))) r,.int .i64 i],[])) (fun i r S'=>S'=S∧r≠ .none) .full (by simp[hexF,byteCells]) ⟨rfl,by simp⟩ ?_ ?_
 ·rintro i r S' v b c hi hxi hd hcc hmem ⟨rfl,hr⟩ hv;simp at hv;have hlt:=c.toNat_lt;have hfl:=hexF_len (s.take i);have htl:(s.take i).length≤s.length:=by simp;omega
  have e1:AJ .quo (.int .i64 (c.toNat:Int)) (.int .i64 16)=some (.int .i64 ((c.toNat / 16:Nat):Int)):=by
   simp[AJ,Gb];exact wrap64 (by omega) (by omega)
  have e2:AJ .rem (.int .i64 (c.toNat:Int)) (.int .i64 16)=some (.int .i64 ((c.toNat % 16:Nat):Int)):=by
   simp[AJ,Gb];exact Int.tmod_eq_emod_of_nonneg (by omega)
  have e0:IntKind.i64.wrap (c.toNat:Int)=(c.toNat:Int):=wrap64 (by omega) (by omega)
  simp only[hv,hcc,hxi];simp[hv,hcc,hxi,e0];rw[e1,e2];obtain⟨d1,hd1⟩:∃d1,d1=c.toNat / 16:=⟨_,rfl⟩;obtain⟨d2,hd2⟩:∃d2,d2=c.toNat % 16:=⟨_,rfl⟩;rw[←hd1,←hd2];simp;refine ref19_digit_A (by omega) ?_
  simp;refine ref19_digit_A (by omega) ?_
  have hbl:(byteCells (hexF (s.take i))).length=(hexF (s.take i)).length:=by simp[byteCells]
  have e:s.take (i+1)=s.take i++[c]:=by rw[List.take_succ,hxi];rfl
  simp[AT,BM,hr,hbl,show (hexF (s.take i)).length+2≤lim by unfold lim;omega]
  try simp (disch:=omega) only[wrap64]
  exact .next hi (.own (By HG r)) (by rw[e,hexF_snoc,←hd1,←hd2];simp[byteCells]) ⟨rfl,by simp⟩
 ·rintro r S' v b ⟨rfl,hr⟩ hv N;simp at hv;simp[hv,KX,WX,bytesOf_bc];exact hq
theorem dec_len:∀(k u:Nat),u < 10 ^ (k+1)→(Lib.decDigits u).length≤k+1
 |0,u,h=>by rw[dec_step,if_pos (by omega)];simp
 |k+1,u,h=>by
  rw[dec_step];split
  ·simp
  ·rw[List.length_append,List.length_singleton];have:=dec_len k (u / 10) (by rw[Nat.pow_succ] at h;omega)
   omega
theorem numS_len{n:Int}(h:od n):(numS n).length≤20:=by
 have h1:=dec_len 18 n.natAbs (by omega)
 have h2:=dec_len 18 n.toNat (by omega)
 simp only[numS,Lib.itoa];split<;>simp<;>omega
theorem lastN{n:Int}(h:n < 0):UInt8.ofNat (IntKind.u8.wrap (IntKind.i64.wrap (48 - n.tmod 10))).toNat=digC ((-n).toNat % 10):=by
 have hm:n.tmod 10= -(((-n).toNat % 10:Nat):Int):=by
  have h1:n= -((-n).toNat:Int):=by omega
  conv=>lhs;rw[h1]
  rw[Int.neg_tmod,Int.tmod_eq_emod_of_nonneg (by omega)]
  omega
 rw[hm,wrap64 (by omega) (by omega),show (48 - -(((-n).toNat % 10:Nat):Int))=((48+(-n).toNat % 10:Nat):Int) by omega,u8_wrapn (by omega)]
 rfl
theorem lastP{n:Int}(h:¬n < 0):UInt8.ofNat (IntKind.u8.wrap (IntKind.i64.wrap (48+n.tmod 10))).toNat=digC (n.toNat % 10):=by
 have hm:n.tmod 10=((n.toNat % 10:Nat):Int):=by
  rw[Int.tmod_eq_emod_of_nonneg (by omega)]
  omega
 rw[hm,wrap64 (by omega) (by omega),show (48+((n.toNat % 10:Nat):Int))=((48+n.toNat % 10:Nat):Int) by omega,u8_wrapn (by omega)]
 rfl
set_option maxRecDepth 100000 in
theorem ref19_Num_A{w0:World}:∀(k:Nat) {S:St} {n:Int} {Q:AV→St→Prop},od n→n.natAbs < k→Q (.str (numS n)) S→AC w0 F_ref19_Num [.int .i64 n] S Q:=by
 intro k
 induction k with
 |zero=>intro S n Q hn hk;omega
 |succ k ih=>
  intro S n Q hn hk hq;apply ref19_Num_ok;unfold G_ref19_Num;have hn':od n:=hn;obtain⟨hn1,hn2⟩:=hn
  by_cases h0:n < 0
  ·simp[h0,KX,WX,bytesOf];rw[lastN h0]
   by_cases h1:-10 < n
   ·rw[numS_neg h1 h0] at hq;simp[h1];rw[Gk (by simp)]
    have e:(-n).toNat % 10=(-n).toNat:=by omega
    rw[e];exact hq
   ·rw[numS_low (by omega)] at hq
    have hd:n.tdiv 10= -(((-n).toNat / 10:Nat):Int):=by
     have h2:n= -((-n).toNat:Int):=by omega
     conv=>lhs;rw[h2]
     rw[Int.neg_tdiv,Int.tdiv_eq_ediv_of_nonneg (by omega)]
     simp
    have hr:od (n.tdiv 10):=⟨by omega,by omega⟩
    have hl:=numS_len hr;simp[h1];rw[wrap64 hr.1 hr.2];refine ih hr (by omega) ?_
    rw[Gk (by simp;omega)]
    exact hq
  ·simp[h0,KX,WX,bytesOf];rw[lastP h0]
   by_cases h1:n < 10
   ·rw[numS_pos (by omega) h1] at hq
    simp[h1];have e:n.toNat % 10=n.toNat:=by omega
    rw[e];exact hq
   ·rw[numS_big (by omega)] at hq
    have hd:n.tdiv 10=((n.toNat / 10:Nat):Int):=by rw[Int.tdiv_eq_ediv_of_nonneg (by omega)];omega
    have hr:od (n.tdiv 10):=⟨by omega,by omega⟩
    have hl:=numS_len hr;simp[h1];rw[wrap64 hr.1 hr.2];refine ih hr (by omega) ?_
    rw[Gk (by simp;omega)]
    exact hq
set_option maxRecDepth 100000
open Go.Proofs
theorem idx_dig(c:UInt8):Lib.indexByte [48,49,50,51,52,53,54,55,56,57,97,98,99,100,101,102] c=match digV c with|some d=>(d:Int)|none=>-1:=by
 have:∀n:Nat,n < 256→Lib.indexByte [48,49,50,51,52,53,54,55,56,57,97,98,99,100,101,102] (UInt8.ofNat n)=match digV (UInt8.ofNat n) with|some d=>(d:Int)|none=>-1:=by decide+kernel
 have h:=this c.toNat c.toNat_lt
 rwa [UInt8.ofNat_toNat] at h
theorem pairV{x y:Nat}(hx:x < 16)(hy:y < 16):(AJ .shl (.int .i64 (x:Int)) (.int .u64 4)).bind (fun t=>AJ .or t (.int .i64 (y:Int)))=some (.int .i64 ((x*16+y:Nat):Int)):=by
 have h1:AJ .shl (.int .i64 (x:Int)) (.int .u64 4)=some (.int .i64 ((x*16:Nat):Int)):=by
  simp only[AJ];rw[if_neg (by omega)]
  simp only[IntKind.bits];have:(x:Int)*2 ^ (min (Int.toNat 4) 64)=((x*16:Nat):Int):=by
   rw[show (min (Int.toNat 4) 64)=4 from rfl];omega
  rw[this,wrap64 (by omega) (by omega)]
 rw[h1];simp only[Option.bind_some,AJ,if_true,Gb];have e:∀x:Nat,x < 16→∀y:Nat,y < 16→(BitVec.ofInt 64 ((x*16:Nat):Int)|||BitVec.ofInt 64 (y:Int)).toNat=x*16+y:=by decide+kernel
 show some (AV.int .i64 (IntKind.i64.wrap (((BitVec.ofInt 64 ((x*16:Nat):Int)|||BitVec.ofInt 64 (y:Int)).toNat:Nat):Int)))=_
 rw[e x hx y hy,wrap64 (by omega) (by omega)]
theorem shl4{x:Nat}(hx:x < 16):AJ .shl (.int .i64 (x:Int)) (.int .u64 4)=some (.int .i64 ((x*16:Nat):Int)):=by
 simp only[AJ];rw[if_neg (by omega)]
 simp only[IntKind.bits];have:(x:Int)*2 ^ (min (Int.toNat 4) 64)=((x*16:Nat):Int):=by
  rw[show (min (Int.toNat 4) 64)=4 from rfl];omega
 rw[this,wrap64 (by omega) (by omega)]
theorem or4{x y:Nat}(hx:x < 16)(hy:y < 16):AJ .or (.int .i64 ((x*16:Nat):Int)) (.int .i64 (y:Int))=some (.int .i64 ((x*16+y:Nat):Int)):=by
 have:=pairV hx hy;rw[shl4 hx] at this;exact this
theorem unhex_app:∀(out:Str) (t:Str),unhex (hexF out++t)=(unhex t).map (out++·)
 |[],t=>by simp[hexF]
 |b::l,t=>by
  have hb:=b.toNat_lt;rw[hexF,List.cons_append,List.cons_append,unhex,digV_digB (by omega),digV_digB (by omega),unhex_app l t]
  simp only[Option.map_map];congr 1;funext x;simp only[Function.comp_apply,List.cons_append];congr 1;apply UInt8.toNat_inj.1;rw[UInt8.toNat_ofNat'];omega
set_option maxRecDepth 100000 in
theorem call_Bytes_A{w0:World}{S:St}{s:Str}(hs:s.length≤100000000){Q:AV→St→Prop}(hq:∀c,(∀x,bytesS s=some x→c=x)→Q (.tup [.str c,.bool (bytesS s).isSome]) S):AC w0 F_call_Bytes [.str s] S Q:=by
 apply call_Bytes_ok;unfold G_call_Bytes;unfold bytesS at hq
 by_cases h:s=[45]
 ·subst h;have:=hq [] (by simp)
  simpa using this
 rw[if_neg h] at hq;have hb:(s==[45])=false:=by simpa using h
 have ht:((s.length:Int).tdiv 2)=((s.length / 2:Nat):Int):=by rw[Int.tdiv_eq_ediv_of_nonneg (by omega)];omega
 have hw:IntKind.i64.wrap ((s.length:Int).tdiv 2)=((s.length / 2:Nat):Int):=by rw[ht,wrap64 (by omega) (by omega)]
 have hlim:((s.length / 2:Nat):Int)≤(lim:Nat):=by unfold lim;omega
 rw[hw];have hmk:D3 HG false S (.int .i64 0) (.int .i64 ((s.length / 2:Nat):Int))=some (.vs 1 [] (.own TD),S):=by
  simp only[D3];rw[if_pos (by omega)]
  rfl
 rw[hmk];simp[hb];rw[AH];refine De (fun σ:Str×Rt=>([.vs 1 (byteCells σ.1) σ.2,.int .i64 ((2*σ.1.length:Nat):Int)],[])) (fun k σ S2=>S2=S∧σ.2≠ .none∧(∃t,s=hexF σ.1++t)∧k=s.length - σ.1.length) s.length ([],.own TD) (by simp[byteCells]) ⟨rfl,by simp,⟨s,by simp[hexF]⟩,by simp⟩ ?_
 rintro k ⟨out,r⟩ S2 v b ⟨rfl,hr,⟨t,ht⟩,hk⟩ hv;simp at hv hr hk ht;obtain⟨hv1,hv2⟩:=hv;have hfl:=hexF_len out;have hsl:s.length=2*out.length+t.length:=by rw[ht,List.length_append,hfl]
 have hw1:IntKind.i64.wrap (2*(out.length:Int)+1)=2*(out.length:Int)+1:=wrap64 (by omega) (by omega)
 have hw2:IntKind.i64.wrap (2*(out.length:Int)+2)=2*(out.length:Int)+2:=wrap64 (by omega) (by omega)
 simp[hv1,hv2,hw1,hw2];have hun:unhex s=(unhex t).map (out++·):=by rw[ht,unhex_app]
 match t,ht,hsl,hun with
 |[],ht,hsl,hun=>
  have hlt:¬(2*(out.length:Int)+1 < s.length):=by simp at hsl;omega
  have hm:((s.length:Int).tmod 2)=0:=by rw[Int.tmod_eq_emod_of_nonneg (by omega)];simp at hsl;omega
  simp[hlt,KX,WX,bytesOf_bc,hm];have:=hq out (fun x hx=>by
   split at hx
   ·cases hx
   ·rw[hun] at hx;simpa[unhex] using hx)
  by_cases h0:s=[]
  ·simp[h0] at this ⊢;exact this
  ·have hem:s.isEmpty=false:=by cases s with|nil=>exact absurd rfl h0|cons _ _=>rfl
   simp[h0,hun,unhex] at this;rw[hem];exact this
 |[a],ht,hsl,hun=>
  have hlt:¬(2*(out.length:Int)+1 < s.length):=by simp at hsl;omega
  have hm:¬((s.length:Int).tmod 2)=0:=by rw[Int.tmod_eq_emod_of_nonneg (by omega)];simp at hsl;omega
  simp[hlt,KX,WX,bytesOf_bc,hm];have:=hq out (fun x hx=>by
   split at hx
   ·cases hx
   ·rw[hun] at hx;simp[unhex] at hx)
  by_cases h0:s=[]
  ·simp[h0] at this ⊢;exact this
  ·simp[h0,hun,unhex] at this ⊢;exact this
 |a::b::t',ht,hsl,hun=>
  have hs0:s≠[]:=by rw[ht];simp
  rw[if_neg hs0] at hq;have hlt:2*(out.length:Int)+1 < s.length:=by simp at hsl;omega
  have ga:s[2*out.length]? =some a:=by rw[ht,List.getElem?_append_right (by omega),hfl];simp
  have gb:s[2*out.length+1]? =some b:=by rw[ht,List.getElem?_append_right (by omega),hfl];simp
  have ca:Fd (.str s) (.int .i64 (2*(out.length:Int)))=some (.int .u8 a.toNat):=by
   rw[show 2*(out.length:Int)=((2*out.length:Nat):Int) by omega,kA,ga];rfl
  have cb:Fd (.str s) (.int .i64 (2*(out.length:Int)+1))=some (.int .u8 b.toNat):=by
   rw[show 2*(out.length:Int)+1=((2*out.length+1:Nat):Int) by omega,kA,gb];rfl
  simp[hlt,ca,cb];refine IndexByte_A ?_;refine IndexByte_A ?_;rw[idx_dig,idx_dig];have hbad:(digV a=none∨digV b=none)→Q (.tup [.str [],.bool false]) S2:=fun hc=>by
   have hn:unhex s=none:=by
    rw[hun,unhex];rcases hc with hc|hc
    ·rw[hc];rfl
    ·rw[hc];cases digV a<;>rfl
   have:=hq [] (fun x hx=>by rw[hn] at hx;cases hx)
   rw[hn] at this;exact this
  cases ha:digV a with
  |none=>
   simp[AH];exact hbad (.inl ha)
  |some x=>
   cases hbv:digV b with
   |none=>
    have:¬(x:Int) < 0:=by omega
    simp[AH,this];exact hbad (.inr hbv)
   |some y=>
    obtain⟨hx,hxa⟩:=digV_some ha;obtain⟨hy,hyb⟩:=digV_some hbv;have n1:¬(x:Int) < 0:=by omega
    have n2:¬(y:Int) < 0:=by omega
    have hu:=u8_wrapn (n:=x*16+y) (by omega)
    have hbl:(byteCells out).length=out.length:=by simp[byteCells]
    simp[AH,n1,n2];rw[shl4 hx];rw[Cf,or4 hx hy];simp[hu];simp[AT,BM,hr,hbl,show out.length+1≤lim by unfold lim;omega]
    refine⟨s.length - (out.length+1),(out++[UInt8.ofNat (x*16+y)],.own (By HG r)),by simp at hsl;omega,?_,rfl,by simp,⟨t',?_⟩,by simp⟩
    ·have e:(UInt8.ofNat (x*16+y)).toNat=x*16+y:=by rw[UInt8.toNat_ofNat'];omega
     have hu2:IntKind.u8.wrap ((x:Int)*16+y)=((UInt8.ofNat (x*16+y)).toNat:Int):=by rw[e];simpa using hu
     simp[byteCells,hu2];omega
    ·have e:(UInt8.ofNat (x*16+y)).toNat=x*16+y:=by rw[UInt8.toNat_ofNat'];omega
     rw[ht,hexF_snoc,e,show (x*16+y) / 16=x by omega,show (x*16+y) % 16=y by omega,←hxa,←hyb]
     simp
set_option maxRecDepth 100000
open Go.Proofs
def nmA:List AV:=[.str [],.str [108,111,111,107,117,112],.str [115,116,97,116],.str [114,101,97,100,108,105,110,107],.str [114,101,97,100],.str [111,112,101,110],.str [112,97,103,101],.str [99,108,111,115,101],.str [97,100,100],.str [114,101,109,111,118,101]]
theorem call_names_A{w0:World}{S:St}{Q:AV→St→Prop}(hq:Q (.agg nmA) S):AC w0 F_call_names [] S Q:=by
 apply call_names_ok;unfold G_call_names;exact hq
theorem nm_elem{k:Int}(h0:0≤k)(h9:k≤9):eM 10 AG (.agg nmA) (.int .i64 k)=some (.str (nameK k)):=by
 have:k=0∨k=1∨k=2∨k=3∨k=4∨k=5∨k=6∨k=7∨k=8∨k=9:=by omega
 rcases this with rfl|rfl|rfl|rfl|rfl|rfl|rfl|rfl|rfl|rfl<;>rfl
theorem nameK_len(k:Int):(nameK k).length≤8:=by
 unfold nameK
 repeat' split
 all_goals decide
theorem hexS_len(s:Str):(hexS s).length≤2*s.length+1:=by
 unfold hexS;split
 ·simp
 ·rw[hexF_len];omega
set_option maxRecDepth 100000 in
theorem call_Text_A{w0:World}(ht:TabL w0){S:St}{o:OpN}(ho:o.ok)(hp:o.path.length≤1048576)(hi:o.image.length≤1048576){Q:AV→St→Prop}(hq:∀S',Sx S S'→Q (.str (textP o)) S'):AC w0 F_call_Text [.agg o.c] S Q:=by
 unfold OpN.c;apply call_Text_ok;unfold G_call_Text;unfold textP at hq;simp
 by_cases h1:o.kind < 1
 ·rw[if_pos (.inl h1)] at hq;simp[h1,AH];exact hq S (Sx.refl _)
 by_cases h9:9 < o.kind
 ·rw[if_pos (.inr h9)] at hq;simp[h1,h9,AH];exact hq S (Sx.refl _)
 rw[if_neg (by omega)] at hq
 simp[h1,h9,AH];refine call_names_A ?_;rw[nm_elem (by omega) (by omega)]
 have hn:=nameK_len o.kind;simp;rw[Gk (by simp;omega)]
 simp;have hl1:=numS_len ho.off;have hl2:=numS_len ho.n;have hl3:=numS_len ho.id;generalize nameK o.kind=nm at hn hq ⊢
 by_cases k4:o.kind=4
 ·rw[if_pos k4] at hq;simp[k4];refine Itoa_A ht ho.off ?_;rw[Gk (by simp;omega)]
  simp;rw[Gk (by simp;omega)]
  simp;refine Itoa_A ht ho.n ?_;rw[Gk (by simp;omega)]
  simp;rw[Gk (by simp;omega)]
  simp;rw[Gk (by simp;omega)]
  simp;exact hq S (Sx.refl _)
 rw[if_neg k4] at hq
 by_cases k6:o.kind=6
 ·rw[if_pos k6] at hq;simp[k6];refine Itoa_A ht ho.id ?_;rw[Gk (by simp;omega)]
  simp;rw[Gk (by simp;omega)]
  simp;refine Itoa_A ht ho.n ?_;rw[Gk (by simp;omega)]
  simp;exact hq S (Sx.refl _)
 rw[if_neg k6] at hq
 by_cases k7:o.kind=7
 ·rw[if_pos (.inl k7)] at hq;simp[k7];refine Itoa_A ht ho.id ?_;rw[Gk (by simp;omega)]
  simp;exact hq S (Sx.refl _)
 by_cases k9:o.kind=9
 ·rw[if_pos (.inr k9)] at hq;simp[k9];refine Itoa_A ht ho.id ?_;rw[Gk (by simp;omega)]
  simp;exact hq S (Sx.refl _)
 rw[if_neg (by omega)] at hq
 by_cases k8:o.kind=8
 ·rw[if_pos k8] at hq;simp[k8];have hhl:=hexS_len o.image;refine call_Hex_A (by omega) (fun S2 hS2=>?_)
  rw[Gk (by simp;omega)]
  simp;exact hq S2 hS2
 rw[if_neg k8] at hq;simp[k4,k6,k7,k9,k8];rw[Gk (by simp;omega)]
 simp;exact hq S (Sx.refl _)
set_option maxRecDepth 100000
open Go.Proofs
theorem cutN_mem:∀(k:Nat) (s:Str),∀w∈cutN k s,w.length≤s.length
 |0,s,w,h=>by simp[cutN] at h;subst h;exact Nat.le_refl _
 |k+1,s,w,h=>by
  rw[cutN] at h;cases hc:cutB s with
  |none=>rw[hc] at h;simp at h;subst h;exact Nat.le_refl _
  |some p=>
   rw[hc] at h;have hl:=cutB_len hc;simp only[List.mem_cons] at h;rcases h with rfl|h
   ·omega
   ·have:=cutN_mem k p.2 w h;omega
def numsC(x y:Int)(r:Rt):AV:=.vs 1 [[.int .i64 x],[.int .i64 y]] r
set_option maxRecDepth 100000 in
theorem call_numbers_A{w0:World}(hm:KI w0)(ht:TabL w0)(he:AtL w0){S:St}{s:Str}{rest:Bool}(hs:s.length≤100000000){Q:AV→St→Prop}
  (hq:match numbersP rest s with|some (x,y,p)=>∀r:Rt,Q (.tup [numsC x y r.strip,.str p,.bool true]) S|none=>Q (.tup [.vs 1 [] .nil,.str [],.bool false]) S):AC w0 F_call_numbers [.str s,.int .i64 2,.bool rest] S Q:=by
 apply call_numbers_ok;unfold G_call_numbers;cases rest with
 |true=>
  rw[numbersP_true] at hq;simp[AH]
  try rw[show IntKind.i64.wrap (2+1)=((3:Nat):Int) from by rw[wrap64 (by omega) (by omega)];rfl]
  try rw[show IntKind.i64.wrap 3=((3:Nat):Int) from by rw[wrap64 (by omega) (by omega)];rfl]
  refine SplitN_A (n:=3) hm (by omega) (by omega) (by omega) ?_
  have hmem:=cutN_mem 2 s;rw[show 3 - 1=2 from rfl]
  rcases hL:cutN 2 s with _|⟨a,_|⟨b,_|⟨p,_|⟨q,l⟩⟩⟩⟩
  ·rw[hL] at hq;simp;exact hq
  ·rw[hL] at hq;simp;exact hq
  ·rw[hL] at hq;simp;exact hq
  ·rw[hL] at hq;simp at hq;simp[Dk,bnd];have hal:a.length≤100000000:=by have:=hmem a (by rw[hL];simp);omega
   have hbl:b.length≤100000000:=by have:=hmem b (by rw[hL];simp);omega
   have hbad:(numOf a=none∨numOf b=none)→Q (.tup [.vs 1 [] .nil,.str [],.bool false]) S:=fun hc=>by
    rcases hc with hc|hc
    ·rw[hc] at hq;exact hq
    ·rw[hc] at hq;cases hn:numOf a with
     |none=>rw[hn] at hq;exact hq
     |some x=>rw[hn] at hq;exact hq
   rw[show ([[AV.str a],[AV.str b]]:List (List AV))=([a,b]:List Str).map Bz from rfl]
   refine Al [a,b] (fun i (σ:List Int×Rt)=>([.vs 1 (σ.1.map fun n=>[.int .i64 n]) σ.2,.int .i64 i],[])) (fun i σ S'=>S'=S∧σ.2≠ .none∧([a,b].take i).map numOf=σ.1.map some) ([],.nil) rfl ⟨rfl,by simp,rfl⟩ ?_ ?_
   ·rintro i ⟨ns,r⟩ S' v bx w hi hxi hd hcc hmem2 ⟨rfl,hr,hns⟩ hv;simp at hv hr hns;obtain⟨hv1,hv2⟩:=hv;have hwl:w.length≤100000000:=by
     simp at hmem2;rcases hmem2 with rfl|rfl<;>assumption
    have hnl:ns.length≤2:=by
     have:=congrArg List.length hns;simp at this;simp at hi;omega
    have hrow:([[AV.str a],[AV.str b]]:List (List AV))[i]? =some [AV.str w]:=by
     have:(([a,b]:List Str).map Bz)[i]? =some (Bz w):=by rw[List.getElem?_map,hxi];rfl
     exact this
    have hi2:(i:Int) < 2:=by simp at hi;omega
    simp[hv1,hv2,hcc,hrow,hi2];refine call_Number_A (s:=w) ht he (by omega) ?_
    cases hw:numOf w with
    |none=>
     simp;refine hbad ?_;simp at hmem2;rcases hmem2 with rfl|rfl
     ·exact .inl hw
     ·exact .inr hw
    |some n=>
     rw[atoiV_num hw];simp[AT,BM,hr,show ns.length+1≤lim by unfold lim;omega]
     try simp (disch:=omega) only[wrap64]
     refine .next hi (ns++[n],.own (By AN r)) (by simp) ⟨rfl,by simp,?_⟩
     have hns2:([a,b].take i).map numOf=ns.map some:=by rw[List.map_take];exact hns
     have e2:[numOf a,numOf b].take (i+1)=([a,b].take (i+1)).map numOf:=by rw[List.map_take];rfl
     rw[e2,List.take_succ,hxi,List.map_append,hns2];simp[hw]
   ·rintro⟨ns,r⟩ S' v bx ⟨rfl,hr,hns⟩ hv N;simp at hv hns;obtain⟨hv1,hv2⟩:=hv;obtain⟨x,y,rfl⟩:∃x y,ns=[x,y]:=by
     match ns,hns with
     |[x,y],_=>exact⟨x,y,rfl⟩
     |[],hns=>simp at hns
     |[_],hns=>simp at hns
     |_::_::_::_,hns=>simp at hns
    simp at hns;rw[hns.1,hns.2] at hq;simp[hv1,hv2];simpa[numsC] using hq r
  ·rw[hL] at hq;have hne:¬((l.length:Int)+1+1+1+1=3):=by omega
   simp[hne];exact hq
 |false=>
  rw[numbersP_false] at hq;simp[AH]
  try rw[show IntKind.i64.wrap (2+1)=((3:Nat):Int) from by rw[wrap64 (by omega) (by omega)];rfl]
  try rw[show IntKind.i64.wrap 3=((3:Nat):Int) from by rw[wrap64 (by omega) (by omega)];rfl]
  refine SplitN_A (n:=2) hm (by omega) (by omega) (by omega) ?_
  have hmem:=cutN_mem 1 s;rw[show 2 - 1=1 from rfl]
  rcases hL:cutN 1 s with _|⟨a,_|⟨b,_|⟨p,_|⟨q,l⟩⟩⟩⟩
  ·rw[hL] at hq;simp;exact hq
  ·rw[hL] at hq;simp;exact hq
  ·rw[hL] at hq;simp at hq;simp[Dk,bnd];have hal:a.length≤100000000:=by have:=hmem a (by rw[hL];simp);omega
   have hbl:b.length≤100000000:=by have:=hmem b (by rw[hL];simp);omega
   have hbad:(numOf a=none∨numOf b=none)→Q (.tup [.vs 1 [] .nil,.str [],.bool false]) S:=fun hc=>by
    rcases hc with hc|hc
    ·rw[hc] at hq;exact hq
    ·rw[hc] at hq;cases hn:numOf a with
     |none=>rw[hn] at hq;exact hq
     |some x=>rw[hn] at hq;exact hq
   rw[show ([[AV.str a],[AV.str b]]:List (List AV))=([a,b]:List Str).map Bz from rfl]
   refine Al [a,b] (fun i (σ:List Int×Rt)=>([.vs 1 (σ.1.map fun n=>[.int .i64 n]) σ.2,.int .i64 i],[])) (fun i σ S'=>S'=S∧σ.2≠ .none∧([a,b].take i).map numOf=σ.1.map some) ([],.nil) rfl ⟨rfl,by simp,rfl⟩ ?_ ?_
   ·rintro i ⟨ns,r⟩ S' v bx w hi hxi hd hcc hmem2 ⟨rfl,hr,hns⟩ hv;simp at hv hr hns;obtain⟨hv1,hv2⟩:=hv;have hwl:w.length≤100000000:=by
     simp at hmem2;rcases hmem2 with rfl|rfl<;>assumption
    have hnl:ns.length≤2:=by
     have:=congrArg List.length hns;simp at this;simp at hi;omega
    have hrow:([[AV.str a],[AV.str b]]:List (List AV))[i]? =some [AV.str w]:=by
     have:(([a,b]:List Str).map Bz)[i]? =some (Bz w):=by rw[List.getElem?_map,hxi];rfl
     exact this
    have hi2:(i:Int) < 2:=by simp at hi;omega
    simp[hv1,hv2,hcc,hrow,hi2];refine call_Number_A (s:=w) ht he (by omega) ?_
    cases hw:numOf w with
    |none=>
     simp;refine hbad ?_;simp at hmem2;rcases hmem2 with rfl|rfl
     ·exact .inl hw
     ·exact .inr hw
    |some n=>
     rw[atoiV_num hw];simp[AT,BM,hr,show ns.length+1≤lim by unfold lim;omega]
     try simp (disch:=omega) only[wrap64]
     refine .next hi (ns++[n],.own (By AN r)) (by simp) ⟨rfl,by simp,?_⟩
     have hns2:([a,b].take i).map numOf=ns.map some:=by rw[List.map_take];exact hns
     have e2:[numOf a,numOf b].take (i+1)=([a,b].take (i+1)).map numOf:=by rw[List.map_take];rfl
     rw[e2,List.take_succ,hxi,List.map_append,hns2];simp[hw]
   ·rintro⟨ns,r⟩ S' v bx ⟨rfl,hr,hns⟩ hv N;simp at hv hns;obtain⟨hv1,hv2⟩:=hv;obtain⟨x,y,rfl⟩:∃x y,ns=[x,y]:=by
     match ns,hns with
     |[x,y],_=>exact⟨x,y,rfl⟩
     |[],hns=>simp at hns
     |[_],hns=>simp at hns
     |_::_::_::_,hns=>simp at hns
    simp at hns;rw[hns.1,hns.2] at hq;simp[hv1,hv2];simpa[numsC] using hq r
  ·rw[hL] at hq;simp;exact hq
  ·rw[hL] at hq;have hne:¬((l.length:Int)+1+1+1+1=2):=by omega
   simp[hne];exact hq
set_option maxRecDepth 100000
open Go.Proofs
def kfoundW(w:Str):Nat→Int
 |0=>0
 |i+1=>if 0 < i∧nameK i=w then i else kfoundW w i
theorem kfoundW_ten(w:Str):kfoundW w 10=kindOf w:=by
 by_cases h1:w=nameK 1
 ·subst h1;decide
 by_cases h2:w=nameK 2
 ·subst h2;decide
 by_cases h3:w=nameK 3
 ·subst h3;decide
 by_cases h4:w=nameK 4
 ·subst h4;decide
 by_cases h5:w=nameK 5
 ·subst h5;decide
 by_cases h6:w=nameK 6
 ·subst h6;decide
 by_cases h7:w=nameK 7
 ·subst h7;decide
 by_cases h8:w=nameK 8
 ·subst h8;decide
 by_cases h9:w=nameK 9
 ·subst h9;decide
 have e:∀k:Int,¬w=nameK k→¬nameK k=w:=fun k h h'=>h h'.symm
 unfold kindOf;rw[if_neg h1,if_neg h2,if_neg h3,if_neg h4,if_neg h5,if_neg h6,if_neg h7,if_neg h8,if_neg h9];simp only[kfoundW];simp[e 1 h1,e 2 h2,e 3 h3,e 4 h4,e 5 h5,e 6 h6,e 7 h7,e 8 h8,e 9 h9]
def parseA(line:Str):AV:=match parseP line with|some o=>.tup [.agg o.c,.bool true]|none=>.tup [.agg OpN.zero.c,.bool false]
set_option maxRecDepth 100000 in
theorem call_Parse_A{w0:World}(hm:KI w0)(ht:TabL w0)(he:AtL w0){S:St}{line:Str}(hs:line.length≤100000000){Q:AV→St→Prop}(hq:Q (parseA line) S):AC w0 F_call_Parse [.str line] S Q:=by
 apply call_Parse_ok;unfold G_call_Parse;unfold parseA at hq;rw[parseP_eq] at hq;refine Cut_A hm (by omega) ?_
 cases hc:cutB line with
 |none=>
  rw[hc] at hq;simp[AH];exact hq
 |some wr=>
  obtain⟨w,rest⟩:=wr;rw[hc] at hq;have hl:=cutB_len hc;simp only at hq hl;simp;rw[AH];refine Contains_A ?_
  by_cases h10:10∈line
  ·rw[if_pos h10] at hq;simp[h10];exact hq
  rw[if_neg h10] at hq;simp[h10];rw[AH];refine call_names_A ?_;refine De (fun i:Nat=>([.int .i64 i],[some [.int .i64 (kfoundW w i),.str [],.int .i64 0,.int .i64 0,.int .i64 0,.str []]])) (fun k i S2=>S2=S∧i≤10∧k=10 - i) 10 0 rfl ⟨rfl,by omega,rfl⟩ ?_
  rintro k i S2 v b ⟨rfl,hi,hk⟩ hv;simp at hv;obtain⟨hv1,hv2⟩:=hv
  by_cases h:i < 10
  ·have hi2:(i:Int) < 10:=by omega
   simp[hv1,hv2,hi2];rw[AH,nm_elem (by omega) (by omega)]
   have hkf:kfoundW w (i+1)=if 0 < i∧nameK i=w then (i:Int) else kfoundW w i:=rfl
   by_cases h0:0 < i
   ·have h0':(0:Int) < i:=by omega
    by_cases hn:nameK i=w
    ·rw[if_pos ⟨h0,hn⟩] at hkf;simp[h0,h0',hn,AH]
     try simp (disch:=omega) only[wrap64]
     exact⟨10 - (i+1),i+1,by omega,by simp[hkf],rfl,by omega,rfl⟩
    ·rw[if_neg (fun h=>hn h.2)] at hkf
     simp[h0,h0',hn,AH]
     try simp (disch:=omega) only[wrap64]
     exact⟨10 - (i+1),i+1,by omega,by simp[hkf],rfl,by omega,rfl⟩
   ·have h0':¬(0:Int) < i:=by omega
    rw[if_neg (fun h=>h0 h.1)] at hkf
    simp[h0,h0',AH]
    try simp (disch:=omega) only[wrap64]
    exact⟨10 - (i+1),i+1,by omega,by simp[hkf],rfl,by omega,rfl⟩
  ·have e:i=10:=by omega
   subst e;simp[hv1,hv2];rw[kfoundW_ten];generalize hkd:kindOf w=kd at hq ⊢
   by_cases k0:kd=0
   ·rw[if_pos k0] at hq;simp[k0,AH];exact hq
   rw[if_neg k0] at hq
   by_cases k4:kd=4
   ·rw[if_pos k4] at hq;simp[k4,AH];refine call_numbers_A hm ht he (by omega) ?_
    cases hn:numbersP true rest with
    |none=>
     rw[hn] at hq;simp;exact hq
    |some t=>
     obtain⟨x,y,p⟩:=t;rw[hn] at hq;intro r;simp[numsC];exact hq
   rw[if_neg k4] at hq
   by_cases k6:kd=6
   ·rw[if_pos k6] at hq;simp[k6,AH];refine call_numbers_A hm ht he (by omega) ?_
    cases hn:numbersP false rest with
    |none=>
     rw[hn] at hq;simp;exact hq
    |some t=>
     obtain⟨x,y,p⟩:=t;rw[hn] at hq;intro r;simp[numsC];exact hq
   rw[if_neg k6] at hq
   by_cases k79:kd=7∨kd=9
   ·rw[if_pos k79] at hq;rcases k79 with k7|k9
    ·simp[k7,AH];refine call_Number_A ht he (by omega) ?_
     cases hn:numOf rest with
     |none=>rw[hn] at hq;simp;exact hq
     |some x=>rw[hn] at hq;rw[atoiV_num hn];simp;subst k7;exact hq
    ·simp[k9,AH];refine call_Number_A ht he (by omega) ?_
     cases hn:numOf rest with
     |none=>rw[hn] at hq;simp;exact hq
     |some x=>rw[hn] at hq;rw[atoiV_num hn];simp;subst k9;exact hq
   rw[if_neg k79] at hq;have k7:¬kd=7:=fun h=>k79 (.inl h)
   have k9:¬kd=9:=fun h=>k79 (.inr h)
   by_cases k8:kd=8
   ·rw[if_pos k8] at hq;simp[k8,AH];refine call_Bytes_A (by omega) (fun c hcx=>?_)
    cases hn:bytesS rest with
    |none=>rw[hn] at hq;simp;exact hq
    |some x=>rw[hn] at hq;rw[hcx x hn];simp;exact hq
   rw[if_neg k8] at hq;simp[k0,k4,k6,k7,k9,k8,AH];exact hq
set_option maxRecDepth 100000
open Go.Proofs
theorem textP_len{o:OpN}(ho:o.ok):(textP o).length≤100+o.path.length+2*o.image.length:=by
 have hl1:=numS_len ho.off;have hl2:=numS_len ho.n;have hl3:=numS_len ho.id;have hn:=nameK_len o.kind;have hh:=hexS_len o.image;unfold textP;split
 ·simp
 ·repeat' split
  all_goals simp only[List.length_append,List.length_cons]
  all_goals omega
set_option maxRecDepth 100000 in
theorem ref19_Only_A{w0:World}{S:St}{o:OpN}(hp:o.path.length≤1048576){Q:AV→St→Prop}(hq:Q (.bool (onlyP o)) S):AC w0 F_ref19_Only [.agg o.c] S Q:=by
  unfold OpN.c;apply ref19_Only_ok;unfold G_ref19_Only;unfold onlyP at hq;simp;rw[AH];refine De (fun i:Nat=>([.int .i64 i],[some o.c])) (fun k i S2=>S2=S∧i≤o.path.length∧k=o.path.length - i∧10 ∉ o.path.take i) o.path.length 0 (by simp[OpN.c]) ⟨rfl,by omega,by simp,by simp⟩ ?_
  rintro k i S2 v b ⟨rfl,hi,hk,hno⟩ hv;simp at hv;obtain⟨hv1,hv2⟩:=hv;have ho:o.c=[.int .i64 o.kind,.str o.path,.int .i64 o.off,.int .i64 o.n,.int .i64 o.id,.str o.image]:=rfl
  by_cases h:i < o.path.length
  · have hi2:(i:Int) < o.path.length:=by omega
    obtain⟨c,hc⟩:∃c,o.path[i]? =some c:=⟨_,List.getElem?_eq_getElem h⟩;simp[hv1,hv2,ho,hi2,hc]
    by_cases h10:c=10
    · subst h10
      have hm:10∈o.path:=List.mem_of_getElem? hc;simp[hm] at hq;simp;exact hq
    · have hcn : ¬ (c.toNat : Int) = 10 := fun e => h10 (UInt8.toNat_inj.1 (by have : c.toNat = 10 := by omega
                                                                               rw[this];rfl))
      simp[hcn]
      try simp (disch:=omega) only[wrap64]
      refine⟨o.path.length - (i+1),i+1,by omega,by simp[ho],rfl,h,rfl,?_⟩
      rw[List.take_succ,hc];simp[hno];exact fun e=>h10 e.symm
  · have e:i=o.path.length:=by omega
    subst e;rw[List.take_length] at hno;have hno':decide (10 ∉ o.path)=true:=by simpa using hno
    rw[hno'] at hq;simp[hv1,hv2,ho];simp only[Bool.true_and] at hq
    by_cases k1:o.kind=1
    · simp[k1,AH] at hq ⊢
      simpa[Bool.and_assoc] using hq
    by_cases k2:o.kind=2
    · simp[k2,AH] at hq ⊢
      simpa[Bool.and_assoc] using hq
    by_cases k3:o.kind=3
    · simp[k3,AH] at hq ⊢
      simpa[Bool.and_assoc] using hq
    by_cases k5:o.kind=5
    · simp[k5,AH] at hq ⊢
      simpa[Bool.and_assoc] using hq
    by_cases k4:o.kind=4
    · simp[k4,AH] at hq ⊢
      simpa[Bool.and_assoc] using hq
    by_cases k6:o.kind=6
    · simp[k6,AH] at hq ⊢
      simpa[Bool.and_assoc] using hq
    by_cases k7:o.kind=7
    · simp[k7,AH] at hq ⊢
      simpa[Bool.and_assoc] using hq
    by_cases k9:o.kind=9
    · simp[k9,AH] at hq ⊢
      simpa[Bool.and_assoc] using hq
    by_cases k8:o.kind=8
    · simp[k8,AH] at hq ⊢
      simpa[Bool.and_assoc] using hq
    simp[k1,k2,k3,k5,k4,k6,k7,k9,k8,AH] at hq ⊢;exact hq
set_option maxRecDepth 100000
open Go.Proofs
def okS:Str:=[111,107]
def hexes:List Str→Str
 |[]=>[]
 |s::l=>32::(hexS s++hexes l)
theorem hexes_snoc(l:List Str)(s:Str):hexes (l++[s])=hexes l++32::hexS s:=by
 induction l with
 |nil=>simp[hexes]
 |cons x l ih=>rw[List.cons_append,hexes,ih,hexes];simp
theorem hexes_len:∀(l:List Str),(∀s∈l,s.length≤200)→(hexes l).length≤402*l.length
 |[],_=>by simp[hexes]
 |x::l,h=>by
  have h1:=hexS_len x;have h2:=h x (by simp)
  have h3:=hexes_len l fun s hs=>h s (by simp[hs])
  simp only[hexes,List.length_cons,List.length_append];omega
def showP(k:Int)(r:Bb):Str:=
 if r.err≠0 then [101,114,114,111,114,32]++numS r.err
 else if k=1 then okS++(32::(numS r.kind++32::numS r.where_))
 else if k=2 then okS++(32::(numS r.kind++32::numS r.size))
 else if k=3∨k=4 then okS++32::hexS r.text
 else if k=5∨k=8 then okS++32::numS r.id
 else if k=6 then (if r.end_=true then okS++[32,101,110,100] else okS)++hexes r.names
 else okS
structure Bb.ok(r:Bb):Prop where
 err:od r.err
 kind:od r.kind
 size:od r.size
 where_:od r.where_
 id:od r.id
set_option maxRecDepth 100000 in
theorem call_Show_A{w0:World}(ht:TabL w0){S:St}{k:Int}{r:Bb}{rt:Rt}(hr:r.ok)(htx:r.text.length≤1048576)(hn:r.names.length≤100000)(hnl:∀s∈r.names,s.length≤200){Q:AV→St→Prop}(hq:∀S',Sx S S'→Q (.str (showP k r)) S'):AC w0 F_call_Show [.int .i64 k,.agg (r.c rt)] S Q:=by
 unfold Bb.c;apply call_Show_ok;unfold G_call_Show;unfold showP okS at hq;have l1:=numS_len hr.err;have l2:=numS_len hr.kind;have l3:=numS_len hr.size;have l4:=numS_len hr.where_;have l5:=numS_len hr.id;have l6:=hexS_len r.text;simp
 by_cases he:r.err≠0
 ·rw[if_pos he] at hq;simp[he];refine Itoa_A ht hr.err ?_;rw[Gk (by simp;omega)]
  simp;exact hq S (Sx.refl _)
 rw[if_neg he] at hq;have he0:r.err=0:=by simpa using he
 simp[he0];rw[AH]
 by_cases k1:k=1
 ·rw[if_pos k1] at hq;simp[k1];refine Itoa_A ht hr.kind ?_;rw[Gk (by simp;omega)]
  simp;rw[Gk (by simp;omega)]
  simp;refine Itoa_A ht hr.where_ ?_;rw[Gk (by simp;omega)]
  simp;rw[Gk (by simp;omega)]
  simp;exact hq S (Sx.refl _)
 rw[if_neg k1] at hq
 by_cases k2:k=2
 ·rw[if_pos k2] at hq;simp[k2];refine Itoa_A ht hr.kind ?_;rw[Gk (by simp;omega)]
  simp;rw[Gk (by simp;omega)]
  simp;refine Itoa_A ht hr.size ?_;rw[Gk (by simp;omega)]
  simp;rw[Gk (by simp;omega)]
  simp;exact hq S (Sx.refl _)
 rw[if_neg k2] at hq
 by_cases k34:k=3∨k=4
 ·rw[if_pos k34] at hq;have hgo:AC w0 F_call_Hex [.str r.text] S fun t48 S_6=>AA (AJ .add (.str [32]) t48) fun t49=>AA (AJ .add (.str [111,107]) t49) fun t50=>Q t50.strip S_6:=by
   refine call_Hex_A (by omega) (fun S2 hS2=>?_)
   rw[Gk (by simp;omega)]
   simp;rw[Gk (by simp;omega)]
   simp;exact hq S2 hS2
  rcases k34 with k3|k4
  ·simp[k3,AH];exact hgo
  ·simp[k4,AH];exact hgo
 rw[if_neg k34] at hq;have k3:¬k=3:=fun h=>k34 (.inl h)
 have k4:¬k=4:=fun h=>k34 (.inr h)
 by_cases k58:k=5∨k=8
 ·rw[if_pos k58] at hq;have hgo:AC w0 F_strconv_Itoa [.int .i64 r.id] S fun t48 S_6=>AA (AJ .add (.str [32]) t48) fun t49=>AA (AJ .add (.str [111,107]) t49) fun t50=>Q t50.strip S_6:=by
   refine Itoa_A ht hr.id ?_;rw[Gk (by simp;omega)]
   simp;rw[Gk (by simp;omega)]
   simp;exact hq S (Sx.refl _)
  rcases k58 with k5|k8
  ·simp[k5,AH];exact hgo
  ·simp[k8,AH];exact hgo
 rw[if_neg k58] at hq;have k5:¬k=5:=fun h=>k58 (.inl h)
 have k8:¬k=8:=fun h=>k58 (.inr h)
 by_cases k6:k=6
 ·rw[if_pos k6] at hq;cases hend:r.end_ with
  |true=>
   rw[hend,if_pos rfl] at hq;simp[k1,k2,k3,k4,k5,k8,k6,AH,hend];rw[Gk (by simp)]
   simp;refine Al r.names (fun i (_:Unit)=>([.str ([111,107,32,101,110,100]++hexes (r.names.take i)),.int .i64 i],[])) (fun i _ S'=>Sx S S') () (by simp[hexes]) (Sx.refl _) ?_ ?_
   ·rintro i _ S' v b w hi hxi hd hcc hmem hSx hv;simp at hv;obtain⟨hv1,hv2⟩:=hv;have hwl:=hnl w hmem;have hhl:=hexS_len w;have htl:(r.names.take i).length≤100000:=by simp;omega
    have hhs:=hexes_len (r.names.take i) fun s hs=>hnl s (List.take_subset _ _ hs)
    simp[hv1,hv2,hcc,hxi];refine call_Hex_A (by omega) (fun S2 hS2=>?_)
    rw[Gk (by simp;omega)]
    simp;rw[Gk (by simp;omega)]
    simp
    try simp (disch:=omega) only[wrap64]
    refine .next hi () ?_ (hSx.trans hS2);rw[List.take_succ,hxi];simp[hexes_snoc]
   ·rintro _ S' v b hSx hv N;simp at hv;obtain⟨hv1,hv2⟩:=hv;simp[hv1,hv2];exact hq _ hSx
  |false=>
   rw[hend,if_neg (by simp)] at hq
   simp[k1,k2,k3,k4,k5,k8,k6,AH,hend];refine Al r.names (fun i (_:Unit)=>([.str ([111,107]++hexes (r.names.take i)),.int .i64 i],[])) (fun i _ S'=>Sx S S') () (by simp[hexes]) (Sx.refl _) ?_ ?_
   ·rintro i _ S' v b w hi hxi hd hcc hmem hSx hv;simp at hv;obtain⟨hv1,hv2⟩:=hv;have hwl:=hnl w hmem;have hhl:=hexS_len w;have htl:(r.names.take i).length≤100000:=by simp;omega
    have hhs:=hexes_len (r.names.take i) fun s hs=>hnl s (List.take_subset _ _ hs)
    simp[hv1,hv2,hcc,hxi];refine call_Hex_A (by omega) (fun S2 hS2=>?_)
    rw[Gk (by simp;omega)]
    simp;rw[Gk (by simp;omega)]
    simp
    try simp (disch:=omega) only[wrap64]
    refine .next hi () ?_ (hSx.trans hS2);rw[List.take_succ,hxi];simp[hexes_snoc]
   ·rintro _ S' v b hSx hv N;simp at hv;obtain⟨hv1,hv2⟩:=hv;simp[hv1,hv2];exact hq _ hSx
 ·rw[if_neg k6] at hq;simp[k1,k2,k3,k4,k5,k8,k6,AH];exact hq S (Sx.refl _)
set_option maxRecDepth 100000
open Go.Proofs
set_option maxRecDepth 100000 in
theorem ref19_Show_A{w0:World}{S:St}{k:Int}{r:Bb}{rt:Rt}(hr:r.ok)(htx:r.text.length≤1048576)(hn:r.names.length≤100000)(hnl:∀s∈r.names,s.length≤200){Q:AV→St→Prop}(hq:Q (.str (showP k r)) S):AC w0 F_ref19_Show [.int .i64 k,.agg (r.c rt)] S Q:=by
 have hrc:r.c rt=[.int .i64 r.err,.int .i64 r.kind,.int .i64 r.size,.int .i64 r.where_,.int .i64 r.id,.str r.text,.vs 1 (r.names.map Bz) rt,.bool r.end_]:=rfl;unfold Bb.c;apply ref19_Show_ok;unfold G_ref19_Show;unfold showP okS at hq;have l1:=numS_len hr.err;have l2:=numS_len hr.kind;have l3:=numS_len hr.size;have l4:=numS_len hr.where_;have l5:=numS_len hr.id;have l6:=hexS_len r.text;simp
 by_cases he:r.err≠0
 ·rw[if_pos he] at hq;simp[he];refine ref19_Num_A _ hr.err (Nat.lt_succ_self _) ?_;rw[Gk (by simp;omega)]
  simp;exact hq
 rw[if_neg he] at hq;have he0:r.err=0:=by simpa using he
 simp[he0]
 try rw[AH]
 by_cases k1:k=1
 ·rw[if_pos k1] at hq;simp[k1];refine ref19_Num_A _ hr.kind (Nat.lt_succ_self _) ?_;rw[Gk (by simp;omega)]
  simp;rw[Gk (by simp;omega)]
  simp;refine ref19_Num_A _ hr.where_ (Nat.lt_succ_self _) ?_;rw[Gk (by simp;omega)]
  simp;exact hq
 rw[if_neg k1] at hq
 by_cases k2:k=2
 ·rw[if_pos k2] at hq;simp[k2];refine ref19_Num_A _ hr.kind (Nat.lt_succ_self _) ?_;rw[Gk (by simp;omega)]
  simp;rw[Gk (by simp;omega)]
  simp;refine ref19_Num_A _ hr.size (Nat.lt_succ_self _) ?_;rw[Gk (by simp;omega)]
  simp;exact hq
 rw[if_neg k2] at hq
 by_cases k34:k=3∨k=4
 ·rw[if_pos k34] at hq;have hgo:AC w0 F_ref19_Hex [.str r.text] S fun t48 S_6=>AA (AJ .add (.str [111,107,32]) t48) fun t49=>Q t49 S_6:=by
   refine ref19_Hex_A (by omega) ?_
   rw[Gk (by simp;omega)]
   simp;exact hq
  rcases k34 with k3|k4
  ·simp[k3,AH];exact hgo
  ·simp[k4,AH];exact hgo
 rw[if_neg k34] at hq;have k3:¬k=3:=fun h=>k34 (.inl h)
 have k4:¬k=4:=fun h=>k34 (.inr h)
 by_cases k58:k=5∨k=8
 ·rw[if_pos k58] at hq;have hgo:AC w0 F_ref19_Num [.int .i64 r.id] S fun t48 S_6=>AA (AJ .add (.str [111,107,32]) t48) fun t49=>Q t49 S_6:=by
   refine ref19_Num_A _ hr.id (Nat.lt_succ_self _) ?_;rw[Gk (by simp;omega)]
   simp;exact hq
  rcases k58 with k5|k8
  ·simp[k5,AH];exact hgo
  ·simp[k8,AH];exact hgo
 rw[if_neg k58] at hq;have k5:¬k=5:=fun h=>k58 (.inl h)
 have k8:¬k=8:=fun h=>k58 (.inr h)
 by_cases k6:k=6
 ·rw[if_pos k6] at hq;cases hend:r.end_ with
  |true=>
   rw[hend,if_pos rfl] at hq;simp[k1,k2,k3,k4,k5,k8,k6,AH,hend];refine Al r.names (fun i (_:Unit)=>([.str ([111,107,32,101,110,100]++hexes (r.names.take i)),.int .i64 i],[some [.int .i64 0,.int .i64 r.kind,.int .i64 r.size,.int .i64 r.where_,.int .i64 r.id,.str r.text,.vs 1 (r.names.map Bz) rt,.bool true]])) (fun i _ S'=>S'=S) () (by simp[hexes]) rfl ?_ ?_
   ·rintro i _ S' v b w hi hxi hd hcc hmem rfl hv;simp at hv;obtain⟨⟨hv1,hv2⟩,hv3⟩:=hv;have hwl:=hnl w hmem;have hhl:=hexS_len w;have htl:(r.names.take i).length≤100000:=by simp;omega
    have hhs:=hexes_len (r.names.take i) fun s hs=>hnl s (List.take_subset _ _ hs)
    simp[hv1,hv2,hv3,hcc,hxi,hrc];rw[Gk (by simp;omega)]
    simp;refine ref19_Hex_A (by omega) ?_
    rw[Gk (by simp;omega)]
    simp
    try simp (disch:=omega) only[wrap64]
    refine .next hi () ?_ rfl;rw[List.take_succ,hxi];simp[hexes_snoc,hrc]
   ·rintro _ S' v b rfl hv N;simp at hv;obtain⟨⟨hv1,hv2⟩,hv3⟩:=hv;simp[hv1,hv2,hv3,hrc];exact hq
  |false=>
   rw[hend,if_neg (by simp)] at hq
   simp[k1,k2,k3,k4,k5,k8,k6,AH,hend];refine Al r.names (fun i (_:Unit)=>([.str ([111,107]++hexes (r.names.take i)),.int .i64 i],[some [.int .i64 0,.int .i64 r.kind,.int .i64 r.size,.int .i64 r.where_,.int .i64 r.id,.str r.text,.vs 1 (r.names.map Bz) rt,.bool false]])) (fun i _ S'=>S'=S) () (by simp[hexes]) rfl ?_ ?_
   ·rintro i _ S' v b w hi hxi hd hcc hmem rfl hv;simp at hv;obtain⟨⟨hv1,hv2⟩,hv3⟩:=hv;have hwl:=hnl w hmem;have hhl:=hexS_len w;have htl:(r.names.take i).length≤100000:=by simp;omega
    have hhs:=hexes_len (r.names.take i) fun s hs=>hnl s (List.take_subset _ _ hs)
    simp[hv1,hv2,hv3,hcc,hxi,hrc];rw[Gk (by simp;omega)]
    simp;refine ref19_Hex_A (by omega) ?_
    rw[Gk (by simp;omega)]
    simp
    try simp (disch:=omega) only[wrap64]
    refine .next hi () ?_ rfl;rw[List.take_succ,hxi];simp[hexes_snoc,hrc]
   ·rintro _ S' v b rfl hv N;simp at hv;obtain⟨⟨hv1,hv2⟩,hv3⟩:=hv;simp[hv1,hv2,hv3,hrc];exact hq
 ·rw[if_neg k6] at hq;simp[k1,k2,k3,k4,k5,k8,k6,AH];exact hq
set_option maxRecDepth 100000
open Go.Proofs
theorem law_ofC{w0:World}{f:Nat}{args:List AV}(h:∀Q:AV→St→Prop,(∀S,Q (.bool true) S)→AC w0 f args [] Q):AC w0 f args [] fun r _=>r= .bool true:=h _ (fun _=>rfl)
end Go.Av
