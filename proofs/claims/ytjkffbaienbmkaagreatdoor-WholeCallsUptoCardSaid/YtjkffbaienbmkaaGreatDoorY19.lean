/- Parts of the proofs of this seat: abstract values over the model, and what the functions of the program do. No condition. -/
import Derived.Test.YtjkffbaienbmkaaGreatDoorD0
import Derived.Test.YtjkffbaienbmkaaGreatDoorX05e
import Derived.Test.YtjkffbaienbmkaaGreatDoorY05e
import Derived.Test.YtjkffbaienbmkaaGreatDoorX08d
import Derived.Test.YtjkffbaienbmkaaGreatDoorY10
import Derived.Lib.ItoaNum
import Derived.Lib.AtoiAllCases
set_option linter.all false
namespace Go.Av
abbrev od(n:Int):Prop:=-9223372036854775808≤n∧n≤9223372036854775807
abbrev numS(n:Int):Str:=Lib.itoa n
def digC(d:Nat):UInt8:=UInt8.ofNat (48+d)
theorem digC_toNat{d:Nat}(h:d < 10):(digC d).toNat=48+d:=by
 unfold digC;rw[UInt8.toNat_ofNat'];omega
theorem dec_step(u:Nat):Lib.decDigits u=if u < 10 then [digC u] else Lib.decDigits (u / 10)++[digC (u % 10)]:=by
 conv=>lhs;rw[Lib.decDigits]
 by_cases h:u < 10<;>simp[h,digC]
theorem numS_pos{n:Int}(h:0≤n)(h2:n < 10):numS n=[digC n.toNat]:=by
 simp only[numS,Lib.itoa];rw[if_neg (by omega),dec_step,if_pos (by omega)]
theorem numS_big{n:Int}(h:10≤n):numS n=numS (n.tdiv 10)++[digC (n.toNat % 10)]:=by
 simp only[numS,Lib.itoa];have e:n.tdiv 10=((n.toNat / 10:Nat):Int):=by rw[Int.tdiv_eq_ediv_of_nonneg (by omega)];omega
 rw[if_neg (by omega),e,if_neg (by omega),dec_step,if_neg (by omega),Int.toNat_natCast]
theorem numS_neg{n:Int}(h:-10 < n)(h2:n < 0):numS n=[45,digC (-n).toNat]:=by
 simp only[numS,Lib.itoa];rw[if_pos h2,dec_step,if_pos (by omega)]
 congr 3;omega
theorem numS_low{n:Int}(h:n≤-10):numS n=numS (n.tdiv 10)++[digC ((-n).toNat % 10)]:=by
 simp only[numS,Lib.itoa];have e:n.tdiv 10= -(((-n).toNat / 10:Nat):Int):=by
  have h1:n= -((-n).toNat:Int):=by omega
  rw[h1,Int.neg_tdiv,Int.tdiv_eq_ediv_of_nonneg (by omega)]
  simp
 rw[if_pos (by omega),e,if_pos (by omega),dec_step,if_neg (by omega)]
 have e2:n.natAbs=(-n).toNat:=by omega
 have e3:(-(((-n).toNat / 10:Nat):Int)).natAbs=(-n).toNat / 10:=by omega
 rw[e2,e3];rfl
theorem decDigits_dig:∀(u:Nat),Lib.decDigits u≠[]∧∀c∈Lib.decDigits u,48≤c.toNat∧c.toNat≤57:=by
 intro u
 induction u using Nat.strongRecOn with
 |ind u ih=>
  rw[dec_step]
  by_cases h:u < 10
  ·rw[if_pos h];refine⟨by simp,fun c hc=>?_⟩
   rw[List.mem_singleton] at hc;subst hc;rw[digC_toNat h];omega
  ·rw[if_neg h];refine⟨by simp,fun c hc=>?_⟩
   rcases List.mem_append.1 hc with hc|hc
   ·exact(ih (u / 10) (by omega)).2 c hc
   ·rw[List.mem_singleton] at hc;subst hc;rw[digC_toNat (by omega)];omega
theorem parse_snoc(c:UInt8)(hc:48≤c.toNat∧c.toNat≤57):∀(l:Str) (acc v:Nat),Lib.parseUint10 acc l= .ok v→v*10+(c.toNat - 48) < 18446744073709551616→Lib.parseUint10 acc (l++[c])= .ok (v*10+(c.toNat - 48))
 |[],acc,v,h,hv=>by
  simp only[Lib.parseUint10] at h;cases h;simp only[List.nil_append,Lib.parseUint10,hc,and_self,if_true];rw[if_neg (by omega),if_neg (by omega)]
 |d::l,acc,v,h,hv=>by
  rw[List.cons_append];simp only[Lib.parseUint10] at h ⊢;split at h
  ·rename_i h1;rw[if_pos h1];split at h
   ·cases h
   ·rename_i h2;rw[if_neg h2];split at h
    ·cases h
    ·rename_i h3;rw[if_neg h3];exact parse_snoc c hc l _ v h hv
  ·cases h
theorem parse_dec:∀(u:Nat),u < 18446744073709551616→Lib.parseUint10 0 (Lib.decDigits u)= .ok u:=by
 intro u
 induction u using Nat.strongRecOn with
 |ind u ih=>
  intro hu;rw[dec_step]
  by_cases h:u < 10
  ·rw[if_pos h];have:=parse_snoc (digC u) (by rw[digC_toNat h];omega) [] 0 0 rfl (by rw[digC_toNat h];omega)
   rw[digC_toNat h] at this;simpa using this
  ·rw[if_neg h];have h10:u % 10 < 10:=by omega
   have:=parse_snoc (digC (u % 10)) (by rw[digC_toNat h10];omega) _ 0 (u / 10) (ih (u / 10) (by omega) (by omega)) (by rw[digC_toNat h10];omega)
   rw[this,digC_toNat h10];congr 1;omega
theorem atoi_num{n:Int}(h:od n):Lib.atoiAll (numS n)= .ok n:=by
 simp only[numS,Lib.itoa]
 by_cases c:n < 0
 ·rw[if_pos c,Lib.atoiAll_minus,Lib.parseMag,if_neg (decDigits_dig _).1,parse_dec _ (by omega)]
  simp only[Lib.signed];rw[if_neg (by omega)]
  congr 1;omega
 ·rw[if_neg c];obtain⟨h1,h2⟩:=decDigits_dig n.toNat;cases hd:Lib.decDigits n.toNat with
  |nil=>exact absurd hd h1
  |cons x r=>
   have hx:=h2 x (by rw[hd];simp)
   rw[Lib.atoiAll_plain x r (by omega) (by omega),Lib.parseMag,if_neg (by simp),←hd,parse_dec _ (by omega)]
   simp only[Lib.signless];rw[if_neg (by omega)]
   congr 1;omega
theorem numS_mem{n:Int}:numS n≠[]∧∀c∈numS n,c=45∨(48≤c.toNat∧c.toNat≤57):=by
 simp only[numS,Lib.itoa];split
 ·refine⟨by simp,fun c hc=>?_⟩
  rcases List.mem_cons.1 hc with rfl|hc
  ·exact .inl rfl
  ·exact .inr ((decDigits_dig _).2 c hc)
 ·exact⟨(decDigits_dig _).1,fun c hc=>.inr ((decDigits_dig _).2 c hc)⟩
def digB(d:Nat):UInt8:=if d < 10 then UInt8.ofNat (48+d) else UInt8.ofNat (87+d)
def hexF:Str→Str
 |[]=>[]
 |b::l=>digB (b.toNat / 16)::digB (b.toNat % 16)::hexF l
def hexS(s:Str):Str:=if s=[] then [45] else hexF s
def digV(c:UInt8):Option Nat:=if 48≤c.toNat∧c.toNat≤57 then some (c.toNat - 48) else if 97≤c.toNat∧c.toNat≤102 then some (c.toNat - 87) else none
def unhex:Str→Option Str
 |[]=>some []
 |[_]=>none
 |a::b::l=>match digV a,digV b with
  |some x,some y=>(unhex l).map (UInt8.ofNat (x*16+y)::·)
  |_,_=>none
def bytesS(w:Str):Option Str:=if w=[45] then some [] else if w=[] then none else unhex w
theorem digB_toNat{d:Nat}(h:d < 16):(digB d).toNat=if d < 10 then 48+d else 87+d:=by
 unfold digB;split<;>(rw[UInt8.toNat_ofNat'];omega)
theorem digV_digB{d:Nat}(h:d < 16):digV (digB d)=some d:=by
 have:=digB_toNat h;unfold digV;split at this
 ·rw[if_pos (by omega),this];congr 1;omega
 ·rw[if_neg (by omega),if_pos (by omega),this];congr 1;omega
theorem digV_some{c:UInt8}{d:Nat}(h:digV c=some d):d < 16∧c=digB d:=by
 unfold digV at h;split at h
 ·cases h;refine⟨by omega,UInt8.toNat_inj.1 ?_⟩
  rw[digB_toNat (by omega),if_pos (by omega)];omega
 ·split at h
  ·cases h;refine⟨by omega,UInt8.toNat_inj.1 ?_⟩
   rw[digB_toNat (by omega),if_neg (by omega)];omega
  ·cases h
theorem unhex_hexF:∀s:Str,unhex (hexF s)=some s
 |[]=>rfl
 |b::l=>by
  have hb:=b.toNat_lt;rw[hexF,unhex,digV_digB (by omega),digV_digB (by omega),unhex_hexF l]
  simp only[Option.map_some];congr 2;apply UInt8.toNat_inj.1;rw[UInt8.toNat_ofNat'];omega
theorem hexF_ne{s:Str}(h:s≠[]):hexF s≠[]∧hexF s≠[45]:=by
 cases s with
 |nil=>exact absurd rfl h
 |cons b l=>simp[hexF]
theorem bytes_hex(s:Str):bytesS (hexS s)=some s:=by
 unfold bytesS hexS
 by_cases h:s=[]
 ·subst h;rfl
 ·rw[if_neg h,if_neg (hexF_ne h).2,if_neg (hexF_ne h).1,unhex_hexF]
theorem hexF_len(s:Str):(hexF s).length=2*s.length:=by
 induction s with
 |nil=>rfl
 |cons b l ih=>simp only[hexF,List.length_cons,ih];omega
theorem hexF_mem:∀(s:Str),∀c∈hexF s,c≠10∧c≠32
 |[],c,h=>by simp[hexF] at h
 |b::l,c,h=>by
  have hb:=b.toNat_lt;have hd:∀d,d < 16→digB d≠10∧digB d≠32:=fun d hd=>by
   have:=digB_toNat hd;constructor<;>(intro e;rw[e] at this;split at this<;>simp at this<;>omega)
  simp only[hexF,List.mem_cons] at h;rcases h with rfl|rfl|h
  ·exact hd _ (by omega)
  ·exact hd _ (by omega)
  ·exact hexF_mem l c h
structure OpN where
 kind:Int
 path:Str
 off:Int
 n:Int
 id:Int
 image:Str
 deriving DecidableEq
def OpN.zero:OpN:=⟨0,[],0,0,0,[]⟩
def nameK(k:Int):Str:=
 if k=1 then [108,111,111,107,117,112] else if k=2 then [115,116,97,116] else if k=3 then [114,101,97,100,108,105,110,107] else if k=4 then [114,101,97,100] else if k=5 then [111,112,101,110]
 else if k=6 then [112,97,103,101] else if k=7 then [99,108,111,115,101] else if k=8 then [97,100,100] else if k=9 then [114,101,109,111,118,101] else []
def textP(o:OpN):Str:=
 if o.kind < 1∨9 < o.kind then []
 else nameK o.kind++32::(if o.kind=4 then numS o.off++32::(numS o.n++32::o.path) else if o.kind=6 then numS o.id++32::numS o.n else if o.kind=7∨o.kind=9 then numS o.id else if o.kind=8 then hexS o.image else o.path)
def onlyP(o:OpN):Bool:=
 decide (10 ∉ o.path)&&(if o.kind=1∨o.kind=2∨o.kind=3∨o.kind=5 then decide (o.off=0)&&decide (o.n=0)&&decide (o.id=0)&&decide (o.image=[])
  else if o.kind=4 then decide (o.id=0)&&decide (o.image=[])
  else if o.kind=6 then decide (o.path=[])&&decide (o.off=0)&&decide (o.image=[])
  else if o.kind=7∨o.kind=9 then decide (o.path=[])&&decide (o.off=0)&&decide (o.n=0)&&decide (o.image=[])
  else if o.kind=8 then decide (o.path=[])&&decide (o.off=0)&&decide (o.n=0)&&decide (o.id=0)
  else false)
def cutB:Str→Option (Str×Str)
 |[]=>none
 |c::l=>if c=32 then some ([],l) else (cutB l).map fun p=>(c::p.1,p.2)
theorem cutB_app:∀{a:Str} (b:Str),32 ∉ a→cutB (a++32::b)=some (a,b)
 |[],b,_=>by simp[cutB]
 |c::a,b,h=>by
  have hc:¬c=32:=fun e=>h (by simp[e])
  rw[List.cons_append,cutB,if_neg hc,cutB_app b (fun e=>h (by simp[e]))]
  rfl
theorem cutB_some:∀{s a b:Str},cutB s=some (a,b)→s=a++32::b∧32 ∉ a
 |[],a,b,h=>by simp[cutB] at h
 |c::s,a,b,h=>by
  rw[cutB] at h;split at h
  ·rename_i e;cases h;simp[e]
  ·rename_i e;rw[Option.map_eq_some_iff] at h;obtain⟨⟨x,y⟩,h1,h2⟩:=h;cases h2;obtain⟨h3,h4⟩:=cutB_some h1;exact⟨by simp[h3],by simp[h4];exact fun e2=>e e2.symm⟩
def numOf(w:Str):Option Int:=match Lib.atoiAll w with| .ok v=>if numS v=w then some v else none|_=>none
theorem numOf_num{n:Int}(h:od n):numOf (numS n)=some n:=by rw[numOf,atoi_num h];simp
def kindOf(w:Str):Int:=
 if w=nameK 1 then 1 else if w=nameK 2 then 2 else if w=nameK 3 then 3 else if w=nameK 4 then 4 else if w=nameK 5 then 5 else if w=nameK 6 then 6 else if w=nameK 7 then 7 else if w=nameK 8 then 8 else if w=nameK 9 then 9 else 0
theorem kindOf_name{k:Int}(h1:1≤k)(h2:k≤9):kindOf (nameK k)=k:=by
 have:k=1∨k=2∨k=3∨k=4∨k=5∨k=6∨k=7∨k=8∨k=9:=by omega
 rcases this with rfl|rfl|rfl|rfl|rfl|rfl|rfl|rfl|rfl<;>decide
theorem name_mem(k:Int):32 ∉ nameK k∧10 ∉ nameK k:=by
 unfold nameK
 repeat' split
 all_goals decide
def parseP(line:Str):Option OpN:=
 match cutB line with
 |none=>none
 |some (w,rest)=>
  if 10∈line then none else
  if kindOf w=0 then none
  else if kindOf w=4 then
   match cutB rest with
   |none=>none
   |some (a,r2)=>match cutB r2 with
    |none=>none
    |some (b,p)=>match numOf a,numOf b with
     |some x,some y=>some ⟨4,p,x,y,0,[]⟩
     |_,_=>none
  else if kindOf w=6 then
   match cutB rest with
   |none=>none
   |some (a,b)=>match numOf a,numOf b with
    |some x,some y=>some ⟨6,[],0,y,x,[]⟩
    |_,_=>none
  else if kindOf w=7∨kindOf w=9 then (numOf rest).map fun x=>⟨kindOf w,[],0,0,x,[]⟩
  else if kindOf w=8 then (bytesS rest).map fun x=>⟨8,[],0,0,0,x⟩
  else some ⟨kindOf w,rest,0,0,0,[]⟩
theorem numS_no{n:Int}:32 ∉ numS n∧10 ∉ numS n:=by
 constructor<;>(intro h;rcases numS_mem.2 _ h with e|⟨e,_⟩<;>simp at e)
theorem hexS_no(s:Str):32 ∉ hexS s∧10 ∉ hexS s:=by
 unfold hexS;split
 ·decide
 ·exact⟨fun h=>(hexF_mem s _ h).2 rfl,fun h=>(hexF_mem s _ h).1 rfl⟩
structure OpN.ok(o:OpN):Prop where
 kind:od o.kind
 off:od o.off
 n:od o.n
 id:od o.id
theorem parse_text{o:OpN}(h:onlyP o=true)(hok:o.ok):parseP (textP o)=some o:=by
 obtain⟨k,path,off,n,id,image⟩:=o;obtain⟨q1,q2,q3,q4⟩:=hok;simp only at q1 q2 q3 q4;unfold onlyP at h;simp only[Bool.and_eq_true,decide_eq_true_eq] at h;obtain⟨hp,h⟩:=h;have key:∀(rest:Str),1≤k→k≤9→10 ∉ rest→cutB (nameK k++32::rest)=some (nameK k,rest)∧10 ∉ nameK k++32::rest∧kindOf (nameK k)=k:=fun rest h1 h2 h3=>
  ⟨cutB_app rest (name_mem k).1,by simp[h3,(name_mem k).2],kindOf_name h1 h2⟩
 have hn1:=fun n=>(numS_no (n:=n)).1
 have hn2:=fun n=>(numS_no (n:=n)).2
 split at h
 ·rename_i hk;simp only[Bool.and_eq_true,decide_eq_true_eq] at h;obtain⟨⟨⟨rfl,rfl⟩,rfl⟩,rfl⟩:=h;obtain⟨a1,a2,a3⟩:=key path (by omega) (by omega) hp
  have e:textP ⟨k,path,0,0,0,[]⟩=nameK k++32::path:=by
   simp only[textP];rw[if_neg (by omega),if_neg (by omega),if_neg (by omega),if_neg (by omega),if_neg (by omega)]
  rw[e,parseP,a1];simp only;rw[if_neg a2,a3,if_neg (by omega),if_neg (by omega),if_neg (by omega),if_neg (by omega),if_neg (by omega)]
 split at h
 ·rename_i hk;subst hk;simp only[Bool.and_eq_true,decide_eq_true_eq] at h;obtain⟨rfl,rfl⟩:=h;have hr:10 ∉ numS off++32::(numS n++32::path):=by simp[hn2,hp]
  obtain⟨a1,a2,a3⟩:=key _ (by omega) (by omega) hr
  have e:textP ⟨4,path,off,n,0,[]⟩=nameK 4++32::(numS off++32::(numS n++32::path)):=by simp[textP]
  rw[e,parseP,a1];simp only;rw[if_neg a2,a3,if_neg (by omega),if_pos rfl,cutB_app _ (hn1 off)]
  simp only;rw[cutB_app _ (hn1 n)];simp only;rw[numOf_num q2,numOf_num q3]
 split at h
 ·rename_i hk;subst hk;simp only[Bool.and_eq_true,decide_eq_true_eq] at h;obtain⟨⟨rfl,rfl⟩,rfl⟩:=h;have hr:10 ∉ numS id++32::numS n:=by simp[hn2]
  obtain⟨a1,a2,a3⟩:=key _ (by omega) (by omega) hr
  have e:textP ⟨6,[],0,n,id,[]⟩=nameK 6++32::(numS id++32::numS n):=by simp[textP]
  rw[e,parseP,a1];simp only;rw[if_neg a2,a3,if_neg (by omega),if_neg (by omega),if_pos rfl,cutB_app _ (hn1 id)]
  simp only;rw[numOf_num q4,numOf_num q3]
 split at h
 ·rename_i hk;simp only[Bool.and_eq_true,decide_eq_true_eq] at h;obtain⟨⟨⟨rfl,rfl⟩,rfl⟩,rfl⟩:=h;obtain⟨a1,a2,a3⟩:=key (numS id) (by omega) (by omega) (hn2 id)
  have e:textP ⟨k,[],0,0,id,[]⟩=nameK k++32::numS id:=by
   simp only[textP];rw[if_neg (by omega),if_neg (by omega),if_neg (by omega),if_pos hk]
  rw[e,parseP,a1];simp only;rw[if_neg a2,a3,if_neg (by omega),if_neg (by omega),if_neg (by omega),if_pos hk,numOf_num q4]
  rfl
 split at h
 ·rename_i hk;subst hk;simp only[Bool.and_eq_true,decide_eq_true_eq] at h;obtain⟨⟨⟨rfl,rfl⟩,rfl⟩,rfl⟩:=h;obtain⟨a1,a2,a3⟩:=key (hexS image) (by omega) (by omega) (hexS_no image).2
  have e:textP ⟨8,[],0,0,0,image⟩=nameK 8++32::hexS image:=by simp[textP]
  rw[e,parseP,a1];simp only;rw[if_neg a2,a3,if_neg (by omega),if_neg (by omega),if_neg (by omega),if_neg (by omega),if_pos rfl,bytes_hex]
  rfl
 ·cases h
structure Bb where
 err:Int:=0
 kind:Int:=0
 size:Int:=0
 where_:Int:=0
 id:Int:=0
 text:Str:=[]
 names:List Str:=[]
 end_:Bool:=false
def Bb.c(x:Bb)(r:Rt):List AV:=[.int .i64 x.err,.int .i64 x.kind,.int .i64 x.size,.int .i64 x.where_,.int .i64 x.id,.str x.text,.vs 1 (x.names.map Bz) r,.bool x.end_]
@[simp] theorem Bb.c_len(x:Bb)(r:Rt):(x.c r).length=8:=rfl
def Ai(e:Int):Bb:={err:=e}
def OpN.c(o:OpN):List AV:=[.int .i64 o.kind,.str o.path,.int .i64 o.off,.int .i64 o.n,.int .i64 o.id,.str o.image]
@[simp] theorem OpN.c_len(o:OpN):o.c.length=6:=rfl
def isK(k:Int):Bool:=decide (1≤k)&&decide (k≤4)
def Gr(k:Int):Bool:=decide (k=2)||(decide (k=4)||decide (k=5))
def Oj(o:OpN):Bool:=(decide (o.kind=4)&&(decide (o.off < 0)||decide (o.n < 0)))||(decide (o.kind=6)&&decide (o.n < 1))
def Pt(D:List Node)(ids:Nat→Int)(o:OpN)(w:AtN):Bb:=
 match w.nodes with
 |[]=>
  if o.kind=1 then {kind:=2,where_:=-1}
  else if o.kind=2 then {kind:=2}
  else if o.kind=3 then Ai 1
  else if o.kind=4 then Ai 5
  else Ai 1
 |y::_=>
  if o.kind=1 then {kind:=y.kind,where_:=match MF D w.names with|some k=>ids k|none=>-1}
  else if o.kind=2 then (if y.kind=2 then {kind:=y.kind} else {kind:=y.kind,size:=y.size})
  else if o.kind=3 then (if y.kind=3 then {text:=y.target} else Ai 1)
  else if o.kind=4 then (if y.kind=2 then Ai 5 else {text:=Tt y.size y.exts o.off o.n})
  else Ai 1
def doR(D:List Node)(ids:Nat→Int)(o:OpN):Bb:=
 if isK o.kind=false then Ai 1
 else if Oj o=true then Ai 1
 else if (BP D o.path (Gr o.kind)).err≠0 then Ai (BP D o.path (Gr o.kind)).err
 else Pt D ids o (BP D o.path (Gr o.kind))
open Go.Proofs
theorem iI{w0:World}{S:St}{k:Int}{Q:AV→St→Prop}(hq:Q (.bool (isK k)) S):AC w0 Rc [.int .i64 k] S Q:=by
 apply eX;unfold Xd;have e:isK k=(decide (k≥1)&&decide (k≤4)):=rfl;rw[e] at hq
 by_cases h:k≥1
 ·simp[AH,h] at hq ⊢;exact hq
 ·simp[AH,h] at hq ⊢;exact hq
theorem WT{w0:World}{S:St}{k:Int}{Q:AV→St→Prop}(hq:Q (.bool (Gr k)) S):AC w0 Jg [.int .i64 k] S Q:=by
 apply U0;unfold OK;unfold Gr at hq
 by_cases h:k=2
 ·subst h;simp[AH];simpa using hq
 ·by_cases h4:k=4
  ·subst h4;simp[AH];simpa using hq
  ·have b2:(k==2)=false:=by simpa using h
   have b4:(k==4)=false:=by simpa using h4
   have b5:(k==5)=decide (k=5):=rfl;simp[AH,b2,b4,b5];simp[h,h4] at hq;exact hq
theorem D9{w0:World}{S:St}{e:Int}{Q:AV→St→Prop}(hq:Q (.agg ((Ai e).c .nil)) S):AC w0 E9 [.int .i64 e] S Q:=by
 apply YR;unfold QS;exact hq
theorem Qd{w0:World}{S:St}{o:OpN}{Q:AV→St→Prop}(hq:Q (.int .i64 (if Oj o=true then 1 else 0)) S):AC w0 JE [.agg o.c] S Q:=by
 unfold OpN.c;apply X6;unfold Qt;unfold Oj at hq;simp
 by_cases h4:o.kind=4
 ·have h6:¬o.kind=6:=by omega
  simp[h4,h6] at hq ⊢
  by_cases h:o.off < 0
  ·simp[AH,h] at hq ⊢;exact hq
  ·by_cases h2:o.n < 0
   ·simp[AH,h,h2] at hq ⊢;exact hq
   ·simp[AH,h,h2] at hq ⊢;exact hq
 ·by_cases h6:o.kind=6
  ·simp[h4,h6] at hq ⊢
   by_cases h:o.n < 1
   ·simp[AH,h] at hq ⊢;exact hq
   ·simp[AH,h] at hq ⊢;exact hq
  ·simp[AH,h4,h6] at hq ⊢;exact hq
theorem Ends.empty{L:List (List CU)}{D:List Node}{want:AtN}{t:Fnd}(h:Ends L D want t)(hn:want.nodes=[]):D=[]:=by
 have hf:=h.facts;rw[hn] at hf;obtain⟨he,ds,names,hw,hc⟩:=h;rcases hc with ⟨h1,h2,h3⟩|⟨s,y,l,hs,h1,h2,h3,h4,h5⟩
 ·have h0:=hf.2;rw[h1] at h0;rw[hn,h0] at h2;cases D with
  |nil=>rfl
  |cons n l=>simp[Dc,Dm] at h2
 ·rw[hn] at h4;cases h4
structure di(S:St)(s:Stk)(D:List Node)(ids:Nat→Int):Prop where
 leads:Leads S s D
 tabs:s.tabs=D.map fun n=>n.tab 0
 ids:∀k m,s.l[k]? =some m→ids k=(m.num:Int)
theorem di.mono{S S':St}{s:Stk}{D:List Node}{ids:Nat→Int}(h:di S s D ids)(k:Sx S S'):di S' s D ids:=⟨h.leads.mono k,h.tabs,h.ids⟩
set_option maxRecDepth 100000 in
theorem X1{w0:World}{S:St}{s:Stk}{D:List Node}{ids:Nat→Int}{want:AtN}{t:Fnd}{rt:Rt}{o:OpN}{p:Str}(hL:di S s D ids)(hE:Ends s.tabs D want t){Q:AV→St→Prop}
  (hq:∀S',Sx S S'→Q (.agg ((Pt D ids o want).c .nil)) S'):AC w0 Ks [.agg s.c,.agg o.c,.agg (.str p::t.c rt)] S Q:=by
 have hc:s.c=[.vs 2 (s.l.map Mnt.c) s.r.strip,.int .i64 s.next]:=rfl;have hf:=hE.facts;have hlv:=hE;rw[hL.tabs] at hlv;rw[hc];unfold OpN.c;apply WD;unfold Oe;simp[←hc];unfold Pt at hq;cases hn:want.nodes with
 |nil=>
  rw[hn] at hf hq;obtain⟨rfl,h2⟩:=hf;have hD:=hE.empty hn;have hsl:s.l=[]:=by
   have:=hL.tabs;rw[hD] at this;unfold Stk.tabs at this;simpa using this
  have hat:s.at_ ((0:Nat):Int)=none:=by simp[Stk.at_,hsl]
  refine HL ?_;rw[hat];simp only at hq
  by_cases k1:o.kind=1
  ·simp[k1,AH] at hq ⊢;simpa[Bb.c] using hq S (Sx.refl _)
  by_cases k2:o.kind=2
  ·simp[k2,AH] at hq ⊢;simpa[Bb.c] using hq S (Sx.refl _)
  by_cases k3:o.kind=3
  ·simp[k3,AH] at hq ⊢;refine D9 ?_;simp[Bb.c,Ai];simpa[Bb.c,Ai] using hq S (Sx.refl _)
  by_cases k4:o.kind=4
  ·simp[k4,AH] at hq ⊢;refine D9 ?_;simp[Bb.c,Ai];simpa[Bb.c,Ai] using hq S (Sx.refl _)
  ·simp[k1,k2,k3,k4,AH] at hq ⊢;refine D9 ?_;simp[Bb.c,Ai];simpa[Bb.c,Ai] using hq S (Sx.refl _)
 |cons y l=>
  have hlev:=hlv.level (by rw[hn];simp)
  rw[hn] at hf hq;obtain⟨h1,h2,h3,h4,h5⟩:=hf;obtain⟨m,a1,a2,a3,a4⟩:=h2.at_;have hB:=hL.leads.on m a2;have hsz:(Bq m.tab (t.sp.2:Int)).size=y.size:=by rw[a3];rfl
  have htg:(Bq m.tab (t.sp.2:Int)).target=y.target:=by rw[a3];rfl
  have hex:(Bq m.tab (t.sp.2:Int)).exts=y.exts:=by rw[a3];rfl
  have hfit:q8 (Bq m.tab (t.sp.2:Int)):=by rw[a3];exact dK h3 h4 _
  have hid:ids t.sp.1=(m.num:Int):=by
   refine hL.ids t.sp.1 m ?_;have:=a1;unfold Stk.at_ at this;rw[if_neg (by omega)] at this
   simpa using this
  simp only[hlev,hid] at hq;refine HL ?_;rw[a1];simp[h1]
  by_cases k1:o.kind=1
  ·simp[k1,AH] at hq ⊢;refine gC ?_;rw[a1];simp;simpa[Bb.c] using hq S (Sx.refl _)
  by_cases k2:o.kind=2
  ·by_cases y2:y.kind=2
   ·simp[k2,y2,AH] at hq ⊢;simpa[Bb.c] using hq S (Sx.refl _)
   ·simp[k2,y2,AH] at hq ⊢;refine Yn hB ?_;rw[hsz];simp;simpa[Bb.c] using hq S (Sx.refl _)
  by_cases k3:o.kind=3
  ·by_cases y3:y.kind=3
   ·simp[k3,y3,AH] at hq ⊢;refine OI hB ?_;rw[htg];simp;simpa[Bb.c] using hq S (Sx.refl _)
   ·simp[k3,y3,AH] at hq ⊢;refine D9 ?_;simp[Bb.c,Ai];simpa[Bb.c,Ai] using hq S (Sx.refl _)
  by_cases k4:o.kind=4
  ·by_cases y2:y.kind=2
   ·simp[k4,y2,AH] at hq ⊢;refine D9 ?_;simp[Bb.c,Ai];simpa[Bb.c,Ai] using hq S (Sx.refl _)
   ·simp[k4,y2,AH] at hq ⊢;refine Y1 hB hfit (fun S2 hS2=>?_)
    rw[hsz,hex];simp;simpa[Bb.c] using hq S2 hS2
  ·simp[k1,k2,k3,k4,AH] at hq ⊢;refine D9 ?_;simp[Bb.c,Ai];simpa[Bb.c,Ai] using hq S (Sx.refl _)
set_option maxRecDepth 100000 in
theorem iU{w0:World}(hm:KI w0){S:St}{s:Stk}{D:List Node}{ids:Nat→Int}{o:OpN}(hL:di S s D ids)(hp:o.path.length≤1048576){Q:AV→St→Prop}
  (hq:∀S',Sx S S'→Q (.agg ((doR D ids o).c .nil)) S'):AC w0 RD [.agg s.c,.agg o.c] S Q:=by
 have hc:s.c=[.vs 2 (s.l.map Mnt.c) s.r.strip,.int .i64 s.next]:=rfl;have ho:o.c=[.int .i64 o.kind,.str o.path,.int .i64 o.off,.int .i64 o.n,.int .i64 o.id,.str o.image]:=rfl;rw[hc,ho];apply dq;unfold XH;unfold doR at hq;simp[←hc,←ho];refine iI ?_
 by_cases h1:isK o.kind=false
 ·rw[if_pos h1] at hq;rw[h1];simp;refine D9 ?_;simp[Bb.c,Ai];simpa[Bb.c,Ai] using hq S (Sx.refl _)
 ·rw[if_neg h1] at hq;have h1':isK o.kind=true:=by simpa using h1
  rw[h1'];simp;refine Qd ?_
  by_cases h2:Oj o=true
  ·rw[if_pos h2] at hq ⊢;simp;refine D9 ?_;simp[Bb.c,Ai];simpa[Bb.c,Ai] using hq S (Sx.refl _)
  ·rw[if_neg h2] at hq ⊢;simp;refine WT ?_;simp;refine Vv hm hL.leads hp (fun S2 hS2=>⟨fun he=>?_,fun he t r hE=>?_⟩)
   ·rw[if_pos he] at hq;simp[Fnd.c,Fnd.none,he];refine D9 ?_;simp[Bb.c,Ai];simpa[Bb.c,Ai] using hq S2 hS2
   ·rw[if_neg (by rw[he];simp)] at hq
    simp[Fnd.c];refine X1 (t:=t) (rt:=r.strip) (hL.mono hS2) hE (fun S3 hS3=>?_)
    simp[Bb.c];simpa[Bb.c] using hq S3 (hS2.trans hS3)
open Go.Proofs
set_option maxRecDepth 100000 in
theorem NU{w0:World}{S:St}{a:Bb}{r1 r2:Rt}{Q:AV→St→Prop}(hl:a.names.length≤1000000)(hq:Q (.bool true) S):AC w0 Hm [.agg (a.c r1),.agg (a.c r2)] S Q:=by
 unfold Bb.c;apply Yl;unfold Tu;simp
 try rw[AH]
 try simp
 refine Al a.names (fun i (_:Unit)=>([.int .i64 i],[some (a.c r1),some (a.c r2)])) (fun i _ S'=>S'=S) () (by simp[Bb.c]) rfl ?_ ?_
 ·rintro i _ S' v b s c hxi hd hc hmem rfl hv;simp at hv;obtain⟨hv1,hv2,hv3⟩:=hv;simp[hv1,hv2,hv3,hc,hxi,Bb.c]
  try simp (disch:=omega) only[wrap64]
  exact .next c () (by simp[Bb.c]) rfl
 ·rintro _ S' v b rfl hv N;simp at hv;obtain⟨hv1,hv2,hv3⟩:=hv;simp[hv1,hv2,hv3,Bb.c];exact hq
theorem Going.ends{L:List (List CU)}{D:List Node}{want:AtN}:∀(n:Nat) {w:Wk} {h:Nat} {names:List Str},Going L D want w h names→w.todo.length+129*h≤n→want.err=0→∃t,Ends L D want t:=by
 intro n
 induction n with
 |zero=>
  intro w h names g hn he;have:w.todo=[]:=List.eq_nil_of_length_eq_zero (by omega)
  obtain⟨d,_,_,h3⟩:=g.end this;exact⟨_,h3⟩
 |succ n ih=>
  intro w h names g hn he;obtain⟨names',g'⟩:=g.pop;have hhd:w.pop.todo.head?≠some dd:=RG _ _;have hpl:w.pop.todo.length≤w.todo.length:=UZ _ _;generalize w.pop=w1 at g' hhd hpl;cases ht:w1.todo with
  |nil=>
   obtain⟨d,_,_,h3⟩:=g'.end ht;exact⟨_,h3⟩
  |cons s rest=>
   have hnd:s≠dd:=fun e=>hhd (by rw[ht,e];rfl)
   have hll:w1.todo.length=rest.length+1:=by rw[ht];rfl
   obtain⟨d,k1,k2,k3,k4,k5⟩:=g'.step (fr:=.none) (target:=match Dn (Dc D names') s with|y::_=>y.target|[]=>[]) ht hnd rfl (fun _ y l e=>by rw[e])
   generalize w1.tell (pathOf names') s rest (D7 L s (Er L names') Fnd.none) .none (decide ((D7 L s (Er L names') Fnd.none).kind≠0)) _=te at k5;obtain⟨w2,e⟩:=te;simp only at k5;obtain⟨k6,k7⟩:=k5
   by_cases e0:e=0
   ·rcases k7 e0 with ⟨h',nm2,g2,hc⟩|⟨gg,c1,c2,c3,c4⟩
    ·refine ih g2 ?_ he;rcases hc with ⟨c1,c2⟩|⟨c1,pp,c2,c3⟩
     ·rw[c1,c2];omega
     ·rw[c3,List.length_append];omega
    ·exact⟨gg,c2⟩
   ·exact absurd he (by rw[k6 e0];exact e0)
theorem Leads.ends{S:St}{s:Stk}{D:List Node}(hL:Leads S s D){path:Str}{fl:Bool}(he:(BP D path fl).err=0):∃t,Ends s.tabs D (BP D path fl) t:=by
 unfold BP at he ⊢;cases hsp:DP path with
 |none=>rw[hsp] at he;cases he
 |some l=>
  rw[hsp] at he;exact Going.ends (l.length+129*40) (w:=⟨l,[⟨[47],IZ s.tabs 0,.none⟩],fl,0,none⟩) (h:=40) (names:=[]) ⟨hL.start _,rfl,fun x hx=>Ry hsp x hx,rfl,rfl⟩ (Nat.le_refl _) he
end Go.Av
