/- Parts of the proofs of this seat: abstract values over the model, and what the functions of the program do. No condition. -/
import Derived.Test.YtehadbpejfjheaaGreatDoorM16
import Derived.Test.YtehadbpejfjheaaGreatDoorM12
set_option linter.all false
set_option maxRecDepth 100000
namespace Go.Av
abbrev Str:=List UInt8
structure Ext where
 off:Int
 data:Str
 deriving DecidableEq
@[simp] def Ext.c(x:Ext):List AV:=[.int .i64 x.off,.str x.data]
def Sx(S S':St):Prop:=∀j,j < S.length→S'[j]? =S[j]?
theorem Sx.refl(S:St):Sx S S:=fun _ _=>rfl
theorem Sx.le{S S':St}(h:Sx S S'):S.length≤S'.length:=by
 by_cases c:S.length≤S'.length
 ·exact c
 ·have:=h S'.length (by omega)
  have h2:S'[S'.length]? =none:=by simp
  rw[h2] at this;have h3:S[S'.length]? =some (S[S'.length]'(by omega)):=by simp
  rw[h3] at this;cases this
theorem Sx.trans{A B D:St}(h:Sx A B)(k:Sx B D):Sx A D:=fun j hj=>(k j (Nat.lt_of_lt_of_le hj h.le)).trans (h j hj)
theorem Sx.app(S T:St):Sx S (S++T):=fun j hj=>by rw[List.getElem?_append_left hj]
theorem Sx.get{S S':St}(h:Sx S S'){j:Nat}{o:Obj}(e:S[j]? =some o):S'[j]? =some o:=(h j (List.getElem?_eq_some_iff.1 e).1).trans e
def Kp(b:Nat)(S S':St):Prop:=∀j,j < b→S'[j]? =S[j]?
theorem Kp.refl(b:Nat)(S:St):Kp b S S:=fun _ _=>rfl
theorem Kp.trans{b:Nat}{A B D:St}(h:Kp b A B)(k:Kp b B D):Kp b A D:=fun j hj=>(k j hj).trans (h j hj)
theorem Kp.set{b id:Nat}{S:St}{o:Obj}(h:b≤id):Kp b S (S.set id o):=fun j hj=>As (by omega)
section
variable {α:Type} {enc:α→List AV} {n:Nat}
def Ab(enc:α→List AV)(l:List α):List AV:=l.flatMap enc
theorem C6(hn:∀x,(enc x).length=n):∀(l:List α),(Ab enc l).length=l.length*n
 |[]=>by simp[Ab]
 |x::l=>by
  have:=C6 hn l;simp only[Ab,List.flatMap_cons,List.length_append,List.length_cons] at this ⊢;rw[this,hn,Nat.add_mul];omega
theorem OE{l:List α}{i:Nat}{x:α}(h:l[i]? =some x):Ab enc l=Ab enc (l.take i)++(enc x++Ab enc (l.drop (i+1))):=by
 have hi:=(List.getElem?_eq_some_iff.1 h).1;have h2:=(List.getElem?_eq_some_iff.1 h).2
 conv=>lhs;rw[←List.take_append_drop i l,List.drop_eq_getElem_cons hi,h2]
 simp[Ab]
theorem Kn(hn:∀x,(enc x).length=n){l:List α}{i:Nat}{x:α}(J:List AV)(h:l[i]? =some x):(Ab enc l++J).drop (i*n)=enc x++(Ab enc (l.drop (i+1))++J):=by
 have hi:=(List.getElem?_eq_some_iff.1 h).1;have hl:(Ab enc (l.take i)).length=i*n:=by rw[C6 hn,List.length_take,Nat.min_eq_left (by omega)]
 rw[OE h,List.append_assoc,←hl,List.drop_left,List.append_assoc]
theorem gA(hn:∀x,(enc x).length=n){l:List α}{i k:Nat}{x:α}(J:List AV)(h:l[i]? =some x)(hk:k < n):(Ab enc l++J)[i*n+k]? =(enc x)[k]?:=by
 rw[←List.getElem?_drop,Kn hn J h,List.getElem?_append_left (by rw[hn];exact hk)]
theorem Sl(hn:∀x,(enc x).length=n){l:List α}{i:Nat}{x:α}(J:List AV)(h:l[i]? =some x):i*n+n≤(Ab enc l++J).length:=by
 have hi:=(List.getElem?_eq_some_iff.1 h).1;rw[List.length_append,C6 hn];have:=Nat.mul_le_mul_right n (show i+1≤l.length from hi)
 rw[Nat.add_mul] at this;omega
theorem Tw(hn:∀x,(enc x).length=n){l:List α}{i:Nat}{x:α}(J:List AV)(y:α)(h:l[i]? =some x):A9 (Ab enc l++J) (i*n) (enc y)=Ab enc (l.set i y)++J:=by
 have hi:=(List.getElem?_eq_some_iff.1 h).1;have hl:(Ab enc (l.take i)).length=i*n:=by rw[C6 hn,List.length_take,Nat.min_eq_left (by omega)]
 have hs:(l.set i y)[i]? =some y:=by simp[hi]
 have e1:(l.set i y).take i=l.take i:=List.take_set_of_le (Nat.le_refl i);have e2:(l.set i y).drop (i+1)=l.drop (i+1):=List.drop_set_of_lt (Nat.lt_succ_self i);rw[OE hs,e1,e2];have e3:=Kn hn J h;unfold A9;rw[hn,←List.drop_drop,e3];have e4:(enc x++(Ab enc (l.drop (i+1))++J)).drop n=Ab enc (l.drop (i+1))++J:=by rw[←hn x,List.drop_left]
 rw[e4];have e5:(Ab enc l++J).take (i*n)=Ab enc (l.take i):=by
  rw[OE h,List.append_assoc,←hl,List.take_left]
 rw[e5];simp
theorem Od{T:TI}{S:St}{id tg:Nat}{l:List α}{i:Nat}{x:α}{J:List AV}(hS:S[id]? =some (.cells (Ab enc l++J) tg))(hT:T.size=n)(hA:T.agg=true)(hn:∀x,(enc x).length=n)(h:l[i]? =some x):
  AI T S (.ptr id (i*n))=some (.agg (enc x)):=by
 have hle:=Sl hn J h;have hd:=Kn hn J h;rw[Ac hS];simp only[Dv,hA,hT,if_true,hle,hd];rw[←hn x,List.take_left]
theorem PS{T:TI}{S:St}{id tg:Nat}{l:List α}{i:Nat}{x:α}{J:List AV}(y:α)(hS:S[id]? =some (.cells (Ab enc l++J) tg))(hT:T.size=n)(hn:∀x,(enc x).length=n)(h:l[i]? =some x){v:AV}(hv:v.cells=enc y)(hf:v.free=true):
  Bn T S (.ptr id (i*n)) v=some (S.set id (.cells (Ab enc (l.set i y)++J) tg)):=by
 have hle:=Sl hn J h;rw[Be hS];simp only[BS,hv,hn,hT,hf,hle,and_self,if_true,Option.map_some];rw[Tw hn J y h]
theorem V6{T:TI}{S:St}{id tg:Nat}{l:List α}{i k m:Nat}{x:α}{J:List AV}(hS:S[id]? =some (.cells (Ab enc l++J) tg))(hT:T.size=m)(hA:T.agg=true)(hn:∀x,(enc x).length=n)(h:l[i]? =some x)(hk:k+m≤n):
  AI T S (.ptr id (i*n+k))=some (.agg (((enc x).drop k).take m)):=by
 have hle:=Sl hn J h;have hd:=Kn hn J h;rw[Ac hS];have:(Ab enc l++J).drop (i*n+k)=(enc x).drop k++(Ab enc (l.drop (i+1))++J):=by
  rw[←List.drop_drop,hd,List.drop_append_of_le_length (by rw[hn];omega)]
 simp only[Dv,hA,hT,if_true,this];rw[if_pos (by omega),List.take_append_of_le_length (by rw[List.length_drop,hn];omega)]
theorem aQ{T:TI}{S:St}{id tg:Nat}{l:List α}{i k:Nat}{x:α}{J:List AV}(hS:S[id]? =some (.cells (Ab enc l++J) tg))(hA:T.agg=false)(hn:∀x,(enc x).length=n)(h:l[i]? =some x)(hk:k < n):
  AI T S (.ptr id (i*n+k))=(enc x)[k]?:=by
 rw[Ac hS];simp only[Dv,hA,if_false,Bool.false_eq_true];exact gA hn J h hk
end
section
variable {α:Type} {enc:α→List AV} {n:Nat}
def Fb(enc:α→List AV)(n:Nat)(S:St)(x:AV)(l:List α):Option Nat→Prop
 |none=>x= .vs n [] .nil∧l=[]
 |some id=>x= .rs n id 0 l.length∧S[id]? =some (.cells (Ab enc l) 0)
theorem Fb.mono{S S':St}{x:AV}{l:List α}{o:Option Nat}(h:Fb enc n S x l o)(k:∀id,o=some id→S'[id]? =S[id]?):Fb enc n S' x l o:=by
 cases o with
 |none=>exact h
 |some id=>exact⟨h.1,(k id rfl).trans h.2⟩
theorem Fb.lt{S:St}{x:AV}{l:List α}{id:Nat}(h:Fb enc n S x l (some id)):id < S.length:=(List.getElem?_eq_some_iff.1 h.2).1
theorem Fb.sx{S S':St}{x:AV}{l:List α}{o:Option Nat}(h:Fb enc n S x l o)(k:Sx S S'):Fb enc n S' x l o:=
 h.mono fun id e=>by subst e;exact k id h.lt
theorem Fb.strip{S:St}{x:AV}{l:List α}{o:Option Nat}(h:Fb enc n S x l o):x.strip=x∧x.free=true∧x.flat=x∧A6 x=some (.int .i64 l.length):=by
 cases o with
 |none=>obtain⟨rfl,rfl⟩:=h;exact⟨rfl,rfl,rfl,rfl⟩
 |some id=>obtain⟨rfl,_⟩:=h;exact⟨rfl,rfl,rfl,rfl⟩
theorem Lm(hn:∀x,(enc x).length=n)(hs:∀x,(enc x).map AV.strip1=enc x):∀(l:List α) (J:List AV),chunks n l.length (Ab enc l++J)=l.map enc
 |[],J=>rfl
 |x::l,J=>by
  have e:Ab enc (x::l)++J=enc x++(Ab enc l++J):=by simp[Ab]
  have h1:(enc x++(Ab enc l++J)).take n=enc x:=by rw[←hn x,List.take_left]
  have h2:(enc x++(Ab enc l++J)).drop n=Ab enc l++J:=by rw[←hn x,List.drop_left]
  rw[List.length_cons,chunks,e,h1,h2,hs,Lm hn hs l J];rfl
theorem Fb.elems(hn:∀x,(enc x).length=n)(hs:∀x,(enc x).map AV.strip1=enc x){S:St}{x:AV}{l:List α}{o:Option Nat}(h:Fb enc n S x l o):BO S n x=some (l.map enc):=by
 cases o with
 |none=>obtain⟨rfl,rfl⟩:=h;simp[BO]
 |some id=>
  obtain⟨rfl,h2⟩:=h;have hl:=C6 hn l;have:=Lm hn hs l [];rw[List.append_nil] at this;simp[BO,DG,h2,hl,this]
theorem Fb.part(hn:∀x,(enc x).length=n)(hs:∀x,(enc x).map AV.strip1=enc x){T:TI}(hT:T.size=n){S:St}{x:AV}{l:List α}{o:Option Nat}(h:Fb enc n S x l o){a b:Nat}(hab:a≤b)(hb:b≤l.length){k1 k2:IntKind}:
  ∃y,Dt T x (some (.int k1 (a:Int))) (some (.int k2 (b:Int))) none=some y∧BO S n y=some (((l.take b).drop a).map enc)∧y.strip=y∧y.free=true:=by
 cases o with
 |none=>
  obtain⟨rfl,rfl⟩:=h;simp at hb;subst hb;have:a=0:=by omega
  subst this;exact⟨.vs n [] .nil,by simp[Dt,bnd,hT],by simp[BO],rfl,rfl⟩
 |some id=>
  obtain⟨rfl,h2⟩:=h;have hl:=C6 hn l
  by_cases c:a < b∨a=0
  ·refine⟨.rs n id (0+a*n) (b - a),?_,?_,rfl,rfl⟩
   ·simp[Dt,bnd,hT,hb,hab,c]
   ·have hle:(0+a*n)+(b - a)*n≤(Ab enc l).length:=by
     rw[hl,Nat.zero_add,←Nat.add_mul];exact Nat.mul_le_mul_right n (by omega)
    have hd:(Ab enc l).drop (0+a*n)=Ab enc (l.drop a):=by
     have:Ab enc l=Ab enc (l.take a)++Ab enc (l.drop a):=by
      unfold Ab;rw[←List.flatMap_append,List.take_append_drop]
     have h3:(Ab enc (l.take a)).length=a*n:=by rw[C6 hn,List.length_take,Nat.min_eq_left (by omega)]
     rw[this,Nat.zero_add,←h3,List.drop_left]
    have he:Ab enc (l.drop a)=Ab enc ((l.take b).drop a)++Ab enc (l.drop b):=by
     have:l.drop a=(l.take b).drop a++l.drop b:=by
      conv=>lhs;rw[←List.take_append_drop b l]
      rw[List.drop_append_of_le_length (by rw[List.length_take];omega)]
     rw[this];simp[Ab]
    have hlen:b - a=((l.take b).drop a).length:=by rw[List.length_drop,List.length_take];omega
    simp only[BO,if_true,DG,h2,Option.bind_some,hle,hd,he];rw[hlen,Lm hn hs]
  ·refine⟨.vs n [] .none,?_,?_,rfl,rfl⟩
   ·simp[Dt,bnd,hT,hb,hab,c]
   ·have:(l.take b).drop a=[]:=by rw[List.drop_eq_nil_iff,List.length_take];omega
    simp[BO,this]
theorem Fb.append(hn:∀x,(enc x).length=n){T:TI}(hT:T.size=n){S:St}{x y:AV}{l m:List α}{o:Option Nat}(h:Fb enc n S x l o)(hy:BO S n y=some (m.map enc))(hl:l.length+m.length≤lim):
  ∃x' S' o',appendR T S x y=some (x',S')∧Fb enc n S' x' (l++m) o'∧(∀j,j < S.length→o≠some j→S'[j]? =S[j]?)∧S.length≤S'.length∧(∀j,o'=some j→o=some j∨S.length≤j):=by
 by_cases e:m=[]
 ·subst e;refine⟨x,S,o,?_,by simpa using h,fun _ _ _=>rfl,Nat.le_refl _,fun j hj=>.inl hj⟩
  cases o with
  |none=>obtain⟨rfl,_⟩:=h;simp[appendR,hT,hy]
  |some id=>obtain⟨rfl,_⟩:=h;simp[appendR,hT,hy]
 ·have hne:m.map enc≠[]:=by simpa using e
  have hfl:(m.map enc).flatten=Ab enc m:=by simp[Ab,List.flatMap]
  cases o with
  |none=>
   obtain⟨rfl,rfl⟩:=h;refine⟨.rs n S.length 0 m.length,S++[.cells (Ab enc m) 0],some S.length,?_,⟨by simp,by simp⟩,fun j hj _=>by rw[List.getElem?_append_left hj],by simp,fun j hj=>by cases hj;exact .inr (Nat.le_refl _)⟩
   have h1:m.length≤lim:=by simpa using hl
   simp[appendR,hT,hy,e,h1,hfl]
  |some id=>
   obtain⟨rfl,h2⟩:=h;have hl2:=C6 hn l;refine⟨.rs n S.length 0 (l.length+m.length),S.set id .dead++[.cells (Ab enc (l++m)) 0],some S.length,?_,⟨by simp,?_⟩,fun j hj hn=>?_,by simp,fun j hj=>by cases hj;exact .inr (Nat.le_refl _)⟩
   ·have h1:l.length+m.length≤lim:=hl;have ht:(Ab enc l).take (l.length*n)=Ab enc l:=by rw[←hl2,List.take_length]
    have ha:Ab enc (l++m)=Ab enc l++Ab enc m:=by simp[Ab]
    simp[appendR,hT,hy,e,DG,h2,hl2,h1,hfl,ht,ha]
   ·rw[List.getElem?_append_right (by simp)]
    simp
   ·rw[List.getElem?_append_left (by simpa using hj),List.getElem?_set_ne (fun e=>hn (by rw[e]))]
theorem Fb.idx{T:TI}(hT:T.size=n){S:St}{x:AV}{l:List α}{id:Nat}(h:Fb enc n S x l (some id)){i:Nat}(hi:i < l.length){k:IntKind}:Ae T x (.int k (i:Int))=some (.ptr id (i*n)):=by
 obtain⟨rfl,_⟩:=h;have:(i:Int) < l.length:=by omega
 simp[Ae,hT,this]
theorem Fb.is_some{S:St}{x:AV}{l:List α}{o:Option Nat}(h:Fb enc n S x l o)(hl:l≠[]):∃id,o=some id:=by
 cases o with
 |none=>exact absurd h.2 hl
 |some id=>exact⟨id,rfl⟩
theorem Fb.load(hn:∀x,(enc x).length=n){T:TI}(hT:T.size=n)(hA:T.agg=true){S:St}{x:AV}{l:List α}{id:Nat}(h:Fb enc n S x l (some id)){i:Nat}{y:α}(hi:l[i]? =some y):AI T S (.ptr id (i*n))=some (.agg (enc y)):=
 Od (J:=[]) (by rw[List.append_nil];exact h.2) hT hA hn hi
theorem Fb.cell(hn:∀x,(enc x).length=n){T:TI}(hA:T.agg=false){S:St}{x:AV}{l:List α}{id:Nat}(h:Fb enc n S x l (some id)){i k:Nat}{y:α}(hi:l[i]? =some y)(hk:k < n):AI T S (.ptr id (i*n+k))=(enc y)[k]?:=
 aQ (J:=[]) (by rw[List.append_nil];exact h.2) hA hn hi hk
theorem Fb.put(hn:∀x,(enc x).length=n){T:TI}(hT:T.size=1){S:St}{x:AV}{l:List α}{id:Nat}(h:Fb enc n S x l (some id)){i k:Nat}{y z:α}(hi:l[i]? =some y)(hk:k < n){v:AV}(hv:v.cells=[v])(hf:v.free=true)(hz:enc z=A9 (enc y) k [v]):
  ∃S',Bn T S (.ptr id (i*n+k)) v=some S'∧Fb enc n S' x (l.set i z) (some id)∧S'.length=S.length∧∀j,j≠id→S'[j]? =S[j]?:=by
 obtain⟨rfl,h2⟩:=h;have hle:=Sl hn [] hi;rw[List.append_nil] at hle;have hw:=Tw hn [] z hi;rw[List.append_nil,List.append_nil] at hw;have hd:=Kn hn [] hi;rw[List.append_nil,List.append_nil] at hd;have e:A9 (Ab enc l) (i*n+k) [v]=Ab enc (l.set i z):=by
  rw[←hw,hz];have hy:=hn y;unfold A9;have h3:(Ab enc l).take (i*n+k)=(Ab enc l).take (i*n)++(enc y).take k:=by
   rw[List.take_add,hd,List.take_append_of_le_length (by omega)]
  have h4:(Ab enc l).drop (i*n+k+[v].length)=(enc y).drop (k+1)++Ab enc (l.drop (i+1)):=by
   rw[Nat.add_assoc,←List.drop_drop,hd,List.drop_append_of_le_length (by simp;omega)]
   rfl
  have h5:(Ab enc l).drop (i*n+((enc y).take k++[v]++(enc y).drop (k+[v].length)).length)=Ab enc (l.drop (i+1)):=by
   have:((enc y).take k++[v]++(enc y).drop (k+[v].length)).length=n:=by simp;omega
   rw[this,←List.drop_drop,hd,←hy,List.drop_left]
  rw[h3,h4,h5];simp
 refine⟨S.set id (.cells (Ab enc (l.set i z)) 0),?_,⟨by simp,Al h2⟩,by simp,fun j hj=>As (fun e=>hj e.symm)⟩
 rw[Be h2];have hle2:i*n+k+1≤(Ab enc l).length:=by omega
 simp only[BS,hv,hT,hf,List.length_singleton,hle2,and_self,if_true,Option.map_some,e]
end
section
variable {α:Type}
def Jv(l:List (Str×α))(k:Str):Option Nat:=l.findIdx? fun p=>decide (p.1=k)
def C9(l:List (Str×α))(k:Str):Option α×List (Str×α):=
 match Jv l k with
 |some i=>match l[i]? with
  |some x=>(some x.2,x::l.eraseIdx i)
  |none=>(none,l)
 |none=>(none,l)
def Pi(room:Int)(l:List (Str×α))(k:Str)(v:α):List (Str×α):=
 match Jv l k with
 |some i=>(k,v)::l.eraseIdx i
 |none=>if (l.length:Int) < room then (k,v)::l else (k,v)::l.eraseIdx (l.length - 1)
theorem I0{l:List (Str×α)}{k:Str}{i:Nat}(h:Jv l k=some i):∃x,l[i]? =some x∧x.1=k∧i < l.length:=by
 obtain⟨h1,h2,_⟩:=List.findIdx?_eq_some_iff_getElem.1 h;exact⟨l[i],by simp[h1],by simpa using h2,h1⟩
theorem mem_erase{β:Type}{l:List β}{i:Nat}{y:β}(h:y∈l.eraseIdx i):y∈l:=List.mem_of_mem_eraseIdx h
theorem Sa(l:List (Str×α))(k:Str):(C9 l k).2.length=l.length:=by
 unfold C9;cases h:Jv l k with
 |none=>rfl
 |some i=>
  obtain⟨x,hx,_,hi⟩:=I0 h;simp only[hx,List.length_cons,List.length_eraseIdx,hi,if_true];omega
theorem lruG_mem{l:List (Str×α)}{k:Str}{p:Str×α}:p∈(C9 l k).2↔p∈l:=by
 unfold C9;cases h:Jv l k with
 |none=>exact Iff.rfl
 |some i=>
  obtain⟨x,hx,_,hi⟩:=I0 h;simp only[hx,List.mem_cons];constructor
  ·rintro (rfl|h2)
   ·exact List.mem_of_getElem? hx
   ·exact mem_erase h2
  ·intro h2;obtain⟨j,hj,e⟩:=List.mem_iff_getElem.1 h2
   by_cases c:j=i
   ·subst c;left;have:=(List.getElem?_eq_some_iff.1 hx).2;rw[←e,this]
   ·right;rw[List.mem_iff_getElem?]
    by_cases c2:j < i
    ·exact⟨j,by rw[List.getElem?_eraseIdx,if_pos c2,←e];simp[hj]⟩
    ·exact⟨j - 1,by rw[List.getElem?_eraseIdx,if_neg (by omega),show j - 1+1=j by omega,←e];simp[hj]⟩
theorem YX(l:List (Str×α))(k:Str):C9 (C9 l k).2 k=C9 l k:=by
 unfold C9;cases h:Jv l k with
 |none=>simp[h]
 |some i=>
  obtain⟨x,hx,hk,hi⟩:=I0 h;have hf:Jv (x::l.eraseIdx i) k=some 0:=by simp[Jv,List.findIdx?_cons,hk]
  simp[hx,hf]
theorem YB{l:List (Str×α)}{k:Str}{v:α}(h:(C9 l k).1=some v):(k,v)∈l:=by
 unfold C9 at h;cases hf:Jv l k with
 |none=>rw[hf] at h;cases h
 |some i=>
  obtain⟨x,hx,hk,hi⟩:=I0 hf;rw[hf] at h;simp only[hx] at h;cases h;rw[←hk];exact List.mem_of_getElem? hx
theorem lruP_mem{room:Int}{l:List (Str×α)}{k:Str}{v:α}{p:Str×α}(h:p∈Pi room l k v):p=(k,v)∨p∈l:=by
 unfold Pi at h;split at h
 ·rcases List.mem_cons.1 h with h|h
  ·exact .inl h
  ·exact .inr (mem_erase h)
 ·split at h
  ·rcases List.mem_cons.1 h with h|h
   ·exact .inl h
   ·exact .inr h
  ·rcases List.mem_cons.1 h with h|h
   ·exact .inl h
   ·exact .inr (mem_erase h)
theorem lruP_len{room:Int}{l:List (Str×α)}{k:Str}{v:α}(h:(l.length:Int)≤room)(hr:1≤room):((Pi room l k v).length:Int)≤room∧(Pi room l k v).length≤l.length+1:=by
 unfold Pi;split
 ·rename_i i hf;obtain⟨x,hx,_,hi⟩:=I0 hf;simp only[List.length_cons,List.length_eraseIdx,hi,if_true];omega
 ·split
  ·simp only[List.length_cons];omega
  ·simp only[List.length_cons,List.length_eraseIdx];split<;>omega
end
section
variable {β:Type} {enc:β→List AV} {n:Nat}
theorem TJ(l m:List β):Ab enc (l++m)=Ab enc l++Ab enc m:=by simp[Ab]
theorem aW(hn:∀x,(enc x).length=n)(l:List β)(k:Nat)(hk:k≤l.length):(Ab enc l).drop (k*n)=Ab enc (l.drop k):=by
 have h:(Ab enc (l.take k)).length=k*n:=by rw[C6 hn,List.length_take,Nat.min_eq_left hk]
 conv=>lhs;rw[←List.take_append_drop k l,TJ,←h]
 rw[List.drop_left]
theorem aZ(hn:∀x,(enc x).length=n)(l:List β)(k:Nat)(hk:k≤l.length):(Ab enc l).take (k*n)=Ab enc (l.take k):=by
 have h:(Ab enc (l.take k)).length=k*n:=by rw[C6 hn,List.length_take,Nat.min_eq_left hk]
 conv=>lhs;rw[←List.take_append_drop k l,TJ,←h]
 rw[List.take_left]
theorem T6(hn:∀x,(enc x).length=n)(l:List β){i:Nat}(hi:i < l.length)(x:β):A9 (A9 (Ab enc l) n (Ab enc (l.take i))) 0 (enc x)=Ab enc (x::l.eraseIdx i):=by
 have h1:(Ab enc (l.take i)).length=i*n:=by rw[C6 hn,List.length_take,Nat.min_eq_left (by omega)]
 have h2:n+i*n=(i+1)*n:=by rw[Nat.add_mul];omega
 have h3:((Ab enc l).take n).length=n:=by
  rw[List.length_take,C6 hn];have:=Nat.mul_le_mul_right n (show 1≤l.length by omega)
  omega
 have h4:A9 (Ab enc l) n (Ab enc (l.take i))=(Ab enc l).take n++(Ab enc (l.take i)++Ab enc (l.drop (i+1))):=by
  unfold A9;rw[h1,h2,aW hn l (i+1) (by omega),List.append_assoc]
 rw[h4];unfold A9;have h5:0+(enc x).length=((Ab enc l).take n).length:=by rw[h3,hn];omega
 rw[h5,List.drop_left,List.eraseIdx_eq_take_drop_succ];simp[Ab]
theorem Yf{T:TI}(hT:T.size=n)(hn:∀x,(enc x).length=n)(hs:∀x,(enc x).map AV.strip1=enc x){S:St}{x:AV}{l:List β}{o:Nat}(h:Fb enc n S x l (some o)){i:Nat}(hi:i < l.length):
  ∃d s p,Dt T x (some (.int .i64 1)) (some (.int .i64 ((i:Int)+1))) none=some d∧Dt T x none (some (.int .i64 (i:Int))) none=some s∧
   UM T S d s=some (p,S.set o (.cells (A9 (Ab enc l) n (Ab enc (l.take i))) 0)):=by
 obtain⟨rfl,hS⟩:=h;have hl:=C6 hn l;have hsrc:BO S n (.rs n o (0+0*n) i)=some ((l.take i).map enc):=by
  have hle:0+0*n+i*n≤(Ab enc l).length:=by rw[hl];have:=Nat.mul_le_mul_right n (show i≤l.length by omega);omega
  simp only[BO,if_true,DG,hS,Option.bind_some,hle];have h2:=aZ hn l i (by omega)
  have h3:Ab enc l=Ab enc (l.take i)++Ab enc (l.drop i):=by rw[←TJ,List.take_append_drop]
  have h4:(l.take i).length=i:=by rw[List.length_take];omega
  have:=Lm hn hs (l.take i) (Ab enc (l.drop i));rw[h4,←h3] at this;rw[show 0+0*n=0 by omega,List.drop_zero,this]
 have c2:Dt T (.rs n o 0 l.length) none (some (.int .i64 (i:Int))) none=some (.rs n o (0+0*n) i):=by
  have hb:i≤l.length:=by omega
  simp[Dt,bnd,hT,hb]
 by_cases c:i=0
 ·subst c;refine⟨.vs n [] .none,_,.int .i64 0,?_,c2,?_⟩
  ·have hb:(1:Int)≤l.length:=by omega
   simp[Dt,bnd,hT,hb]
  ·have e:S.set o (.cells (A9 (Ab enc l) n (Ab enc (l.take 0))) 0)=S:=by
    have:A9 (Ab enc l) n (Ab enc (l.take 0))=Ab enc l:=by simp[A9,Ab]
    rw[this];obtain⟨hlt,he⟩:=List.getElem?_eq_some_iff.1 hS;rw[←he,List.set_getElem_self]
   rw[e];unfold UM;rw[hT,hsrc];rfl
 ·refine⟨.rs n o (0+1*n) i,_,.int .i64 (i:Int),?_,c2,?_⟩
  ·have hb:i+1≤l.length:=by omega
   have hb2:(i:Int)+1≤l.length:=by omega
   have e2:((i:Int)+1).toNat=i+1:=by omega
   have h1:(1:Int)≤(i:Int)+1:=by omega
   have h2:1 < i+1:=by omega
   have h3:(0:Int)≤(i:Int)+1:=by omega
   simp[Dt,bnd,hT,hb2,e2,h2,h3,h1]
  ·have hle:0+1*n+i*n≤(Ab enc l).length:=by
    rw[hl];have:=Nat.mul_le_mul_right n (show i+1≤l.length by omega)
    rw[Nat.add_mul] at this;omega
   unfold UM;rw[hT,hsrc];have h4:(l.take i).length=i:=by rw[List.length_take];omega
   have h5:(((l.take i).map enc).take i).flatten=Ab enc (l.take i):=by
    rw[List.take_of_length_le (by simp;omega)]
    simp[Ab,List.flatMap]
   simp only[Option.bind_some,DG,hS,hle,and_self,if_true,List.length_map,h4,Nat.min_self,h5,Jy];simp
end
end Go.Av
