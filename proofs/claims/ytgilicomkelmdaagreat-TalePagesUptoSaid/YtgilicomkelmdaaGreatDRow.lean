/- Parts of the proofs of this seat: abstract values over the model, and what the functions of the program do. No condition. -/
import Derived.Test.YtgilicomkelmdaaGreatD0
set_option linter.all false
namespace Go.Av
def Kp(b:Nat)(S S':St):Prop:=∀j,j < b→S'[j]? =S[j]?
theorem Kp.refl(b:Nat)(S:St):Kp b S S:=fun _ _=>rfl
theorem Kp.trans{b:Nat}{A B D:St}(h:Kp b A B)(k:Kp b B D):Kp b A D:=fun j hj=>(k j hj).trans (h j hj)
theorem Kp.set{b id:Nat}{S:St}{o:Obj}(h:b≤id):Kp b S (S.set id o):=fun j hj=>An (by omega)
section
variable {α:Type} {enc:α→List AV} {n:Nat}
def Ao(enc:α→List AV)(l:List α):List AV:=l.flatMap enc
theorem EF(hn:∀x,(enc x).length=n):∀(l:List α),(Ao enc l).length=l.length*n
 |[]=>by simp[Ao]
 |x::l=>by
  have:=EF hn l;simp only[Ao,List.flatMap_cons,List.length_append,List.length_cons] at this ⊢;rw[this,hn,Nat.add_mul];omega
theorem MY{l:List α}{i:Nat}{x:α}(h:l[i]? =some x):Ao enc l=Ao enc (l.take i)++(enc x++Ao enc (l.drop (i+1))):=by
 have hi:=(List.getElem?_eq_some_iff.1 h).1;have h2:=(List.getElem?_eq_some_iff.1 h).2
 conv=>lhs;rw[←List.take_append_drop i l,List.drop_eq_getElem_cons hi,h2]
 simp[Ao]
theorem Io(hn:∀x,(enc x).length=n){l:List α}{i:Nat}{x:α}(J:List AV)(h:l[i]? =some x):(Ao enc l++J).drop (i*n)=enc x++(Ao enc (l.drop (i+1))++J):=by
 have hi:=(List.getElem?_eq_some_iff.1 h).1;have hl:(Ao enc (l.take i)).length=i*n:=by rw[EF hn,List.length_take,Nat.min_eq_left (by omega)]
 rw[MY h,List.append_assoc,←hl,List.drop_left,List.append_assoc]
theorem bu(hn:∀x,(enc x).length=n){l:List α}{i k:Nat}{x:α}(J:List AV)(h:l[i]? =some x)(hk:k < n):(Ao enc l++J)[i*n+k]? =(enc x)[k]?:=by
 rw[←List.getElem?_drop,Io hn J h,List.getElem?_append_left (by rw[hn];exact hk)]
theorem Ox(hn:∀x,(enc x).length=n){l:List α}{i:Nat}{x:α}(J:List AV)(h:l[i]? =some x):i*n+n≤(Ao enc l++J).length:=by
 have hi:=(List.getElem?_eq_some_iff.1 h).1;rw[List.length_append,EF hn];have:=Nat.mul_le_mul_right n (show i+1≤l.length from hi)
 rw[Nat.add_mul] at this;omega
theorem Qv(hn:∀x,(enc x).length=n){l:List α}{i:Nat}{x:α}(J:List AV)(y:α)(h:l[i]? =some x):Dy (Ao enc l++J) (i*n) (enc y)=Ao enc (l.set i y)++J:=by
 have hi:=(List.getElem?_eq_some_iff.1 h).1;have hl:(Ao enc (l.take i)).length=i*n:=by rw[EF hn,List.length_take,Nat.min_eq_left (by omega)]
 have hs:(l.set i y)[i]? =some y:=by simp[hi]
 have e1:(l.set i y).take i=l.take i:=List.take_set_of_le (Nat.le_refl i);have e2:(l.set i y).drop (i+1)=l.drop (i+1):=List.drop_set_of_lt (Nat.lt_succ_self i);rw[MY hs,e1,e2];have e3:=Io hn J h;unfold Dy;rw[hn,←List.drop_drop,e3];have e4:(enc x++(Ao enc (l.drop (i+1))++J)).drop n=Ao enc (l.drop (i+1))++J:=by rw[←hn x,List.drop_left]
 rw[e4];have e5:(Ao enc l++J).take (i*n)=Ao enc (l.take i):=by
  rw[MY h,List.append_assoc,←hl,List.take_left]
 rw[e5];simp
theorem KO{T:TI}{S:St}{id tg:Nat}{l:List α}{i:Nat}{x:α}{J:List AV}(hS:S[id]? =some (.cells (Ao enc l++J) tg))(hT:T.size=n)(hA:T.agg=true)(hn:∀x,(enc x).length=n)(h:l[i]? =some x):
  AM T S (.ptr id (i*n))=some (.agg (enc x)):=by
 have hle:=Ox hn J h;have hd:=Io hn J h;rw[AO hS];simp only[Iz,hA,hT,if_true,hle,hd];rw[←hn x,List.take_left]
theorem J6{T:TI}{S:St}{id tg:Nat}{l:List α}{i:Nat}{x:α}{J:List AV}(y:α)(hS:S[id]? =some (.cells (Ao enc l++J) tg))(hT:T.size=n)(hn:∀x,(enc x).length=n)(h:l[i]? =some x){v:AV}(hv:v.cells=enc y)(hf:v.free=true):
  BC T S (.ptr id (i*n)) v=some (S.set id (.cells (Ao enc (l.set i y)++J) tg)):=by
 have hle:=Ox hn J h;rw[Am hS];simp only[Ej,hv,hn,hT,hf,hle,and_self,if_true,Option.map_some];rw[Qv hn J y h]
theorem Sd{T:TI}{S:St}{id tg:Nat}{l:List α}{i k m:Nat}{x:α}{J:List AV}(hS:S[id]? =some (.cells (Ao enc l++J) tg))(hT:T.size=m)(hA:T.agg=true)(hn:∀x,(enc x).length=n)(h:l[i]? =some x)(hk:k+m≤n):
  AM T S (.ptr id (i*n+k))=some (.agg (((enc x).drop k).take m)):=by
 have hle:=Ox hn J h;have hd:=Io hn J h;rw[AO hS];have:(Ao enc l++J).drop (i*n+k)=(enc x).drop k++(Ao enc (l.drop (i+1))++J):=by
  rw[←List.drop_drop,hd,List.drop_append_of_le_length (by rw[hn];omega)]
 simp only[Iz,hA,hT,if_true,this];rw[if_pos (by omega),List.take_append_of_le_length (by rw[List.length_drop,hn];omega)]
theorem Xj{T:TI}{S:St}{id tg:Nat}{l:List α}{i k:Nat}{x:α}{J:List AV}(hS:S[id]? =some (.cells (Ao enc l++J) tg))(hA:T.agg=false)(hn:∀x,(enc x).length=n)(h:l[i]? =some x)(hk:k < n):
  AM T S (.ptr id (i*n+k))=(enc x)[k]?:=by
 rw[AO hS];simp only[Iz,hA,if_false,Bool.false_eq_true];exact bu hn J h hk
end
section
variable {α:Type} {enc:α→List AV} {n:Nat}
def Ht(enc:α→List AV)(n:Nat)(S:St)(x:AV)(l:List α):Option Nat→Prop
 |none=>x= .vs n [] .nil∧l=[]
 |some id=>x= .rs n id 0 l.length∧S[id]? =some (.cells (Ao enc l) 0)
theorem Ht.mono{S S':St}{x:AV}{l:List α}{o:Option Nat}(h:Ht enc n S x l o)(k:∀id,o=some id→S'[id]? =S[id]?):Ht enc n S' x l o:=by
 cases o with
 |none=>exact h
 |some id=>exact⟨h.1,(k id rfl).trans h.2⟩
theorem Ht.lt{S:St}{x:AV}{l:List α}{id:Nat}(h:Ht enc n S x l (some id)):id < S.length:=(List.getElem?_eq_some_iff.1 h.2).1
theorem Ht.sx{S S':St}{x:AV}{l:List α}{o:Option Nat}(h:Ht enc n S x l o)(k:Sx S S'):Ht enc n S' x l o:=
 h.mono fun id e=>by subst e;exact k id h.lt
theorem Ht.strip{S:St}{x:AV}{l:List α}{o:Option Nat}(h:Ht enc n S x l o):x.strip=x∧x.free=true∧x.flat=x∧Bb x=some (.int .i64 l.length):=by
 cases o with
 |none=>obtain⟨rfl,rfl⟩:=h;exact⟨rfl,rfl,rfl,rfl⟩
 |some id=>obtain⟨rfl,_⟩:=h;exact⟨rfl,rfl,rfl,rfl⟩
theorem MD(hn:∀x,(enc x).length=n)(hs:∀x,(enc x).map AV.strip1=enc x):∀(l:List α) (J:List AV),chunks n l.length (Ao enc l++J)=l.map enc
 |[],J=>rfl
 |x::l,J=>by
  have e:Ao enc (x::l)++J=enc x++(Ao enc l++J):=by simp[Ao]
  have h1:(enc x++(Ao enc l++J)).take n=enc x:=by rw[←hn x,List.take_left]
  have h2:(enc x++(Ao enc l++J)).drop n=Ao enc l++J:=by rw[←hn x,List.drop_left]
  rw[List.length_cons,chunks,e,h1,h2,hs,MD hn hs l J];rfl
theorem Ht.elems(hn:∀x,(enc x).length=n)(hs:∀x,(enc x).map AV.strip1=enc x){S:St}{x:AV}{l:List α}{o:Option Nat}(h:Ht enc n S x l o):BN S n x=some (l.map enc):=by
 cases o with
 |none=>obtain⟨rfl,rfl⟩:=h;simp[BN]
 |some id=>
  obtain⟨rfl,h2⟩:=h;have hl:=EF hn l;have:=MD hn hs l [];rw[List.append_nil] at this;simp[BN,Cp,h2,hl,this]
theorem Ht.part(hn:∀x,(enc x).length=n)(hs:∀x,(enc x).map AV.strip1=enc x){T:TI}(hT:T.size=n){S:St}{x:AV}{l:List α}{o:Option Nat}(h:Ht enc n S x l o){a b:Nat}(hab:a≤b)(hb:b≤l.length){k1 k2:IntKind}:
  ∃y,Dm T x (some (.int k1 (a:Int))) (some (.int k2 (b:Int))) none=some y∧BN S n y=some (((l.take b).drop a).map enc)∧y.strip=y∧y.free=true:=by
 cases o with
 |none=>
  obtain⟨rfl,rfl⟩:=h;simp at hb;subst hb;have:a=0:=by omega
  subst this;exact⟨.vs n [] .nil,by simp[Dm,bnd,hT],by simp[BN],rfl,rfl⟩
 |some id=>
  obtain⟨rfl,h2⟩:=h;have hl:=EF hn l
  by_cases c:a < b∨a=0
  ·refine⟨.rs n id (0+a*n) (b - a),?_,?_,rfl,rfl⟩
   ·simp[Dm,bnd,hT,hb,hab,c]
   ·have hle:(0+a*n)+(b - a)*n≤(Ao enc l).length:=by
     rw[hl,Nat.zero_add,←Nat.add_mul];exact Nat.mul_le_mul_right n (by omega)
    have hd:(Ao enc l).drop (0+a*n)=Ao enc (l.drop a):=by
     have:Ao enc l=Ao enc (l.take a)++Ao enc (l.drop a):=by
      unfold Ao;rw[←List.flatMap_append,List.take_append_drop]
     have h3:(Ao enc (l.take a)).length=a*n:=by rw[EF hn,List.length_take,Nat.min_eq_left (by omega)]
     rw[this,Nat.zero_add,←h3,List.drop_left]
    have he:Ao enc (l.drop a)=Ao enc ((l.take b).drop a)++Ao enc (l.drop b):=by
     have:l.drop a=(l.take b).drop a++l.drop b:=by
      conv=>lhs;rw[←List.take_append_drop b l]
      rw[List.drop_append_of_le_length (by rw[List.length_take];omega)]
     rw[this];simp[Ao]
    have hlen:b - a=((l.take b).drop a).length:=by rw[List.length_drop,List.length_take];omega
    simp only[BN,if_true,Cp,h2,Option.bind_some,hle,hd,he];rw[hlen,MD hn hs]
  ·refine⟨.vs n [] .none,?_,?_,rfl,rfl⟩
   ·simp[Dm,bnd,hT,hb,hab,c]
   ·have:(l.take b).drop a=[]:=by rw[List.drop_eq_nil_iff,List.length_take];omega
    simp[BN,this]
theorem Ht.append(hn:∀x,(enc x).length=n){T:TI}(hT:T.size=n){S:St}{x y:AV}{l m:List α}{o:Option Nat}(h:Ht enc n S x l o)(hy:BN S n y=some (m.map enc))(hl:l.length+m.length≤lim):
  ∃x' S' o',appendR T S x y=some (x',S')∧Ht enc n S' x' (l++m) o'∧(∀j,j < S.length→o≠some j→S'[j]? =S[j]?)∧S.length≤S'.length∧(∀j,o'=some j→o=some j∨S.length≤j):=by
 by_cases e:m=[]
 ·subst e;refine⟨x,S,o,?_,by simpa using h,fun _ _ _=>rfl,Nat.le_refl _,fun j hj=>.inl hj⟩
  cases o with
  |none=>obtain⟨rfl,_⟩:=h;simp[appendR,hT,hy]
  |some id=>obtain⟨rfl,_⟩:=h;simp[appendR,hT,hy]
 ·have hne:m.map enc≠[]:=by simpa using e
  have hfl:(m.map enc).flatten=Ao enc m:=by simp[Ao,List.flatMap]
  cases o with
  |none=>
   obtain⟨rfl,rfl⟩:=h;refine⟨.rs n S.length 0 m.length,S++[.cells (Ao enc m) 0],some S.length,?_,⟨by simp,by simp⟩,fun j hj _=>by rw[List.getElem?_append_left hj],by simp,fun j hj=>by cases hj;exact .inr (Nat.le_refl _)⟩
   have h1:m.length≤lim:=by simpa using hl
   simp[appendR,hT,hy,e,h1,hfl]
  |some id=>
   obtain⟨rfl,h2⟩:=h;have hl2:=EF hn l;refine⟨.rs n S.length 0 (l.length+m.length),S.set id .dead++[.cells (Ao enc (l++m)) 0],some S.length,?_,⟨by simp,?_⟩,fun j hj hn=>?_,by simp,fun j hj=>by cases hj;exact .inr (Nat.le_refl _)⟩
   ·have h1:l.length+m.length≤lim:=hl;have ht:(Ao enc l).take (l.length*n)=Ao enc l:=by rw[←hl2,List.take_length]
    have ha:Ao enc (l++m)=Ao enc l++Ao enc m:=by simp[Ao]
    simp[appendR,hT,hy,e,Cp,h2,hl2,h1,hfl,ht,ha]
   ·rw[List.getElem?_append_right (by simp)]
    simp
   ·rw[List.getElem?_append_left (by simpa using hj),List.getElem?_set_ne (fun e=>hn (by rw[e]))]
theorem Ht.idx{T:TI}(hT:T.size=n){S:St}{x:AV}{l:List α}{id:Nat}(h:Ht enc n S x l (some id)){i:Nat}(hi:i < l.length){k:IntKind}:AZ T x (.int k (i:Int))=some (.ptr id (i*n)):=by
 obtain⟨rfl,_⟩:=h;have:(i:Int) < l.length:=by omega
 simp[AZ,hT,this]
theorem Ht.load(hn:∀x,(enc x).length=n){T:TI}(hT:T.size=n)(hA:T.agg=true){S:St}{x:AV}{l:List α}{id:Nat}(h:Ht enc n S x l (some id)){i:Nat}{y:α}(hi:l[i]? =some y):AM T S (.ptr id (i*n))=some (.agg (enc y)):=
 KO (J:=[]) (by rw[List.append_nil];exact h.2) hT hA hn hi
theorem Ht.cell(hn:∀x,(enc x).length=n){T:TI}(hA:T.agg=false){S:St}{x:AV}{l:List α}{id:Nat}(h:Ht enc n S x l (some id)){i k:Nat}{y:α}(hi:l[i]? =some y)(hk:k < n):AM T S (.ptr id (i*n+k))=(enc y)[k]?:=
 Xj (J:=[]) (by rw[List.append_nil];exact h.2) hA hn hi hk
theorem Ht.put(hn:∀x,(enc x).length=n){T:TI}(hT:T.size=1){S:St}{x:AV}{l:List α}{id:Nat}(h:Ht enc n S x l (some id)){i k:Nat}{y z:α}(hi:l[i]? =some y)(hk:k < n){v:AV}(hv:v.cells=[v])(hf:v.free=true)(hz:enc z=Dy (enc y) k [v]):
  ∃S',BC T S (.ptr id (i*n+k)) v=some S'∧Ht enc n S' x (l.set i z) (some id)∧S'.length=S.length∧∀j,j≠id→S'[j]? =S[j]?:=by
 obtain⟨rfl,h2⟩:=h;have hle:=Ox hn [] hi;rw[List.append_nil] at hle;have hw:=Qv hn [] z hi;rw[List.append_nil,List.append_nil] at hw;have hd:=Io hn [] hi;rw[List.append_nil,List.append_nil] at hd;have e:Dy (Ao enc l) (i*n+k) [v]=Ao enc (l.set i z):=by
  rw[←hw,hz];have hy:=hn y;unfold Dy;have h3:(Ao enc l).take (i*n+k)=(Ao enc l).take (i*n)++(enc y).take k:=by
   rw[List.take_add,hd,List.take_append_of_le_length (by omega)]
  have h4:(Ao enc l).drop (i*n+k+[v].length)=(enc y).drop (k+1)++Ao enc (l.drop (i+1)):=by
   rw[Nat.add_assoc,←List.drop_drop,hd,List.drop_append_of_le_length (by simp;omega)]
   rfl
  have h5:(Ao enc l).drop (i*n+((enc y).take k++[v]++(enc y).drop (k+[v].length)).length)=Ao enc (l.drop (i+1)):=by
   have:((enc y).take k++[v]++(enc y).drop (k+[v].length)).length=n:=by simp;omega
   rw[this,←List.drop_drop,hd,←hy,List.drop_left]
  rw[h3,h4,h5];simp
 refine⟨S.set id (.cells (Ao enc (l.set i z)) 0),?_,⟨by simp,Ab h2⟩,by simp,fun j hj=>An (fun e=>hj e.symm)⟩
 rw[Am h2];have hle2:i*n+k+1≤(Ao enc l).length:=by omega
 simp only[Ej,hv,hT,hf,List.length_singleton,hle2,and_self,if_true,Option.map_some,e]
end
end Go.Av
