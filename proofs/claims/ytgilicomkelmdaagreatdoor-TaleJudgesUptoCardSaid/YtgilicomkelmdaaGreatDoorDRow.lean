/- Parts of the proofs of this seat: abstract values over the model, and what the functions of the program do. No condition. -/
import Derived.Test.YtgilicomkelmdaaGreatDoorD0
set_option linter.all false
set_option maxRecDepth 100000
namespace Go.Av
def Kp(b:Nat)(S S':St):Prop:=∀j,j < b→S'[j]? =S[j]?
theorem Kp.refl(b:Nat)(S:St):Kp b S S:=fun _ _=>rfl
theorem Kp.trans{b:Nat}{A B D:St}(h:Kp b A B)(k:Kp b B D):Kp b A D:=fun j hj=>(k j hj).trans (h j hj)
theorem Kp.set{b id:Nat}{S:St}{o:Obj}(h:b≤id):Kp b S (S.set id o):=fun j hj=>Au (by omega)
section
variable {α:Type} {enc:α→List AV} {n:Nat}
def BN(enc:α→List AV)(l:List α):List AV:=l.flatMap enc
theorem GK(hn:∀x,(enc x).length=n):∀(l:List α),(BN enc l).length=l.length*n
 |[]=>by simp[BN]
 |x::l=>by
  have:=GK hn l;simp only[BN,List.flatMap_cons,List.length_append,List.length_cons] at this ⊢;rw[this,hn,Nat.add_mul];omega
theorem Mi{l:List α}{i:Nat}{x:α}(h:l[i]? =some x):BN enc l=BN enc (l.take i)++(enc x++BN enc (l.drop (i+1))):=by
 have hi:=(List.getElem?_eq_some_iff.1 h).1;have h2:=(List.getElem?_eq_some_iff.1 h).2
 conv=>lhs;rw[←List.take_append_drop i l,List.drop_eq_getElem_cons hi,h2]
 simp[BN]
theorem LM(hn:∀x,(enc x).length=n){l:List α}{i:Nat}{x:α}(J:List AV)(h:l[i]? =some x):(BN enc l++J).drop (i*n)=enc x++(BN enc (l.drop (i+1))++J):=by
 have hi:=(List.getElem?_eq_some_iff.1 h).1;have hl:(BN enc (l.take i)).length=i*n:=by rw[GK hn,List.length_take,Nat.min_eq_left (by omega)]
 rw[Mi h,List.append_assoc,←hl,List.drop_left,List.append_assoc]
theorem fw(hn:∀x,(enc x).length=n){l:List α}{i k:Nat}{x:α}(J:List AV)(h:l[i]? =some x)(hk:k < n):(BN enc l++J)[i*n+k]? =(enc x)[k]?:=by
 rw[←List.getElem?_drop,LM hn J h,List.getElem?_append_left (by rw[hn];exact hk)]
theorem UZ(hn:∀x,(enc x).length=n){l:List α}{i:Nat}{x:α}(J:List AV)(h:l[i]? =some x):i*n+n≤(BN enc l++J).length:=by
 have hi:=(List.getElem?_eq_some_iff.1 h).1;rw[List.length_append,GK hn];have:=Nat.mul_le_mul_right n (show i+1≤l.length from hi)
 rw[Nat.add_mul] at this;omega
theorem bD(hn:∀x,(enc x).length=n){l:List α}{i:Nat}{x:α}(J:List AV)(y:α)(h:l[i]? =some x):EJ (BN enc l++J) (i*n) (enc y)=BN enc (l.set i y)++J:=by
 have hi:=(List.getElem?_eq_some_iff.1 h).1;have hl:(BN enc (l.take i)).length=i*n:=by rw[GK hn,List.length_take,Nat.min_eq_left (by omega)]
 have hs:(l.set i y)[i]? =some y:=by simp[hi]
 have e1:(l.set i y).take i=l.take i:=List.take_set_of_le (Nat.le_refl i);have e2:(l.set i y).drop (i+1)=l.drop (i+1):=List.drop_set_of_lt (Nat.lt_succ_self i);rw[Mi hs,e1,e2];have e3:=LM hn J h;unfold EJ;rw[hn,←List.drop_drop,e3];have e4:(enc x++(BN enc (l.drop (i+1))++J)).drop n=BN enc (l.drop (i+1))++J:=by rw[←hn x,List.drop_left]
 rw[e4];have e5:(BN enc l++J).take (i*n)=BN enc (l.take i):=by
  rw[Mi h,List.append_assoc,←hl,List.take_left]
 rw[e5];simp
theorem Nf{T:TI}{S:St}{id tg:Nat}{l:List α}{i:Nat}{x:α}{J:List AV}(hS:S[id]? =some (.cells (BN enc l++J) tg))(hT:T.size=n)(hA:T.agg=true)(hn:∀x,(enc x).length=n)(h:l[i]? =some x):
  AP T S (.ptr id (i*n))=some (.agg (enc x)):=by
 have hle:=UZ hn J h;have hd:=LM hn J h;rw[Aa hS];simp only[Iy,hA,hT,if_true,hle,hd];rw[←hn x,List.take_left]
theorem KX{T:TI}{S:St}{id tg:Nat}{l:List α}{i:Nat}{x:α}{J:List AV}(y:α)(hS:S[id]? =some (.cells (BN enc l++J) tg))(hT:T.size=n)(hn:∀x,(enc x).length=n)(h:l[i]? =some x){v:AV}(hv:v.cells=enc y)(hf:v.free=true):
  A8 T S (.ptr id (i*n)) v=some (S.set id (.cells (BN enc (l.set i y)++J) tg)):=by
 have hle:=UZ hn J h;rw[Am hS];simp only[FL,hv,hn,hT,hf,hle,and_self,if_true,Option.map_some];rw[bD hn J y h]
theorem Tv{T:TI}{S:St}{id tg:Nat}{l:List α}{i k m:Nat}{x:α}{J:List AV}(hS:S[id]? =some (.cells (BN enc l++J) tg))(hT:T.size=m)(hA:T.agg=true)(hn:∀x,(enc x).length=n)(h:l[i]? =some x)(hk:k+m≤n):
  AP T S (.ptr id (i*n+k))=some (.agg (((enc x).drop k).take m)):=by
 have hle:=UZ hn J h;have hd:=LM hn J h;rw[Aa hS];have:(BN enc l++J).drop (i*n+k)=(enc x).drop k++(BN enc (l.drop (i+1))++J):=by
  rw[←List.drop_drop,hd,List.drop_append_of_le_length (by rw[hn];omega)]
 simp only[Iy,hA,hT,if_true,this];rw[if_pos (by omega),List.take_append_of_le_length (by rw[List.length_drop,hn];omega)]
theorem jk{T:TI}{S:St}{id tg:Nat}{l:List α}{i k:Nat}{x:α}{J:List AV}(hS:S[id]? =some (.cells (BN enc l++J) tg))(hA:T.agg=false)(hn:∀x,(enc x).length=n)(h:l[i]? =some x)(hk:k < n):
  AP T S (.ptr id (i*n+k))=(enc x)[k]?:=by
 rw[Aa hS];simp only[Iy,hA,if_false,Bool.false_eq_true];exact fw hn J h hk
end
end Go.Av
