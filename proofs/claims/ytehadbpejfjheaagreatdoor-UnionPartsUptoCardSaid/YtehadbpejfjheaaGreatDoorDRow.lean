/- Parts of the proofs of this seat: abstract values over the model, and what the functions of the program do. No condition. -/
import Derived.Test.YtehadbpejfjheaaGreatDoorD0
set_option linter.all false
set_option maxRecDepth 100000
namespace Go.Av
def Kp(b:Nat)(S S':St):Prop:=∀j,j < b→S'[j]? =S[j]?
theorem Kp.refl(b:Nat)(S:St):Kp b S S:=fun _ _=>rfl
theorem Kp.trans{b:Nat}{A B D:St}(h:Kp b A B)(k:Kp b B D):Kp b A D:=fun j hj=>(k j hj).trans (h j hj)
theorem Kp.set{b id:Nat}{S:St}{o:Obj}(h:b≤id):Kp b S (S.set id o):=fun j hj=>Cc (by omega)
section
variable {α:Type} {enc:α→List AV} {n:Nat}
def DH(enc:α→List AV)(l:List α):List AV:=l.flatMap enc
theorem Ii(hn:∀x,(enc x).length=n):∀(l:List α),(DH enc l).length=l.length*n
 |[]=>by simp[DH]
 |x::l=>by
  have:=Ii hn l;simp only[DH,List.flatMap_cons,List.length_append,List.length_cons] at this ⊢;rw[this,hn,Nat.add_mul];omega
theorem KF{l:List α}{i:Nat}{x:α}(h:l[i]? =some x):DH enc l=DH enc (l.take i)++(enc x++DH enc (l.drop (i+1))):=by
 have hi:=(List.getElem?_eq_some_iff.1 h).1;have h2:=(List.getElem?_eq_some_iff.1 h).2
 conv=>lhs;rw[←List.take_append_drop i l,List.drop_eq_getElem_cons hi,h2]
 simp[DH]
theorem Pn(hn:∀x,(enc x).length=n){l:List α}{i:Nat}{x:α}(J:List AV)(h:l[i]? =some x):(DH enc l++J).drop (i*n)=enc x++(DH enc (l.drop (i+1))++J):=by
 have hi:=(List.getElem?_eq_some_iff.1 h).1;have hl:(DH enc (l.take i)).length=i*n:=by rw[Ii hn,List.length_take,Nat.min_eq_left (by omega)]
 rw[KF h,List.append_assoc,←hl,List.drop_left,List.append_assoc]
theorem Tx(hn:∀x,(enc x).length=n){l:List α}{i:Nat}{x:α}(J:List AV)(h:l[i]? =some x):i*n+n≤(DH enc l++J).length:=by
 have hi:=(List.getElem?_eq_some_iff.1 h).1;rw[List.length_append,Ii hn];have:=Nat.mul_le_mul_right n (show i+1≤l.length from hi)
 rw[Nat.add_mul] at this;omega
theorem Tz(hn:∀x,(enc x).length=n){l:List α}{i:Nat}{x:α}(J:List AV)(y:α)(h:l[i]? =some x):De (DH enc l++J) (i*n) (enc y)=DH enc (l.set i y)++J:=by
 have hi:=(List.getElem?_eq_some_iff.1 h).1;have hl:(DH enc (l.take i)).length=i*n:=by rw[Ii hn,List.length_take,Nat.min_eq_left (by omega)]
 have hs:(l.set i y)[i]? =some y:=by simp[hi]
 have e1:(l.set i y).take i=l.take i:=List.take_set_of_le (Nat.le_refl i);have e2:(l.set i y).drop (i+1)=l.drop (i+1):=List.drop_set_of_lt (Nat.lt_succ_self i);rw[KF hs,e1,e2];have e3:=Pn hn J h;unfold De;rw[hn,←List.drop_drop,e3];have e4:(enc x++(DH enc (l.drop (i+1))++J)).drop n=DH enc (l.drop (i+1))++J:=by rw[←hn x,List.drop_left]
 rw[e4];have e5:(DH enc l++J).take (i*n)=DH enc (l.take i):=by
  rw[KF h,List.append_assoc,←hl,List.take_left]
 rw[e5];simp
theorem Xx{T:TI}{S:St}{id tg:Nat}{l:List α}{i:Nat}{x:α}{J:List AV}(hS:S[id]? =some (.cells (DH enc l++J) tg))(hT:T.size=n)(hA:T.agg=true)(hn:∀x,(enc x).length=n)(h:l[i]? =some x):
  Ap T S (.ptr id (i*n))=some (.agg (enc x)):=by
 have hle:=Tx hn J h;have hd:=Pn hn J h;rw[CA hS];simp only[IE,hA,hT,if_true,hle,hd];rw[←hn x,List.take_left]
theorem XJ{T:TI}{S:St}{id tg:Nat}{l:List α}{i:Nat}{x:α}{J:List AV}(y:α)(hS:S[id]? =some (.cells (DH enc l++J) tg))(hT:T.size=n)(hn:∀x,(enc x).length=n)(h:l[i]? =some x){v:AV}(hv:v.cells=enc y)(hf:v.free=true):
  CU T S (.ptr id (i*n)) v=some (S.set id (.cells (DH enc (l.set i y)++J) tg)):=by
 have hle:=Tx hn J h;rw[CF hS];simp only[Ei,hv,hn,hT,hf,hle,and_self,if_true,Option.map_some];rw[Tz hn J y h]
end
end Go.Av
