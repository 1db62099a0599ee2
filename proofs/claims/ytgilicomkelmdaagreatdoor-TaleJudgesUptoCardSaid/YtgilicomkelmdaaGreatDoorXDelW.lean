/- Parts of the proofs of this seat: abstract values over the model, and what the functions of the program do. No condition. -/
import Derived.Test.YtgilicomkelmdaaGreatDoorM6
import Derived.Shelf.SlLaysE0
import Derived.Shelf.RegionOpenPlain
import Derived.WalkKit
import Derived.Deep.LoopGhost
import Derived.Deep.RegionLaw
import Derived.Lib.Walk
import Derived.Sort.WalkB12
import Derived.Lib.SliceRun
set_option linter.all false
set_option maxRecDepth 100000
namespace Go.Av
open Go.Shelf Go.RowKit Go.Lib Go.Proofs
theorem TH{P:Program}{ops:Array Oper}{o:Oper}{a:Act}{w:World}{K:Act→World→Prop}{Q:Exit→Act→World→Prop}{E:Prop}
  (hg:o.guard=none) (s x:Operand) (t:TypeId) (hop:o.op=Op.call {callee:=Callee.builtin Builtin.append,args:=#[s,x],argTypes:=#[t,t]})
  (e:TypeId) (i:TypeInfo) (h1:P.underlying t=some (.slice e)) (h2:P.info? e=some i)
  (b off n cap:Nat) (hs:a.eval s= .slice (some ⟨b,off,none⟩) n cap) {arr:Array Value} {e':TypeId} (hb:w.heap[b]? =some (.cells arr e' (0,0)))
  (xv:Value) (m:Nat) (news:List Value) (hx:a.eval x=xv) (hn:(Builtin.lenOf xv).run P w= .ok m w) (hf:(Builtin.firstCells i.size m xv).run P w= .ok news.toArray w) (h1c:∀u∈news,u.oneCell'=true)
  (hroom:n+m≤cap) (hfit:off+n*i.size+news.length≤arr.size)
  (w2:World) (hw2:w2=w.setRow b (arr.toList.take (off+n*i.size)++news++arr.toList.drop (off+n*i.size+news.length)).toArray)
  (hK:K (a.put o.dst (.slice (some ⟨b,off,none⟩) (n+m) cap)) w2):
  if Region.wanted o (yielded ops a.tmps)=true then Oper.wp P o a w K Q else E:=by
 have hw:Region.wanted o (yielded ops a.tmps)=true:=by simp[Region.wanted,hg]
 rw[if_pos hw];have hrun:=HB (P:=P) (w:=w) (t:=t) (u:=t) (ty:=o.type) h1 h1 rfl h2 hb hroom hn hf h1c hfit;subst hx;rw[←hw2] at hrun;unfold Oper.wp;simp[execOp,hop,Go.resolve,invoke,builtin,hs,hrun,Result.andThen];exact hK
theorem Wc{P:Program}(w:World)(t e ty:TypeId)(z:Value)(ht:P.underlying t=some (.slice e))(hv:∀w,(zeroValue e).run P w= .ok z w)(b o c:Nat){arr:Array Value}{e':TypeId}(hb:w.heap[b]? =some (.cells arr e' (0,0)))
  (h1:∀u∈z.cells,u.oneCell'=true) (hfit:o+z.cells.size≤arr.size):
  (Builtin.clear_ #[t] ty #[.slice (some ⟨b,o,none⟩) 1 c]).run P w= .ok (.tuple #[]) (w.setRow b (arr.toList.take o++z.cells.toList++arr.toList.drop (o+z.cells.size)).toArray):=by
 have hzc:(Builtin.zeroCells z.cells 1).toList=z.cells.toList:=by
  simp only[Builtin.zeroCells,Nat.one_mul];apply List.ext_getElem
  ·simp
  ·intro i h1 h2;simp at h1 h2;simp[Nat.mod_eq_of_lt h2,h2]
 have hst:=run_storeCells_at P b o e' z.cells.toList 0 arr w hb (by simpa using hfit) (by simpa using h1)
 simp only[Nat.add_zero] at hst;simp[Builtin.clear_,run_underlying ht,hv,hzc,hst]
variable {P:Program} {ρ:Ren}
set_option maxHeartbeats 4000000 in
set_option maxRecDepth 1000000 in
theorem bk(L:SlLaysE0.n45 P ρ)(z:Value)(i0:TypeInfo)(hi0:P.info? (ρ.t 23)=some i0)(hz1:i0.size=2)(z23:∀w,(Go.sizeOf (ρ.t 23)).run P w= .ok 2 w)(v23:∀w,(zeroValue (ρ.t 23)).run P w= .ok z w)(hzs:z.cells.size=2)(hzc:∀u∈z.cells,u.oneCell'=true)
  (blk cap i j n:Nat) (hji:j=i+1) (arr:Array Value) (e:TypeId) (w:World) (hb:w.heap[blk]? =some (.cells arr e (0,0))) (hcap:n≤cap) (hj:j≤n) (hfit:cap*2≤arr.size) (hone:∀k u,k < n*2→arr[k]? =some u→u.oneCell'=true):
  Calls P (ρ.f 45) #[.slice (some ⟨blk,0,none⟩) n cap,.int .i64 i,.int .i64 j] w fun ex w'=>ex= .returned (.slice (some ⟨blk,0,none⟩) (n - 1) cap)∧
   ∃arr':Array Value,w'=w.drew.setRow blk arr'∧arr'.size=arr.size∧(∀k,k < i*2→arr'[k]? =arr[k]?)∧∀k,i*2≤k→k < (n - 1)*2→arr'[k]? =arr[k+2]?:=by
 have mixed:=L.mixed;have t0:=L.t0;have a0:=L.a0;have z0:=L.z0;have v0:=L.v0;have t3:=L.t3;have a3:=L.a3;have z3:=L.z3;have v3:=L.v3;have t4:=L.t4;have a4:=L.a4;have z4:=L.z4;have v4:=L.v4;have t22:=L.t22;have a22:=L.a22;have z22:=L.z22;have v22:=L.v22;have hlt:i < j:=by omega
 have hij:i≤j:=by omega
 have heq:¬i=j:=by omega
 obtain⟨news,hnews⟩:∃news,news=(arr.toList.drop (j*2)).take ((n - j)*2):=⟨_,rfl⟩;have hlen:news.length=(n - j)*2:=by rw[hnews,List.length_take,List.length_drop,Array.length_toList];omega
 have hnget:∀t,t < (n - j)*2→news[t]? =arr[j*2+t]?:=fun t ht=>by
  rw[hnews,List.getElem?_take,if_pos ht,List.getElem?_drop,Array.getElem?_toList]
 obtain⟨A,hA,hsrc⟩:∃A:Addr,(if cap=j then some (⟨blk,0,none⟩:Addr) else some ⟨blk,j*2,none⟩)=some A∧Hid (∀t u,news[t]? =some u→w.drew.cell? (A.add t)=some u):=by
  by_cases h:cap=j
  ·refine⟨⟨blk,0,none⟩,by simp[h],fun t u hu=>?_⟩
   have h0:news.length=0:=by rw[hlen];omega
   rw[List.length_eq_zero_iff.1 h0] at hu;simp at hu
  ·refine⟨⟨blk,j*2,none⟩,by simp[h],fun t u hu=>?_⟩
   have ht:=(List.getElem?_eq_some_iff.1 hu).1;rw[hlen] at ht;rw[hnget t ht] at hu;rw[Addr.add_lit,Kl (w:=w.drew) hb];exact hu
 have s2:Hid (∀u∈news,u.oneCell'=true):=by
  intro u hu;obtain⟨k,hk'⟩:=List.mem_iff_getElem?.1 hu;have hk:=(List.getElem?_eq_some_iff.1 hk').1;rw[hlen] at hk;rw[hnget k hk] at hk';exact hone _ _ (by omega) hk'
 obtain⟨arr1,harr1⟩:∃arr1,arr1=(arr.toList.take (0+i*i0.size)++news++arr.toList.drop (0+i*i0.size+news.length)).toArray:=⟨_,rfl⟩;have hsz1:arr1.size=arr.size:=by rw[harr1];exact Dx (by rw[hz1,hlen];omega)
 obtain⟨W1,hW1⟩:∃W1,W1=w.drew.setRow blk arr1:=⟨_,rfl⟩;have hb1:W1.heap[blk]? =some (.cells arr1 e (0,0)):=by rw[hW1];exact setRow_heap w.drew blk arr arr1 e _ hb
 obtain⟨arr2,harr2⟩:∃arr2,arr2=(arr1.toList.take ((i+(n - j))*2)++z.cells.toList++arr1.toList.drop ((i+(n - j))*2+z.cells.toList.length)).toArray:=⟨_,rfl⟩;have hcl:∀ty,(Builtin.clear_ #[ρ.t 22] ty #[.slice (some ⟨blk,(i+(n - j))*2,none⟩) (n - (i+(n - j))) (cap - (i+(n - j)))]).run P W1= .ok (.tuple #[]) (W1.setRow blk arr2):=fun ty=>by
  rw[harr2,show n - (i+(n - j))=1 by omega]
  exact Wc W1 (ρ.t 22) (ρ.t 23) ty z t22 v23 blk ((i+(n - j))*2) _ hb1 hzc (by rw[hzs,hsz1];omega)
 have hsz2:arr2.size=arr1.size:=by rw[harr2];exact Dx (by rw[Array.length_toList,hzs,hsz1];omega)
 have hget1:∀k,arr1[k]? =if i*2≤k∧k < i*2+(n - j)*2 then arr[k+2]? else arr[k]?:=fun k=>by
  rw[harr1,List.getElem?_toArray,hz1,Nat.zero_add,DI _ _ _ _ (by rw[hlen];simp;omega),hlen]
  split
  ·rw[hnget _ (by omega)]
   congr 1;omega
  ·simp
 have hget2:∀k,k < (i+(n - j))*2→arr2[k]? =arr1[k]?:=fun k hk=>by
  rw[harr2,List.getElem?_toArray,DI _ _ _ _ (by rw[Array.length_toList,hzs,Array.length_toList,hsz1];omega),if_neg (by omega)]
  simp
 have hfin:Hid (∃arr':Array Value,W1.setRow blk arr2=w.drew.setRow blk arr'∧arr'.size=arr.size∧(∀k,k < i*2→arr'[k]? =arr[k]?)∧∀k,i*2≤k→k < (n - 1)*2→arr'[k]? =arr[k+2]?):=by
  refine⟨arr2,?_,hsz2.trans hsz1,fun k hk=>?_,fun k hk1 hk2=>?_⟩
  ·rw[hW1];exact setRow_setRow _ _ _ _
  ·rw[hget2 k (by omega),hget1,if_neg (by omega)]
  ·rw[hget2 k (by omega),hget1,if_pos (by omega)]
 have hfc:Hid ((Builtin.firstCells i0.size (n - j) (.slice (some A) (n - j) (cap - j))).run P w.drew= .ok news.toArray w.drew):=by
  have:=GA (P:=P) (w:=w.drew) (w':=w.drew) rfl (ad:=A) (cs:=news) hsrc.out;rw[hlen] at this
  show (Builtin.firstCells i0.size (n - j) (.slice (some A) (n - j) (cap - j))).run P w.drew= .ok news.toArray w.drew
  simpa[Builtin.firstCells,hz1] using this
 have hrun:Hid (W1=w.drew.setRow blk arr1):=hW1;have s1:Hid (news.length=(n - j)*2):=hlen;have hbh:Hid (w.heap[blk]? =some (.cells arr e (0,0))):=hb;have hfitH:Hid (cap*2≤arr.size):=hfit;have harr1H:Hid (arr1=(arr.toList.take (0+i*i0.size)++news++arr.toList.drop (0+i*i0.size+news.length)).toArray):=harr1;have hjiH:Hid (j=i+1):=hji;have hic:i≤cap:=by omega
 have hjc:j≤cap:=by omega
 clear hW1 hb1 hnews hlen hone hb hfit harr1 harr2 hji hget1 hget2 hsz1 hsz2 hnget;obtain⟨_,_,FG⟩:=L.f45
 go_enter FG,SlBodyN.n45_ntmps ρ
 go_wp2_with fail
 go_region_law_o (refine TH rfl (.tmp 22) (.tmp 25) (ρ.t 22) rfl (ρ.t 23) i0 t22 hi0 blk 0 i cap (by simp[Act.eval,Act.put]) (w:=w.drew) hbh.out (.slice (some A) (n - j) (cap - j)) (n - j) news (by simp[Act.eval,Act.put]) (by simp[Builtin.lenOf]) hfc.out s2.out (by omega) (by rw[hz1,s1.out];have:=hfitH.out;omega) W1 (by rw[hrun.out,harr1H.out]) ?_)
 go_wp2
 go_ret
 have hji:=hjiH.out;exact⟨by rw[show n - 1=i+(n - j) by omega];rfl,hfin.out⟩
end Go.Av
