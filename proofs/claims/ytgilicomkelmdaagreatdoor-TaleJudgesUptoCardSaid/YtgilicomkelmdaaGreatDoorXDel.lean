/- Parts of the proofs of this seat: abstract values over the model, and what the functions of the program do. No condition. -/
import Derived.Test.YtgilicomkelmdaaGreatDoorM9
import Derived.Test.YtgilicomkelmdaaGreatDoorM10
import Derived.Test.YtgilicomkelmdaaGreatDoorD0
import Derived.Test.YtgilicomkelmdaaGreatDoorXDelW
import Derived.Test.YtgilicomkelmdaaGreatDoorXDelR
import Derived.Test.YtgilicomkelmdaaGreatDoorY05d
import Derived.Test.YtgilicomkelmdaaGreatDoorY06
import Derived.Test.YtgilicomkelmdaaGreatDoorY19
import Derived.Test.YtgilicomkelmdaaGreatDoorX05e
import Derived.Test.YtgilicomkelmdaaGreatDoorX10d
import Derived.Test.YtgilicomkelmdaaGreatDoorX04L
import Derived.Test.YtgilicomkelmdaaGreatDoorY05f
import Derived.Test.YtgilicomkelmdaaGreatDoorX10L
import Derived.Test.YtgilicomkelmdaaGreatDoorX06M
import Derived.Shelf.Lay
import Derived.Shelf.LaySoft
import Derived.Shelf.SlGeneric
import Derived.Ground.SlgnProg
import Derived.Shelf.SlicesE.Clone
set_option linter.all false
set_option maxRecDepth 100000
namespace Go.Proofs
open Go.Shelf Go.Av
shelf_lay_g SlLaysE0.n41 Slgn 41 at Tryz 166 as Tryz.laysClm
shelf_lay_g SlLaysE0.n45 Slgn 45 at Tryz 165 as Tryz.laysDlm
end Go.Proofs
namespace Go.Av
open Go.Proofs Go.Shelf Go.RowKit
theorem aY(w0:World):∃i z,Tryz.prog.info? He=some i∧i.size=2∧i.bytes=16∧i.zero=some z∧z.cells.size=2∧∀u∈z.cells,u.oneCell'=true:=by
 obtain⟨i,z,d,h1,h2,h3,h4,h5,h6,h7,h8,h9,h10⟩:=((agree w0).ty He (by kernel_rfl)).ex
 refine⟨i,z,h1,h2,h3,h4,h8,fun u hu=>?_⟩
 have hz:(Jo ((En w0).C.ty He))= .agg [.int .i64 0,.nil]:=by kernel_rfl
 have hv:=h10 (Gh.mk (fun _ _=>none) (fun _=>none) (fun _=>.ext) (fun _=>0))
 rw[hz] at hv;obtain⟨k,hk⟩:=List.getElem?_of_mem (Array.mem_toList_iff.2 hu);rw[Array.getElem?_toList] at hk;have hk2:k < 2:=by have:=(Array.getElem?_eq_some_iff.1 hk).1;rw[h8] at this;exact this
 have:=fun x hx=>(hv.cells rfl k x u hx hk)
 match k,hk2 with
 |0,_=>exact(this (.int .i64 0) rfl).oneCell rfl
 |1,_=>exact(this .nil rfl).oneCell rfl
theorem cP{w0:World}{S:St}{es:List (List AV)}{r:Rt}(h0:es≠[])(hn:es.length≤1000000){Q:AV→St→Prop}(hq:Q (.rs 2 S.length 0 es.length) (S++[.cells es.flatten 0])):
  AC w0 C6 [.vs 2 es r] S Q:=by
 refine⟨⟨_,Eq,by kernel_rfl,by kernel_rfl⟩,fun G w hrel hrole args' hl ha=>?_⟩
 obtain⟨v,rfl⟩:∃v,args'=#[v]:=by
  match args',hl with
  |⟨[v]⟩,_=>exact⟨v,rfl⟩
 have h0':=(ha 0 _ v rfl rfl).1;cases h0' with
 |vsnil=>exact(h0 rfl).elim
 |vse a sz r hr=>exact(h0 rfl).elim
 |vs b o cap sz es' r f hr hc hf hs h h2=>
  obtain⟨news,hnews⟩:∃news,news=(List.range (es.length*2)).map fun k=>f (k / 2) (k % 2):=⟨_,rfl⟩
  have hlen:news.length=es.length*2:=by rw[hnews];simp
  have hE:GC G 2 news es:=⟨hlen,hs,fun i e j x hi hj=>by
   have h3:=(hs e (List.mem_of_getElem? hi)).1;have h4:=(List.getElem?_eq_some_iff.1 hj).1;have h5:=(List.getElem?_eq_some_iff.1 hi).1;refine⟨f i j,?_,h2 i e j x hi hj⟩;rw[hnews,List.getElem?_map,List.getElem?_range (by omega)]
   simp only[Option.map_some];rw[show (i*2+j) / 2=i by omega,show (i*2+j) % 2=j by omega]⟩
  have hcell:∀j u,news[j]? =some u→w.cell? ⟨b,o+j,none⟩=some u:=fun j u hu=>by
   have h4:=(List.getElem?_eq_some_iff.1 hu).1;rw[hlen] at h4;rw[hnews,List.getElem?_map,List.getElem?_range h4] at hu;simp only[Option.map_some,Option.some.injEq] at hu;have hi:es[j / 2]? =some es[j / 2]:=List.getElem?_eq_getElem (by omega)
   have h3:=(hs _ (List.mem_of_getElem? hi)).1;have hj:es[j / 2][j % 2]? =some (es[j / 2][j % 2]):=List.getElem?_eq_getElem (by omega)
   have:=hrel.imm _ _ _ (h _ _ _ _ hi hj);rw[hu,show o+j / 2*2+j % 2=o+j by omega] at this
   exact this
  obtain⟨i0,z,i1,i2,i3,i4,i5,i6⟩:=aY w0;have hmax:es.length≤maxLen:=Nat.le_trans hn (by decide)
  refine(AnyE.slices_Clone Tryz.laysClm i0 z 2 16 i1 i4 i2 i3 i5 (by decide) (Um i1 i2) b o es.length cap news w hlen hmax (by omega) hcell hE.oneCell).mono ?_
  rintro e w' ⟨v',rfl,⟨k1,k2⟩,k3,k4⟩;rcases k2 with ⟨rfl,_⟩|⟨g,cp,cur,rfl,g1,g2,g3,g4,g5,g6⟩
  ·exact(k3 rfl).elim
  obtain⟨hf1,hf2⟩:=hE.flat;have hcur:∀j,j < es.length*2→cur[j]? =news[j]?:=fun j hj=>by
   rw[←g6,List.getElem?_take,if_pos hj,Array.getElem?_toList]
  obtain⟨q1,q2⟩:=hrel.ownRow k4 g1 g2 (cs:=es.flatten) (by rw[←hf1,hlen,g5];exact Nat.mul_le_mul_right _ g3) (fun j x v hx hv=>hf2 j x v hx (by
   have:=(List.getElem?_eq_some_iff.1 hx).1;rw[←hf1,hlen] at this;rw[←hcur j this];exact hv))
  refine⟨_,.rs 2 S.length 0 es.length,_,_,rfl,hq,q1,.of_cell1 (.rs g _ 0 _ cp 2 (by simp[Gh.obj]) g3 (by simp[Gh.obj,Gh.row,g5])) rfl,q2.weaken (by simp),fun b=>?_⟩
  by_cases hbg:b=g
  ·left;exact⟨S.length,by simp[Gh.obj,Gh.row,hbg]⟩
  ·have:((G.row g S.length cur.size).obj S.length g).role b=G.role b:=by simp[Gh.obj,Gh.row,hbg]
   rw[this];rcases hrole b with h|h|h
   ·exact .inl h
   ·exact .inr (.inl h)
   ·exact .inr (.inr (.inl h))
theorem ax{w0:World}{S:St}{id t:Nat}{es:List (List AV)}(hS:S[id]? =some (.cells es.flatten t))(hes:∀e∈es,e.length=2∧∀x∈e,x.cell1=true)(hn:es.length≤1000000){i:Nat}(hi:i < es.length){Q:AV→St→Prop}
  (hq:Q (.vs 2 (es.eraseIdx i) .none) (S.set id .dead)):
  AC w0 Cm [.rs 2 id 0 es.length,.int .i64 i,.int .i64 ((i:Int)+1)] S Q:=by
 refine⟨⟨_,Ek,by kernel_rfl,by kernel_rfl⟩,fun G w hrel hrole args' hl ha=>?_⟩
 obtain⟨v,u,u2,rfl⟩:∃v u u2,args'=#[v,u,u2]:=by
  match args',hl with
  |⟨[v,u,u2]⟩,_=>exact⟨v,u,u2,rfl⟩
 have h0':=(ha 0 _ v rfl rfl).1;have h1':=(ha 1 _ u rfl rfl).1;have h2':=(ha 2 _ u2 rfl rfl).1;cases h1';cases h2';obtain⟨fl1,fl2⟩:=GL (ys:=es) (sz:=2) fun e he=>(hes e he).1
 generalize hnn:es.length=n at h0' hi hn fl1;cases h0' with
 |rs b _ _ _ cap _ hrho hcap hlenb=>
  obtain⟨b',arr,e,k1,k2,k3,k4,k5⟩:=hrel.obj id _ hS;rw[hrho] at k1;cases k1;have hfit:cap*2≤arr.size:=by
   rw[Nat.zero_add] at hlenb;obtain⟨a2,e2,f2,q1,q2⟩:=hrel.len b (by omega)
   rw[k3] at q1;cases q1;omega
  have hcell:∀k u,k < n*2→arr[k]? =some u→∃x,es.flatten[k]? =some x∧VR G u x∧x.cell1=true:=fun k u hk hu=>by
   have hx:es.flatten[k]? =some es.flatten[k]:=List.getElem?_eq_getElem (by omega)
   refine⟨_,hx,(k4.2 k _ u hx hu).vr,?_⟩;obtain⟨e1,h1,h2⟩:=List.mem_flatten.1 (List.getElem_mem (l:=es.flatten) (n:=k) (by omega))
   exact(hes e1 h1).2 _ h2
  obtain⟨i0,z,i1,i2,i3,i4,i5,i6⟩:=aY w0;have:=bk Tryz.laysDlm z i0 i1 i2 (Um i1 i2) (WD i1 i4) i5 i6 b cap i (i+1) n rfl arr e w k3 hcap hi hfit fun k u hk hu=>by
   obtain⟨x,_,h1,h2⟩:=hcell k u hk hu;exact h1.oneCell (AV.cell1.free1 h2)
  refine this.mono ?_;rintro ex w' ⟨rfl,arr',rfl,hsz,hlo,hhi⟩;have hget:∀k,k < (n - 1)*2→arr'[k]? =arr[if k < i*2 then k else k+2]?:=fun k hk=>by
   split
   ·exact hlo k (by omega)
   ·exact hhi k (by omega) hk
  obtain⟨q1,q2⟩:=hrel.drew.freezeRow k2 (arr:=arr) (arr':=arr') (e:=e) k3 hsz (fun k=>if k < (n - 1)*2 then arr'[k]? else none) (fun k v hv=>by
   split at hv
   ·exact hv
   ·cases hv)
  have hd:Chg (fun κ=>κ≠ .ext) G w G w.drew:=⟨.refl G,Nat.le_refl _,fun _ _ _=>⟨rfl,rfl,fun _=>rfl⟩⟩
  have hle:(es.eraseIdx i).length=n - 1:=by rw[List.length_eraseIdx,hnn,if_pos hi]
  refine⟨_,.vs 2 (es.eraseIdx i) .none,_,_,rfl,hq,q1,.of_cell1 ?_ rfl,hd.trans (q2.weaken (by rintro κ rfl;simp)),fun b2=>?_⟩
  ·have:=VR.vs (G:=G.freeze b fun k=>if k < (n - 1)*2 then arr'[k]? else none) b 0 cap 2 (es.eraseIdx i) .none (fun p q=>(arr'[p*2+q]?).getD undef) (by simp) (by rw[hle];omega) (by simp) (fun e he=>hes e (List.mem_of_mem_eraseIdx he))
    (fun p e q x hp hq=>by
     have h1:p < n - 1:=by rw[←hle];exact(List.getElem?_eq_some_iff.1 hp).1
     have h2:=(hes e (List.mem_of_mem_eraseIdx (List.mem_of_getElem? hp))).1;have h3:=(List.getElem?_eq_some_iff.1 hq).1;have h4:p*2+q < arr'.size:=by omega
     simp only[Gh.freeze,if_true,Nat.zero_add];rw[if_pos (by omega),Array.getElem?_eq_getElem h4]
     rfl)
    (fun p e q x hp hq=>by
     have h1:p < n - 1:=by rw[←hle];exact(List.getElem?_eq_some_iff.1 hp).1
     have h2:=(hes e (List.mem_of_mem_eraseIdx (List.mem_of_getElem? hp))).1;have h3:=(List.getElem?_eq_some_iff.1 hq).1;have h4:p*2+q < arr'.size:=by omega
     have hg:=hget (p*2+q) (by omega)
     rw[List.getElem?_eraseIdx] at hp;rw[hg];have key:∀p',es[p']? =some e→p' < n→VR G ((arr[p'*2+q]?).getD undef) x:=fun p' hp' hlt=>by
      have h5:p'*2+q < arr.size:=by omega
      rw[Array.getElem?_eq_getElem h5];obtain⟨y,y1,y2,y3⟩:=hcell (p'*2+q) _ (by omega) (Array.getElem?_eq_getElem h5)
      rw[fl2 p' e q hp' (by omega),hq] at y1
      cases y1;exact y2
     refine VR.mono q2.le ?_;split at hp
     ·rw[if_pos (by omega)];exact key p hp (by omega)
     ·rw[if_neg (by omega),show p*2+q+2=(p+1)*2+q by omega];exact key (p+1) hp (by omega))
   rw[hle] at this;exact this
  ·by_cases hb:b2=b
   ·subst hb;right;right;left;simp[Gh.freeze]
   ·have:(G.freeze b fun k=>if k < (n - 1)*2 then arr'[k]? else none).role b2=G.role b2:=by simp[Gh.freeze,hb]
    rw[this];rcases hrole b2 with h|h|h
    ·exact .inl h
    ·exact .inr (.inl h)
    ·exact .inr (.inr (.inl h))
open Go.Proofs
theorem Rl{w0:World}{S:St}{m:Mnt}{id t:Nat}{k:Int}(hS:S[id]? =some (.cells [.int .i64 k] t)){Q:AV→St→Prop}(hq:Q (.bool (decide ((m.num:Int)=k))) S):AC w0 Dk [.agg m.c,.ptr id 0] S Q:=by
 unfold Mnt.c;apply K4;unfold Gb;simp[Aa hS];simpa[BEq.beq] using hq
theorem Qw{w0:World}{S:St}{l:List Mnt}{r:Rt}{id t:Nat}{k:Int}(hS:S[id]? =some (.cells [.int .i64 k] t))(hl:l.length≤1000000){Q:AV→St→Prop}
  (h1:(∀m∈l,(m.num:Int)≠k)→Q (.int .i64 (-1)) S) (h2:∀i m,l[i]? =some m→(m.num:Int)=k→(∀m'∈l.take i,(m'.num:Int)≠k)→Q (.int .i64 i) S):
  AC w0 Bq [.vs 2 (l.map Mnt.c) r,.fn Dk [] [.ptr id 0]] S Q:=by
 apply EF;unfold CZ;simp[AH];refine Ak l (fun i (_:Unit)=>([.int .i64 i],[])) (fun i _ S'=>S'=S∧∀m'∈l.take i,(m'.num:Int)≠k) () rfl ⟨rfl,by simp⟩ ?_ ?_
 ·rintro i _ S' v b m c hxi hd hc hmem ⟨rfl,hno⟩ hv;simp at hv;simp[hv,hc,hxi];refine Rl hS ?_
  by_cases e:(m.num:Int)=k
  ·simp[e];exact h2 i m hxi e hno
  ·simp[e]
   try simp (disch:=omega) only[wrap64]
   refine .next c () rfl ⟨rfl,?_⟩;have htk:l.take (i+1)=l.take i++[m]:=by rw[List.take_succ,hxi];rfl
   rw[htk];intro m' hm';rcases List.mem_append.1 hm' with hm'|hm'
   ·exact hno m' hm'
   ·rw[List.mem_singleton] at hm';subst hm';exact e
 ·rintro _ S' v b ⟨rfl,hno⟩ hv N;simp at hv;rw[List.take_length] at hno;simp[hv];exact h1 hno
theorem UY{w0:World}{S:St}{s:Stk}{k:Int}(hs:s.ok){Q:AV→St→Prop}(h1:(∀m∈s.l,(m.num:Int)≠k)→∀S',Sx S S'→Q (.tup [.agg s.c,.int .i64 2]) S')
  (h2:∀i m,s.l[i]? =some m→(m.num:Int)=k→(∀m'∈s.l.take i,(m'.num:Int)≠k)→∀S',Sx S S'→Q (.tup [.agg (Stk.c ⟨s.l.eraseIdx i,.none,s.next⟩),.int .i64 0]) S'):
  AC w0 FS [.agg s.c,.int .i64 k] S Q:=by
 unfold Stk.c at*;apply MM;unfold H3;have hl:=hs.len;simp[dz];refine Qw (id:=S.length) (t:=Da) (k:=k) (by simp) (by omega) (fun hno=>?_) (fun i m hi hk hno=>?_)
 ·have:=h1 hno _ (Sx.app S [.cells [.int .i64 k] Da]);simp;simpa using this
 ·have hlt:=(List.getElem?_eq_some_iff.1 hi).1;simp[show ¬((i:Int) < 0) by omega]
  try simp (disch:=omega) only[wrap64]
  have hne:s.l.map Mnt.c≠[]:=by
   intro e;have:=congrArg List.length e;simp at this;rw[this] at hlt;simp at hlt
  refine cP hne (by simp;omega) ?_
  simp;have hdel:=@ax w0 (S++[.cells [.int .i64 k] Da]++[.cells (s.l.map Mnt.c).flatten 0]) (S.length+1) 0 (s.l.map Mnt.c) (by simp) (fun e he=>by
   obtain⟨m',_,rfl⟩:=List.mem_map.1 he;exact⟨rfl,by simp[Mnt.c,AV.cell1,AV.free1,AV.own]⟩) (by simp;omega) i (by simpa using hlt)
  simp at hdel;refine hdel ?_;have h3:=h2 i m hi hk hno ((S++[Obj.cells [.int .i64 k] Da,Obj.cells (s.l.map Mnt.c).flatten 0]).set (S.length+1) .dead) (fun j hj=>by
   rw[List.getElem?_set_ne (by omega),List.getElem?_append_left hj])
  have herase:(s.l.map Mnt.c).eraseIdx i=(s.l.eraseIdx i).map Mnt.c:=by simp[List.eraseIdx_eq_take_drop_succ,List.map_take,List.map_drop]
  rw[herase];simp;simpa using h3
open Go.Proofs
theorem V8(D:List Node)(ids:Nat→Int)(o:OpN)(w:AtN):(Nr D ids o w).names=[]:=by
 unfold Nr An
 repeat' split
 all_goals rfl
theorem fD(D:List Node)(ids:Nat→Int)(o:OpN):(doR D ids o).names=[]:=by
 unfold doR;split
 ·rfl
 ·split
  ·rfl
  ·split
   ·rfl
   ·exact V8 ..
open Go.Proofs
def DR(w:AtN):Int:=if w.err≠0 then w.err else match w.nodes with|y::_=>if y.kind=2 then 0 else 3|[]=>0
theorem Pr{w0:World}(hm:KD w0){S:St}{s:Stk}{D:List Node}{path:Str}(hL:Leads S s D)(hp:path.length≤1048576){Q:AV→St→Prop}
  (hq:∀S',Sx S S'→(DR (Bj D path true)≠0→Q (.tup [.str [],.vs 2 [] .nil,.int .i64 (DR (Bj D path true))]) S')∧
   (DR (Bj D path true)=0→(∃t,Ends s.tabs D (Bj D path true) t)→∀r:Rt,okR r (IN (Bj D path true).nodes)→Q (.tup [.str (pathOf (Bj D path true).names),.vs 2 ((IN (Bj D path true).nodes).map Ent.c) r,.int .i64 0]) S')):AC w0 Im [.agg s.c,.str path] S Q:=by
 have hc:s.c=[.vs 2 (s.l.map Mnt.c) s.r.strip,.int .i64 s.next]:=rfl;rw[hc];apply WC;unfold Qt;simp[←hc];refine SO hm hL hp (fun S2 hS2=>⟨fun he=>?_,fun he t r hE=>?_⟩)
 ·have e:DR (Bj D path true)=(Bj D path true).err:=by rw[DR,if_pos he]
  have h0:=(hq S2 hS2).1 (by rw[e];exact he)
  rw[e] at h0;simp[Fnd.c,Fnd.none,he];exact h0
 ·have e:DR (Bj D path true)=match (Bj D path true).nodes with|y::_=>if y.kind=2 then 0 else 3|[]=>0:=by rw[DR,if_neg (by rw[he];simp)]
  have hq1:=(hq S2 hS2).1;have hq3:=fun S3 (hS3:Sx S2 S3) h=>(hq S3 (hS2.trans hS3)).2 h ⟨t,hE⟩
  rw[e] at hq1 hq3;generalize Bj D path true=want at hq1 hq3 hE;have hf:=hE.facts;have hLn:=hL.mono hS2;cases hn:want.nodes with
  |nil=>
   rw[hn] at hf hq3;obtain⟨rfl,h2⟩:=hf;simp[Fnd.c];refine Qa (p:=[]) (dirs:=[]) hLn.ok hLn.on hLn.good trivial (by simp) (by simp) (fun S3 r3 hS3 hr3=>?_)
   have:=hq3 S3 hS3 rfl r3 hr3;simpa using this
  |cons y l=>
   rw[hn] at hf hq3 hq1;obtain⟨h1,h2,h3,h4,h5⟩:=hf
   by_cases k2:y.kind=2
   ·rw[if_pos k2] at h5;obtain⟨h51,h52,h53⟩:=h5;have hpl:t.dirs.length≤64:=by
     rw[h51.len];obtain⟨ds,hw,hh⟩:=hE.way (fun y' l' e'=>by rw[hn] at e';cases e';exact k2)
     obtain⟨d,_,_,hd⟩:=hw.last;have:=hd.few;rw[←hh,hn] at this;exact this
    simp[Fnd.c,h1,k2];refine Qa hLn.ok hLn.on hLn.good h51 (fun n hn=>?_) hpl (fun S3 r3 hS3 hr3=>?_)
    ·obtain⟨g1,g2,g3,g4⟩:=h53 n hn;refine⟨g1,g2,?_⟩;rw[HK g2];have:=(FK (l:=n.items)).1;rw[Node.count_eq] at g4;omega
    ·have:=hq3 S3 hS3 (by simp[k2]) r3 hr3
     simpa using this
   ·simp only[if_neg k2] at hq1;simp[Fnd.c,h1,k2];exact hq1 (by simp)
theorem Yo{w0:World}{S SL:St}{s:Stk}{D:List Node}{dr:Rt}{path:Str}(hL:Leads SL s D)(hD:Docs D)(hp:path.length≤1048576){Q:AV→St→Prop}
  (hq1:DR (Bj D path true)≠0→Q (.tup [.vs 1 [] .nil,.vs 2 [] .nil,.int .i64 (DR (Bj D path true))]) S)
  (hq2:DR (Bj D path true)=0→∀r r2:Rt,Q (.tup [.vs 1 ((Bj D path true).names.map BO) r.strip,.vs 2 ((IN (Bj D path true).nodes).map Ent.c) r2,.int .i64 0]) S):AC w0 GV [.vs 7 (D.map Node.c) dr,.str path] S Q:=by
 apply WE;unfold P8;refine P7 hD hp (fun r1 r2=>?_)
 have hex:=hL.ends (path:=path) (fl:=true);unfold DR at hq1 hq2;generalize Bj D path true=want at hq1 hq2 hex
 by_cases he:want.err≠0
 ·rw[if_pos he] at hq1;simp[he];exact hq1 he
 rw[if_neg he] at hq1 hq2;have he0:want.err=0:=by simpa using he
 obtain⟨t,hE⟩:=hex he0;have hf:=hE.facts;simp[he0];cases hn:want.nodes with
 |nil=>
  rw[hn] at hq1 hq2;simp[AH];refine RA (dirs:=[]) (by simp) (by simp) (fun r=>?_)
  simpa using hq2 rfl r1 r
 |cons y l=>
  rw[hn] at hq1 hq2 hf;obtain⟨f1,f2,f3,f4,f5⟩:=hf;have c0:y.c[0]? =some (.int .i64 y.kind):=by rw[Node.c_eq];rfl
  have cl:y.c.length=7:=by rw[Node.c_eq];rfl
  simp[c0,cl,AH]
  by_cases k2:y.kind=2
  ·rw[if_pos k2] at f5;obtain⟨h51,h52,h53⟩:=f5;have hpl:(y::l).length≤64:=by
    obtain⟨ds,hw,hh⟩:=hE.way (fun y' l' e'=>by rw[hn] at e';cases e';exact k2)
    obtain⟨d,_,_,hd⟩:=hw.last;have:=hd.few;rw[←hh,hn] at this;exact this
   simp[k2];refine RA (dirs:=y::l) hpl (fun n hn=>?_) (fun r=>?_)
   ·obtain⟨g1,g2,g3,g4⟩:=h53 n hn;refine⟨g1,g2,?_⟩;rw[HK g2];have:=(FK (l:=n.items)).1;rw[Node.count_eq] at g4;omega
   ·simpa using hq2 (by simp[k2]) r1 r
  ·simp only[if_neg k2] at hq1;simp[k2];exact hq1 (by simp)
open Go.Proofs
theorem K8{w:AtN}(h:DR w=0):w.err=0∧∀y l,w.nodes=y::l→y.kind=2:=by
 unfold DR at h
 by_cases he:w.err=0
 ·rw[if_neg (by simp[he])] at h
  refine⟨he,fun y l e=>?_⟩
  rw[e] at h;simp only at h
  by_cases k:y.kind=2
  ·exact k
  ·rw[if_neg k] at h;cases h
 ·rw[if_pos he] at h;exact absurd h he
theorem JY.listed{L:List (List Bm)}{D:List Node}{ds:List Drx}{names:List Str}(hw:JY L D ds names):(IN (DC D names)).length≤6400000:=by
 obtain⟨d,_,_,hd⟩:=hw.last;have:=fZ (DC D names) 100000 (fun n hn=>by
  obtain⟨q1,q2,q3,q4,q5⟩:=hd.good n hn;rw[HK q2];have:=(FK (l:=n.items)).1;rw[Node.count_eq] at q5;omega)
 have:=hd.few;omega
structure EW where
 id:Int
 epoch:Int
 names:List Str
 at_:Nat
structure SpN where
 D:List Node
 ids:List Int
 next:Nat
 epoch:Nat
 room:Nat
 opens:List EW
 made:Nat
def K5(D:List Node)(path:Str):List Ent:=if DR (Bj D path true)=0 then IN (Bj D path true).nodes else []
def Eb(l:List EW)(id:Int):Option Nat:=l.findIdx? fun c=>decide (c.id=id)
def E7(σ:SpN)(id:Int):(Nat×EW) ⊕ Int:=
 match Eb σ.opens id with
 |none=>.inr 9
 |some k=>match σ.opens[k]? with
  |none=>.inr 9
  |some c=>if c.epoch≠σ.epoch then .inr 8 else .inl (k,c)
def KV(σ:SpN)(id n:Int):SpN×A6:=
 match E7 σ id with
 | .inr e=>(σ,An e)
 | .inl (k,c)=>
  let l:=K5 σ.D (pathOf c.names)
  let p:=(l.drop c.at_).take n.toNat
  ({σ with opens:=σ.opens.set k {c with at_:=c.at_+p.length}},{names:=p.map Ent.name,end_:=decide (c.at_+p.length=l.length)})
def NR(σ:SpN)(names:List Str):SpN×A6:=
 if σ.room≤σ.opens.length then (σ,An 7)
 else ({σ with made:=σ.made+1,opens:=σ.opens++[⟨σ.made+1,σ.epoch,names,0⟩]},{id:=σ.made+1})
def RW(σ:SpN)(id:Int):SpN×A6:=
 match Eb σ.opens id with
 |none=>(σ,An 9)
 |some k=>({σ with opens:=σ.opens.eraseIdx k},{})
def DV(σ:SpN)(n:Node):SpN:={σ with D:=n::σ.D,ids:=(σ.next:Int)::σ.ids,next:=σ.next+1,epoch:=σ.epoch+1}
def Vz(σ:SpN)(n:Node):SpN×A6:=
 if 64≤σ.D.length then (σ,An 6) else (DV σ n,{id:=σ.next})
def J0(σ:SpN)(id:Int):SpN×A6:=
 match σ.ids.findIdx? (fun i=>decide (i=id)) with
 |none=>(σ,An 2)
 |some k=>({σ with D:=σ.D.eraseIdx k,ids:=σ.ids.eraseIdx k,epoch:=σ.epoch+1},{})
def SpN.idf(σ:SpN)(k:Nat):Int:=(σ.ids[k]?).getD 0
def doS(σ:SpN)(o:OpN):SpN×A6:=
 if o.kind=5 then
  if DR (Bj σ.D o.path true)≠0 then (σ,An (DR (Bj σ.D o.path true)))
  else NR σ (Bj σ.D o.path true).names
 else if o.kind=6 then (if o.n < 1 then (σ,An 1) else KV σ o.id o.n)
 else if o.kind=7 then RW σ o.id
 else if o.kind=8 then
  match IE o.image with
  |none=>(σ,An 1)
  |some n=>Vz σ n
 else if o.kind=9 then J0 σ o.id
 else (σ,doR σ.D σ.idf o)
def FW(room:Int):Nat:=if room < 1 then 1 else if 1024 < room then 1024 else room.toNat
def Kz(trees:List Node)(room:Int):SpN:={trees.foldl DV ⟨[],[],0,0,FW room,[],0⟩ with epoch:=0}
structure SpN.ok(σ:SpN)(k:Nat):Prop where
 trees:∀n∈σ.D,n.ok∧Bi n=true
 few:σ.D.length≤64
 ids:σ.ids.length=σ.D.length
 next:σ.next≤64+k∧∀i∈σ.ids,∃j:Nat,i=(j:Int)∧j < σ.next
 epoch:σ.epoch≤k
 room:1≤σ.room∧σ.room≤1024
 opens:σ.opens.length≤σ.room
 made:σ.made≤k∧∀c∈σ.opens,∃j:Nat,c.id=(j:Int)∧1≤j∧j≤σ.made
 nodup:(σ.opens.map (·.id)).Nodup
 cur:∀c∈σ.opens,c.epoch≤σ.epoch∧c.names.length≤15∧(∀s∈c.names,DQ s=true)∧(c.epoch=σ.epoch→c.at_≤(K5 σ.D (pathOf c.names)).length)∧c.at_≤10000000
theorem LL{l:List EW}{id:Int}{k:Nat}(h:Eb l id=some k):∃c,l[k]? =some c∧c.id=id:=by
 obtain⟨h1,h2,h3⟩:=List.findIdx?_eq_some_iff_getElem.1 h;exact⟨l[k],by simp[h1],by simpa using h2⟩
theorem PB{σ:SpN}{id:Int}{k:Nat}{c:EW}(h:E7 σ id= .inl (k,c)):σ.opens[k]? =some c∧c.id=id∧c.epoch=σ.epoch:=by
 unfold E7 at h;cases hf:Eb σ.opens id with
 |none=>rw[hf] at h;cases h
 |some j=>
  rw[hf] at h;obtain⟨c',h1,h2⟩:=LL hf;simp only[h1] at h;split at h
  ·cases h
  ·rename_i he;cases h;exact⟨h1,h2,by simpa using he⟩
structure Fine(D:List Node):Prop where
 list:∀path,(K5 D path).length≤6400000
 names:∀path,(Bj D path true).err=0→(Bj D path true).names.length≤15∧∀s∈(Bj D path true).names,DQ s=true
theorem lG{α β:Type}(f:α→β){l:List α}{k:Nat}{x y:α}(h:l[k]? =some x)(e:f y=f x):(l.set k y).map f=l.map f:=by
 rw[List.map_set,e];refine List.ext_getElem? fun i=>?_
 rw[List.getElem?_set];split
 ·rename_i hi;subst hi;have hk:=(List.getElem?_eq_some_iff.1 h).1;rw[List.length_map,if_pos hk,List.getElem?_map,h];rfl
 ·rfl
theorem Iq{α β:Type}(f:α→β)(l:List α)(k:Nat):(l.eraseIdx k).map f=(l.map f).eraseIdx k:=by
 simp[List.eraseIdx_eq_take_drop_succ,List.map_take,List.map_drop]
theorem SpN.ok.keep{σ:SpN}{k:Nat}(h:σ.ok k):σ.ok (k+1):=
 ⟨h.trees,h.few,h.ids,⟨by have:=h.next.1;omega,h.next.2⟩,by have:=h.epoch;omega,h.room,h.opens,⟨by have:=h.made.1;omega,h.made.2⟩,h.nodup,h.cur⟩
theorem SpN.ok.page{σ:SpN}{k:Nat}(h:σ.ok k)(hf:Fine σ.D)(id n:Int):(KV σ id n).1.ok (k+1):=by
 unfold KV;cases hs:E7 σ id with
 |inr e=>exact h.keep
 |inl p=>
  obtain⟨j,c⟩:=p;obtain⟨h1,h2,h3⟩:=PB hs;have hmem:=List.mem_of_getElem? h1;obtain⟨c1,c2,c3,c4,c5⟩:=h.cur c hmem;have hl:=hf.list (pathOf c.names);have hp:(((K5 σ.D (pathOf c.names)).drop c.at_).take n.toNat).length≤(K5 σ.D (pathOf c.names)).length - c.at_:=by
   rw[List.length_take,List.length_drop];exact Nat.min_le_right _ _
  have hc4:=c4 h3;simp only;have hk:=h.keep;refine⟨hk.trees,hk.few,hk.ids,hk.next,hk.epoch,hk.room,by simpa using hk.opens,⟨hk.made.1,fun x hx=>?_⟩,?_,fun x hx=>?_⟩
  ·rcases List.mem_or_eq_of_mem_set hx with hx|rfl
   ·exact hk.made.2 x hx
   ·exact hk.made.2 c hmem
  ·simp only;rw[lG (·.id) h1 (by rfl)]
   exact hk.nodup
  ·rcases List.mem_or_eq_of_mem_set hx with hx|rfl
   ·exact hk.cur x hx
   ·exact⟨c1,c2,c3,fun _=>by simp only;omega,by simp only;omega⟩
theorem SpN.ok.begin{σ:SpN}{k:Nat}(h:σ.ok k){names:List Str}(h1:names.length≤15)(h2:∀s∈names,DQ s=true):(NR σ names).1.ok (k+1):=by
 unfold NR;split
 ·exact h.keep
 ·rename_i hr;have hk:=h.keep;have hm:=h.made.1;refine⟨hk.trees,hk.few,hk.ids,hk.next,hk.epoch,hk.room,by simp;omega,⟨by simp;omega,fun x hx=>?_⟩,?_,fun x hx=>?_⟩
  ·rcases List.mem_append.1 hx with hx|hx
   ·obtain⟨j,e,j1,j2⟩:=h.made.2 x hx;exact⟨j,e,j1,by simp only;omega⟩
   ·rw[List.mem_singleton] at hx;subst hx;exact⟨σ.made+1,by simp,by omega,Nat.le_refl _⟩
  ·simp only[List.map_append,List.map_cons,List.map_nil];rw[List.nodup_append];refine⟨h.nodup,by simp,?_⟩
   intro a ha b hb;simp at hb;subst hb;obtain⟨x,hx,rfl⟩:=List.mem_map.1 ha;obtain⟨j,e,j1,j2⟩:=h.made.2 x hx;rw[e];omega
  ·rcases List.mem_append.1 hx with hx|hx
   ·exact h.cur x hx
   ·rw[List.mem_singleton] at hx;subst hx;exact⟨Int.le_refl _,h1,h2,fun _=>Nat.zero_le _,Nat.zero_le _⟩
theorem SpN.ok.close{σ:SpN}{k:Nat}(h:σ.ok k)(id:Int):(RW σ id).1.ok (k+1):=by
 unfold RW;cases Eb σ.opens id with
 |none=>exact h.keep
 |some j=>
  have hk:=h.keep;simp only;refine⟨hk.trees,hk.few,hk.ids,hk.next,hk.epoch,hk.room,Nat.le_trans (by simp only[List.length_eraseIdx];split<;>omega) hk.opens,⟨hk.made.1,fun x hx=>hk.made.2 x (List.mem_of_mem_eraseIdx hx)⟩,?_,fun x hx=>hk.cur x (List.mem_of_mem_eraseIdx hx)⟩
  simp only;have:(σ.opens.eraseIdx j).map (·.id)=(σ.opens.map (·.id)).eraseIdx j:=Iq _ _ _;rw[this];exact List.Nodup.sublist (List.eraseIdx_sublist _ _) hk.nodup
theorem SpN.ok.add{σ:SpN}{k:Nat}(h:σ.ok k){n:Node}(hn:n.ok)(hr:Bi n=true):(Vz σ n).1.ok (k+1):=by
 unfold Vz;split
 ·exact h.keep
 ·rename_i hd;have hnx:=h.next.1;have hep:=h.epoch;unfold DV;refine⟨fun x hx=>?_,by simp;omega,by simp[h.ids],⟨by simp;omega,fun i hi=>?_⟩,by simp;omega,h.room,h.opens,⟨by have:=h.made.1;simp only;omega,h.made.2⟩,h.nodup,fun c hc=>?_⟩
  ·rcases List.mem_cons.1 hx with rfl|hx
   ·exact⟨hn,hr⟩
   ·exact h.trees x hx
  ·simp only[List.mem_cons] at hi;rcases hi with rfl|hi
   ·exact⟨σ.next,rfl,by simp⟩
   ·obtain⟨j,e,hj⟩:=h.next.2 i hi;exact⟨j,e,by simp only;omega⟩
  ·obtain⟨c1,c2,c3,c4,c5⟩:=h.cur c hc;exact⟨by simp only;omega,c2,c3,fun e=>by simp only at e;omega,c5⟩
theorem SpN.ok.remove{σ:SpN}{k:Nat}(h:σ.ok k)(id:Int):(J0 σ id).1.ok (k+1):=by
 unfold J0;cases hf:σ.ids.findIdx? (fun i=>decide (i=id)) with
 |none=>exact h.keep
 |some j=>
  obtain⟨hj,_⟩:=List.findIdx?_eq_some_iff_getElem.1 hf;have hd:=h.few;have hi:=h.ids;have hep:=h.epoch;simp only;refine⟨fun x hx=>h.trees x (List.mem_of_mem_eraseIdx hx),Nat.le_trans (by simp only[List.length_eraseIdx];split<;>omega) hd,by simp only[List.length_eraseIdx,hi],⟨by have:=h.next.1;simp only;omega,fun i hi=>h.next.2 i (List.mem_of_mem_eraseIdx hi)⟩,by simp only;omega,h.room,h.opens,⟨by have:=h.made.1;simp only;omega,h.made.2⟩,h.nodup,fun c hc=>?_⟩
  obtain⟨c1,c2,c3,c4,c5⟩:=h.cur c hc;exact⟨by simp only;omega,c2,c3,fun e=>by simp only at e;omega,c5⟩
theorem jO{σ:SpN}{k:Nat}(h:σ.ok k)(hf:Fine σ.D){o:OpN}(hi:o.image.length≤1048575):(doS σ o).1.ok (k+1):=by
 unfold doS;split
 ·split
  ·exact h.keep
  ·rename_i he;simp only[ne_eq,Classical.not_not] at he;obtain⟨h1,h2⟩:=hf.names o.path (K8 he).1;exact h.begin h1 h2
 ·split
  ·split
   ·exact h.keep
   ·exact h.page hf _ _
  ·split
   ·exact h.close _
   ·split
    ·cases hd:IE o.image with
     |none=>exact h.keep
     |some n=>exact h.add (eD hi hd) (Ru hd).2.1
    ·split
     ·exact h.remove _
     ·exact h.keep
theorem XU:∀(trees:List Node) (σ:SpN),(trees.foldl DV σ).D=trees.reverse++σ.D∧(trees.foldl DV σ).ids=((List.range trees.length).map fun i:Nat=>((σ.next+i:Nat):Int)).reverse++σ.ids∧(trees.foldl DV σ).next=σ.next+trees.length∧(trees.foldl DV σ).room=σ.room∧(trees.foldl DV σ).opens=σ.opens∧(trees.foldl DV σ).made=σ.made
 |[],σ=>by simp
 |n::l,σ=>by
  obtain⟨h1,h2,h3,h4,h5,h6⟩:=XU l (DV σ n);rw[List.foldl_cons];refine⟨by rw[h1];simp[DV],?_,by rw[h3];simp[DV];omega,h4,h5,h6⟩
  rw[h2];simp only[DV,List.length_cons,List.range_succ_eq_map,List.map_cons,List.map_map,List.reverse_cons,List.append_assoc];congr 1;congr 1;refine List.map_congr_left fun i _=>?_
  simp;omega
theorem Ee(trees:List Node)(room:Int):Kz trees room=⟨trees.reverse,((List.range trees.length).map fun i:Nat=>(i:Int)).reverse,trees.length,0,FW room,[],0⟩:=by
 obtain⟨h1,h2,h3,h4,h5,h6⟩:=XU trees ⟨[],[],0,0,FW room,[],0⟩;unfold Kz;generalize trees.foldl DV ⟨[],[],0,0,FW room,[],0⟩=t at*;obtain⟨a,b,c,d,e,f,g⟩:=t;simp only at*;subst h1 h2 h3 h4 h5 h6;simp
theorem aA(room:Int):1≤FW room∧FW room≤1024:=by
 unfold FW;split
 ·omega
 ·split<;>omega
theorem eP{trees:List Node}(room:Int)(h:∀n∈trees,n.ok∧Bi n=true)(hl:trees.length≤64):(Kz trees room).ok 0:=by
 rw[Ee];refine⟨fun n hn=>h n (by simpa using hn),by simpa using hl,by simp,⟨by simp;omega,fun i hi=>?_⟩,Nat.le_refl _,aA room,by simp,⟨Nat.le_refl _,by simp⟩,by simp,by simp⟩
 simp at hi;obtain⟨a,ha,rfl⟩:=hi;exact⟨a,rfl,ha⟩
open Go.Proofs
def Cg(ids:List Nat)(S S':St):Prop:=S.length≤S'.length∧∀j,j < S.length→j ∉ ids→S'[j]? =S[j]?
theorem Cg.refl(ids:List Nat)(S:St):Cg ids S S:=⟨Nat.le_refl _,fun _ _ _=>rfl⟩
theorem Cg.trans{ids:List Nat}{A B D:St}(h:Cg ids A B)(k:Cg ids B D):Cg ids A D:=⟨Nat.le_trans h.1 k.1,fun j hj hn=>(k.2 j (Nat.lt_of_lt_of_le hj h.1) hn).trans (h.2 j hj hn)⟩
theorem Sx.chg{S S':St}(h:Sx S S')(ids:List Nat):Cg ids S S':=⟨h.le,fun j hj _=>h j hj⟩
theorem Cg.get{ids:List Nat}{S S':St}(h:Cg ids S S'){j:Nat}{o:Obj}(e:S[j]? =some o)(hn:j ∉ ids):S'[j]? =some o:=(h.2 j (List.getElem?_eq_some_iff.1 e).1 hn).trans e
theorem Cg.set{ids:List Nat}{S:St}{i:Nat}{o:Obj}(h:i∈ids):Cg ids S (S.set i o):=⟨by simp,fun j _ hn=>by rw[List.getElem?_set_ne];rintro rfl;exact hn h⟩
theorem Cg.sub{ids ids':List Nat}{S S':St}(h:Cg ids S S')(k:∀i∈ids,i∈ids'):Cg ids' S S':=⟨h.1,fun j hj hn=>h.2 j hj fun hi=>hn (k j hi)⟩
def EW.v(c:EW):List AV:=[.int .i64 c.epoch,.str (pathOf c.names),.int .i64 c.at_]
def EW.e(c:EW):AV×AV:=(.int .i64 c.id,.agg c.v)
structure TabAt(S:St)(t m:Nat)(room made:Nat)(l:List EW):Prop where
 tab:S[t]? =some (.cells [.int .i64 room,.int .i64 made,.map (some m)] DH)
 map:S[m]? =some (.map (l.map EW.e))
theorem TabAt.ne{S:St}{t m room made:Nat}{l:List EW}(h:TabAt S t m room made l):t≠m:=fun e=>by
 have h1:=h.tab;rw[e,h.map] at h1;cases h1
theorem TabAt.chg{S S':St}{t m room made:Nat}{l:List EW}{ids:List Nat}(h:TabAt S t m room made l)(k:Cg ids S S')(h1:t ∉ ids)(h2:m ∉ ids):TabAt S' t m room made l:=⟨k.get h.tab h1,k.get h.map h2⟩
theorem TabAt.sx{S S':St}{t m room made:Nat}{l:List EW}(h:TabAt S t m room made l)(k:Sx S S'):TabAt S' t m room made l:=h.chg (k.chg []) (by simp) (by simp)
theorem Kh(id:Int):∀(l:List EW) (j:Nat),FB (.int .i64 id) (l.map EW.e) j=some ((Eb l id).bind fun k=>(l[k]?).map fun c=>(j+k,.agg c.v))
 |[],j=>rfl
 |c::l,j=>by
  have ih:=Kh id l (j+1);have hf:Eb (c::l) id=if c.id=id then some 0 else (Eb l id).map (·+1):=by
   unfold Eb;rw[List.findIdx?_cons]
   by_cases e:c.id=id<;>simp[e]
  rw[hf]
  by_cases e:c.id=id
  ·simp[FB,Mx,E0,EW.e,e]
  ·have e':(id==c.id)=false:=by simpa using fun h=>e h.symm
   rw[List.map_cons,EW.e,FB];simp only[Mx,E0,if_true,e',if_neg e];rw[ih];cases Eb l id with
   |none=>rfl
   |some k=>simp;congr 1;funext x;congr 1;omega
theorem Yj{w0:World}{S:St}{room:Int}{Q:AV→St→Prop}(hq:∀S',Sx S S'→∀t m,S.length≤t→S.length≤m→TabAt S' t m (FW room) 0 []→Q (.ptr t 0) S'):AC w0 Lb [.int .i64 room] S Q:=by
 apply Wx;unfold QY;have e:(if 1024 < (if 1 > room then 1 else room) then (1024:Int) else (if 1 > room then 1 else room))=((FW room:Nat):Int):=by
  unfold FW
  by_cases h1:room < 1
  ·rw[if_pos (show (1:Int) > room from h1),if_pos h1];rfl
  ·rw[if_neg (show ¬(1:Int) > room from h1),if_neg h1]
   split
   ·rfl
   ·omega
 rw[e];simp;refine hq _ ?_ (S.length+1) S.length (by omega) (Nat.le_refl _) ⟨by simp,by simp⟩
 exact Sx.app S _
theorem LV{w0:World}{S:St}{t m room made:Nat}{l:List EW}{id:Int}(h:TabAt S t m room made l){Q:AV→St→Prop}
  (h1:Eb l id=none→Q (.tup [.agg [.int .i64 0,.str [],.int .i64 0],.int .i64 9]) S) (h2:∀k c,Eb l id=some k→l[k]? =some c→Q (.tup [.agg c.v,.int .i64 0]) S):AC w0 Dv [.ptr t 0,.int .i64 id] S Q:=by
 apply Nv;unfold JU;have hf:=Kh id l 0;cases hc:Eb l id with
 |none=>
  rw[hc] at hf;have:=h1 hc;simp[Aa h.tab,Jg,Ks,G8,h.map,hf,Jo];exact this
 |some k=>
  obtain⟨c,hk,_⟩:=LL hc;rw[hc] at hf;simp[hk] at hf;have:=h2 k c hc hk;simp[Aa h.tab,Jg,Ks,G8,h.map,hf,EW.v];simpa[EW.v] using this
theorem WP{w0:World}{S:St}{t m room made:Nat}{l:List EW}{epoch:Int}{names:List Str}(h:TabAt S t m room made l)(hm:made≤1000000000)(hfresh:∀c∈l,c.id≤made){Q:AV→St→Prop}
  (h1:room≤l.length→Q (.tup [.int .i64 0,.int .i64 7]) S) (h2:l.length < room→∀S',Cg [t,m] S S'→TabAt S' t m room (made+1) (l++[⟨made+1,epoch,names,0⟩])→Q (.tup [.int .i64 ((made:Int)+1),.int .i64 0]) S'):
  AC w0 Fp [.ptr t 0,.int .i64 epoch,.str (pathOf names)] S Q:=by
 apply Mb;unfold IL;have hne:=h.ne;have htl:=(List.getElem?_eq_some_iff.1 h.tab).1;have hml:=(List.getElem?_eq_some_iff.1 h.map).1
 by_cases c:room≤l.length
 ·have:=h1 c;simp[Aa h.tab,Ng,G8,h.map,show (room:Int)≤l.length by omega]
  exact this
 ·have hfc:Eb l ((made:Int)+1)=none:=by
   unfold Eb;rw[List.findIdx?_eq_none_iff];intro x hx;have:=hfresh x hx;simp;omega
  have hf:=Kh ((made:Int)+1) l 0;rw[hfc] at hf;simp at hf;have hs1:(S.set t (.cells [.int .i64 room,.int .i64 ((made:Int)+1),.map (some m)] DH))[t]? =some (.cells [.int .i64 room,.int .i64 ((made:Int)+1),.map (some m)] DH):=by simp[htl]
  have hs2:(S.set t (.cells [.int .i64 room,.int .i64 ((made:Int)+1),.map (some m)] DH))[m]? =some (.map (l.map EW.e)):=by rw[List.getElem?_set_ne hne];exact h.map
  simp[Aa h.tab,Ng,G8,h.map,show ¬(room:Int)≤l.length by omega,Am h.tab]
  try simp (disch:=omega) only[wrap64]
  generalize hS1:S.set t (.cells [.int .i64 room,.int .i64 ((made:Int)+1),.map (some m)] DH)=S1 at hs1 hs2;have hm2:=VX (g:=.int) (key:=.int .i64 ((made:Int)+1)) (x:=.agg [.int .i64 epoch,.str (pathOf names),.int .i64 0]) hs2 rfl rfl hf;have hs3:(S1.set m (.map (l.map EW.e++[(.int .i64 ((made:Int)+1),.agg [.int .i64 epoch,.str (pathOf names),.int .i64 0])])))[t]? =some (.cells [.int .i64 room,.int .i64 ((made:Int)+1),.map (some m)] DH):=by rw[List.getElem?_set_ne hne.symm];exact hs1
  simp[Aa hs1,hm2,Aa hs3];refine h2 (by omega) _ ?_ ⟨hs3,?_⟩
  ·subst hS1;exact(Cg.set (by simp)).trans (Cg.set (by simp))
  ·have:m < S1.length:=by subst hS1;simpa using hml
   simp[this,EW.e,EW.v]
theorem V3{w0:World}{S:St}{t m room made:Nat}{l:List EW}{id:Int}{k n:Nat}{c:EW}(h:TabAt S t m room made l)(hf:Eb l id=some k)(hk:l[k]? =some c)(hn:c.at_+n≤1000000000){Q:AV→St→Prop}
  (hq:∀S',Cg [t,m] S S'→TabAt S' t m room made (l.set k {c with at_:=c.at_+n})→Q (.int .i64 0) S'):AC w0 Fq [.ptr t 0,.int .i64 id,.int .i64 n] S Q:=by
 apply NS;unfold IJ;have hne:=h.ne;have hml:=(List.getElem?_eq_some_iff.1 h.map).1;refine LV h (fun hno=>by rw[hf] at hno;cases hno) (fun k' c' hf' hk'=>?_)
 rw[hf] at hf';cases hf';rw[hk] at hk';cases hk';have hfa:=Kh id l 0;rw[hf] at hfa;simp[hk] at hfa;have hm2:=Un (g:=.int) (key:=.int .i64 id) (x:=.agg [.int .i64 c.epoch,.str (pathOf c.names),.int .i64 ((c.at_:Int)+n)]) h.map rfl rfl hfa;simp[EW.v,Aa h.tab]
 try simp (disch:=omega) only[wrap64]
 simp[hm2];refine hq _ (Cg.set (by simp)) ⟨by rw[List.getElem?_set_ne hne.symm];exact h.tab,?_⟩
 simp only[List.getElem?_set_self hml];congr 2;refine List.ext_getElem? fun i=>?_
 rw[List.getElem?_modify,List.map_set,List.getElem?_set]
 by_cases hi:k=i
 ·subst hi;have hkl:=(List.getElem?_eq_some_iff.1 hk).1;have hke:=(List.getElem?_eq_some_iff.1 hk).2;simp[hk,hkl,EW.e,EW.v,hke]
 ·simp[hi]
theorem VG{w0:World}{S:St}{t m room made:Nat}{l:List EW}{id:Int}(h:TabAt S t m room made l){Q:AV→St→Prop}
  (h1:Eb l id=none→Q (.int .i64 9) S) (h2:∀k,Eb l id=some k→∀S',Cg [t,m] S S'→TabAt S' t m room made (l.eraseIdx k)→Q (.int .i64 0) S'):AC w0 Fb [.ptr t 0,.int .i64 id] S Q:=by
 apply MQ;unfold Hu;have hne:=h.ne;have hml:=(List.getElem?_eq_some_iff.1 h.map).1;refine LV h (fun hno=>?_) (fun k c hf hk=>?_)
 ·have:=h1 hno;simp;exact this
 ·have hfa:=Kh id l 0;rw[hf] at hfa;simp[hk] at hfa;have hd:=X7 (g:=.int) (key:=.int .i64 id) h.map rfl hfa;simp[EW.v,Aa h.tab,hd];refine h2 k hf _ (Cg.set (by simp)) ⟨by rw[List.getElem?_set_ne hne.symm];exact h.tab,?_⟩
  simp only[List.getElem?_set_self hml];rw[Iq]
open Go.Proofs
def ed:Obj→Prop
 | .cells cs tg=>tg≠B4∧¬∃T:List Ino,cs=BN Ino.c T
 |_=>True
theorem Br.chg{S S':St}{ids:List Nat}{id:Nat}{P:List Bm}(h:Br S id P)(k:Cg ids S S')(hx:∀j∈ids,∀o,S[j]? =some o→ed o):Br S' id P:=by
 obtain⟨t,T,h1,h2,h3,h4⟩:=h;refine⟨t,T,h1,k.get h2 (fun hi=>?_),k.get h3 (fun hi=>?_),h4⟩
 ·exact(hx _ hi _ h2).1 rfl
 ·exact(hx _ hi _ h3).2 ⟨T,rfl⟩
theorem Rx{cs:List AV}{tg:Nat}(h:tg≠B4)(hl:cs.length % 8≠0):ed (.cells cs tg):=by
 refine⟨h,?_⟩;rintro⟨T,rfl⟩;rw[GK (fun x=>x.c_len)] at hl
 omega
structure H7(S:St)(s:Stk)(σ:SpN):Prop where
 ok:s.ok
 on:s.on S
 tabs:s.tabs=σ.D.map fun n=>n.tab 0
 nums:(s.l.map fun x=>(x.num:Int))=σ.ids
 next:s.next=σ.next
theorem H7.len{S:St}{s:Stk}{σ:SpN}(h:H7 S s σ):s.l.length=σ.D.length:=by
 have:=congrArg List.length h.tabs;simpa[Stk.tabs] using this
theorem H7.sx{S S':St}{s:Stk}{σ:SpN}(h:H7 S s σ)(k:Sx S S'):H7 S' s σ:=⟨h.ok,h.on.mono k,h.tabs,h.nums,h.next⟩
theorem H7.chg{S S':St}{s:Stk}{σ:SpN}{ids:List Nat}(h:H7 S s σ)(k:Cg ids S S')(hx:∀j∈ids,∀o,S[j]? =some o→ed o):H7 S' s σ:=⟨h.ok,fun m hm=>(h.on m hm).chg k hx,h.tabs,h.nums,h.next⟩
theorem H7.same{S:St}{s:Stk}{σ τ:SpN}(h:H7 S s σ)(h1:τ.D=σ.D)(h2:τ.ids=σ.ids)(h3:τ.next=σ.next):H7 S s τ:=⟨h.ok,h.on,by rw[h1];exact h.tabs,by rw[h2];exact h.nums,by rw[h3];exact h.next⟩
theorem fV{S:St}{s:Stk}{D:List Node}(hok:s.ok)(hon:s.on S)(ht:s.tabs=D.map fun n=>n.tab 0)(hD:∀n∈D,n.ok∧Bi n=true)(hl:D.length≤64):Leads S s D:=by
 have hroot:=Zn D s.tabs 0 (by rw[ht];rfl)
 rw[←ht] at hroot;have hd:(De D).length≤64:=by
  have:=hroot.len;have h2:=Xh s.tabs 0;have h3:s.tabs.length=D.length:=by rw[ht];simp
  omega
 refine⟨hok,hon,fun P hP i=>?_,hroot,fun n hn=>?_,hd⟩
 ·rw[ht] at hP;obtain⟨n,hn,rfl⟩:=List.mem_map.1 hP;exact cJ (hD n hn).1 (hD n hn).2 i
 ·have hn2:=Km hn;obtain⟨q1,q2,q3,q4⟩:=FQ (hD n hn2).2;exact⟨(hD n hn2).1,q2,q1,q4,by omega⟩
theorem H7.leads{S:St}{s:Stk}{σ:SpN}{k:Nat}(h:H7 S s σ)(hok:σ.ok k):Leads S s σ.D:=fV h.ok h.on h.tabs hok.trees hok.few
theorem H7.stkD{S:St}{s:Stk}{σ:SpN}{k:Nat}(h:H7 S s σ)(hok:σ.ok k):fc S s σ.D σ.idf:=
 ⟨h.leads hok,h.tabs,fun j m hm=>by
  unfold SpN.idf;rw[←h.nums,List.getElem?_map,hm];rfl⟩
theorem Leads.fine{S:St}{s:Stk}{D:List Node}(hL:Leads S s D):Fine D:=by
 refine⟨fun path=>?_,fun path he=>?_⟩
 ·unfold K5;split
  ·rename_i he;obtain⟨t,hE⟩:=hL.ends (path:=path) (fl:=true) (K8 he).1;obtain⟨ds,hw,hh⟩:=hE.way (K8 he).2;rw[hh];exact hw.listed
  ·simp
 ·obtain⟨t,hE⟩:=hL.ends (path:=path) (fl:=true) he;exact hE.short
structure G9(S:St)(p t m:Nat)(σ:SpN)(s:Stk):Prop where
 obj:S[p]? =some (.cells [.vs 2 (s.l.map Mnt.c) s.r.strip,.int .i64 s.next,.int .i64 σ.epoch,.ptr t 0] GR)
 tab:TabAt S t m σ.room σ.made σ.opens
 stk:H7 S s σ
theorem G9.pt{S:St}{p t m:Nat}{σ:SpN}{s:Stk}(h:G9 S p t m σ s):p≠t∧p≠m∧t≠m:=by
 refine⟨fun e=>?_,fun e=>?_,h.tab.ne⟩
 ·have:=h.obj;rw[e,h.tab.tab] at this;simp at this
 ·have:=h.obj;rw[e,h.tab.map] at this;simp at this
theorem G9.notBr{S:St}{p t m:Nat}{σ:SpN}{s:Stk}(h:G9 S p t m σ s):∀j∈[p,t,m],∀o,S[j]? =some o→ed o:=by
 intro j hj o ho;simp at hj;rcases hj with rfl|rfl|rfl
 ·rw[h.obj] at ho;cases ho;exact Rx (by decide) (by simp)
 ·rw[h.tab.tab] at ho;cases ho;exact Rx (by decide) (by simp)
 ·rw[h.tab.map] at ho;cases ho;trivial
theorem G9.sx{S S':St}{p t m:Nat}{σ:SpN}{s:Stk}(h:G9 S p t m σ s)(k:Sx S S'):G9 S' p t m σ s:=⟨k.get h.obj,h.tab.sx k,h.stk.sx k⟩
theorem cY{w0:World}{S:St}{s:Stk}{σ:SpN}{room:Int}(h:H7 S s σ)(h0:σ.epoch=0)(h1:σ.opens=[])(h2:σ.made=0)(h3:σ.room=FW room){Q:AV→St→Prop}
  (hq:∀S',Sx S S'→∀p t m,S.length≤p→S.length≤t→S.length≤m→G9 S' p t m σ s→Q (.ptr p 0) S'):AC w0 O4 [.agg s.c,.int .i64 room] S Q:=by
 have hc:s.c=[.vs 2 (s.l.map Mnt.c) s.r.strip,.int .i64 s.next]:=rfl;rw[hc];apply aL;unfold Tu;simp;refine Yj (fun S1 hS1 t m ht hm hT=>?_)
 simp;have hsx:Sx S1 (S1++[Obj.cells [.vs 2 (s.l.map Mnt.c) s.r.strip,.int .i64 s.next,.int .i64 0,.ptr t 0] GR]):=Sx.app S1 _;refine hq _ (hS1.trans hsx) S1.length t m hS1.le ht hm ⟨by simp[h0],?_,(h.sx hS1).sx hsx⟩
 rw[h1,h2,h3];exact hT.sx hsx
theorem Hj{w0:World}{S:St}{p t m:Nat}{σ τ:SpN}{s s2:Stk}{id e:Int}(h:G9 S p t m σ s)(hep:σ.epoch≤1000000000){Q:AV→St→Prop}
  (h1:e≠0→Q (.agg ((An e).c .nil)) S) (h2:e=0→H7 S s2 τ∧τ.epoch=σ.epoch+1∧τ.room=σ.room∧τ.made=σ.made∧τ.opens=σ.opens∧∀S',Cg [p] S S'→G9 S' p t m τ s2→Q (.agg (A6.c {id:=id} .nil)) S'):
  AC w0 Dc [.ptr p 0,.agg s2.c,.int .i64 id,.int .i64 e] S Q:=by
 have hc:s2.c=[.vs 2 (s2.l.map Mnt.c) s2.r.strip,.int .i64 s2.next]:=rfl;rw[hc];apply NV;unfold IQ
 by_cases he:e=0
 ·obtain⟨k1,k2,k3,k4,k5,k6⟩:=h2 he;have hpl:=(List.getElem?_eq_some_iff.1 h.obj).1;obtain⟨n1,n2,n3⟩:=h.pt;have hchg:∀o,Cg [p] S (S.set p o):=fun o=>Cg.set (by simp)
  have hS1:∀o,(S.set p o)[p]? =some o:=fun o=>by simp[hpl]
  simp[he,Aa h.obj,Am h.obj]
  try simp (disch:=omega) only[wrap64]
  simp[Am (hS1 _)];have hcg:=hchg (.cells [.vs 2 (s2.l.map Mnt.c) s2.r.strip,.int .i64 s2.next,.int .i64 ((σ.epoch:Int)+1),.ptr t 0] GR);have:=k6 _ hcg ⟨by simp[hpl,k2],by rw[k3,k4,k5];exact h.tab.chg hcg (by simp[n1.symm]) (by simp[n2.symm]),k1.chg hcg (fun j hj o ho=>by
   simp at hj;subst hj;rw[h.obj] at ho;cases ho;exact Rx (by decide) (by simp))⟩
  simpa[A6.c] using this
 ·have:=h1 he;have hb:(e != 0)=true:=by simpa using he
  simp[hb];simpa[A6.c,An] using this
open Go.Proofs
theorem Cg.more{S S':St}{p t m:Nat}(h:Cg [p] S S'):Cg [p,t,m] S S':=h.sub (by simp)
theorem Cg.moreT{S S':St}{p t m:Nat}(h:Cg [t,m] S S'):Cg [p,t,m] S S':=h.sub (by simp)
theorem MU{S:St}{p t m:Nat}{σ:SpN}{s:Stk}(h:G9 S p t m σ s):AP AM S (.ptr p 0)=some (.agg s.c):=by
 rw[Aa h.obj];rfl
theorem cE{w0:World}{S:St}{p t m id k:Nat}{σ:SpN}{s:Stk}{n:Node}(h:G9 S p t m σ s)(hok:σ.ok k)(hk:k≤1000000)(hn:n.ok)(hr:Bi n=true)(hB:Br S id (n.tab 0)){Q:AV→St→Prop}
  (hq:∀S' s',Cg [p,t,m] S S'→G9 S' p t m (Vz σ n).1 s'→Q (.agg ((Vz σ n).2.c .nil)) S'):AC w0 Fg [.ptr p 0,.ptr id 0] S Q:=by
 apply QH;unfold K1;have hep:=hok.epoch;have hlen:=h.stk.len;have hnx:=h.stk.next;have hnn:=hok.next.1;simp only[MU h,Ay];simp;have hcc:∀(x:Stk) (r:A6),(.agg (r.c .nil):AV)= .agg (r.c .nil):=fun _ _=>rfl
 refine SD (P:=n.tab 0) h.stk.ok (fun h64=>?_) (fun h64 r2 hr2=>?_)
 ·rw[hlen] at h64;have hq':=hq S s (Cg.refl _ _);unfold Vz at hq';rw[if_pos h64] at hq';simp;refine Hj (τ:=σ) h (by omega) (fun _=>?_) (fun e=>by cases e)
  have:=hq' h;simpa[A6.c,An] using this
 ·rw[hlen] at h64;have hok2:(Stk.mk (⟨s.next,id,n.tab 0⟩::s.l) r2 (s.next+1)).ok:=⟨fun e=>absurd e hr2,by simp;omega,by simp only;omega,fun x hx=>by
   rcases List.mem_cons.1 hx with rfl|hx
   ·simp only;omega
   ·exact h.stk.ok.num x hx⟩
  have hM:H7 S (Stk.mk (⟨s.next,id,n.tab 0⟩::s.l) r2 (s.next+1)) (DV σ n):=by
   refine⟨hok2,fun x hx=>?_,?_,?_,?_⟩
   ·rcases List.mem_cons.1 hx with rfl|hx
    ·exact hB
    ·exact h.stk.on x hx
   ·have:=h.stk.tabs;unfold Stk.tabs at this ⊢;simp[DV,this]
   ·simp[DV,h.stk.nums,hnx]
   ·simp[DV,hnx]
  have hq':=fun S' (s':Stk) (hS':Cg [p] S S')=>hq S' s' hS'.more
  unfold Vz at hq';rw[if_neg (by omega)] at hq'
  have hnum:(s.next:Int)=σ.next:=by rw[hnx]
  generalize Stk.mk (⟨s.next,id,n.tab 0⟩::s.l) r2 (s.next+1)=s2 at hok2 hM ⊢;simp;refine Hj (τ:=DV σ n) h (by omega) (fun e=>absurd rfl e) (fun _=>⟨hM,rfl,rfl,rfl,rfl,fun S' hS' hA=>?_⟩)
  have:=hq' S' s2 hS' hA;rw[←hnum] at this;simpa[A6.c] using this
theorem gz{s:Stk}{ids:List Int}(h:(s.l.map fun x=>(x.num:Int))=ids){k:Int}:
  (ids.findIdx? (fun i=>decide (i=k))=none→∀m∈s.l,(m.num:Int)≠k)∧∀i m,s.l[i]? =some m→(m.num:Int)=k→(∀m'∈s.l.take i,(m'.num:Int)≠k)→ids.findIdx? (fun i=>decide (i=k))=some i:=by
 subst h;refine⟨fun hn m hm=>?_,fun i m hi hk hno=>?_⟩
 ·have:=List.findIdx?_eq_none_iff.1 hn (m.num:Int) (List.mem_map.2 ⟨m,hm,rfl⟩);simpa using this
 ·rw[List.findIdx?_eq_some_iff_getElem];obtain⟨hl,he⟩:=List.getElem?_eq_some_iff.1 hi;refine⟨by simpa using hl,by simp[he,hk],fun j hj=>?_⟩
  have hm:s.l[j]'(by omega)∈s.l.take i:=by
   rw[List.mem_take_iff_getElem];exact⟨j,by omega,rfl⟩
  have:=hno _ hm;simpa using this
theorem jg{l:List Mnt}{i:Nat}{m:Mnt}(h:l[i]? =some m):(l.eraseIdx i).length < l.length:=by
 have:=(List.getElem?_eq_some_iff.1 h).1;rw[List.length_eraseIdx,if_pos this];omega
theorem Vx{w0:World}{S:St}{p t m k:Nat}{σ:SpN}{s:Stk}{id:Int}(h:G9 S p t m σ s)(hok:σ.ok k)(hk:k≤1000000){Q:AV→St→Prop}
  (hq:∀S' s',Cg [p,t,m] S S'→G9 S' p t m (J0 σ id).1 s'→Q (.agg ((J0 σ id).2.c .nil)) S'):AC w0 EH [.ptr p 0,.int .i64 id] S Q:=by
 apply Na;unfold IM;have hep:=hok.epoch;simp only[MU h,Ay];simp;obtain⟨f1,f2⟩:=gz h.stk.nums (k:=id);unfold J0 at hq;refine UY h.stk.ok (fun hno S1 hS1=>?_) (fun i x hi hx hno S1 hS1=>?_)
 ·have hnone:σ.ids.findIdx? (fun i=>decide (i=id))=none:=by
   cases hf:σ.ids.findIdx? (fun i=>decide (i=id)) with
   |none=>rfl
   |some j=>
    rw[←h.stk.nums] at hf;obtain⟨hj,he,_⟩:=List.findIdx?_eq_some_iff_getElem.1 hf;simp at he;have hj':j < s.l.length:=by simpa using hj
    exact absurd he (hno _ (List.getElem_mem hj'))
  rw[hnone] at hq;have:=hq S1 s (hS1.chg _) (h.sx hS1);simp;refine Hj (τ:=σ) (h.sx hS1) (by omega) (fun _=>?_) (fun e=>by cases e)
  simpa[A6.c,An] using this
 ·rw[f2 i x hi hx hno] at hq;have hlt:=(List.getElem?_eq_some_iff.1 hi).1;have hsk:=(h.sx hS1).stk;have hless:=jg hi;have hlen:=hsk.ok.len;have hM:H7 S1 (Stk.mk (s.l.eraseIdx i) .none s.next) {σ with D:=σ.D.eraseIdx i,ids:=σ.ids.eraseIdx i,epoch:=σ.epoch+1}:=by
   refine⟨⟨by simp[Rt.strip],by simp only;omega,hsk.ok.next,fun y hy=>hsk.ok.num y (List.mem_of_mem_eraseIdx hy)⟩,fun y hy=>hsk.on y (List.mem_of_mem_eraseIdx hy),?_,?_,hsk.next⟩
   ·have:=hsk.tabs;unfold Stk.tabs at this ⊢;simp only;rw[Iq,this,Iq]
   ·simp only;rw[Iq,hsk.nums]
  generalize Stk.mk (s.l.eraseIdx i) .none s.next=s2 at hM ⊢;simp;refine Hj (τ:={σ with D:=σ.D.eraseIdx i,ids:=σ.ids.eraseIdx i,epoch:=σ.epoch+1}) (h.sx hS1) (by omega) (fun e=>absurd rfl e) (fun _=>⟨hM,rfl,rfl,rfl,rfl,fun S' hS' hA=>?_⟩)
  have:=hq S' s2 ((hS1.chg _).trans hS'.more) hA;simpa[A6.c] using this
def jM:List AV:=[.int .i64 0,.str [],.int .i64 0]
theorem QS{w0:World}{S:St}{p t m:Nat}{σ:SpN}{s:Stk}{id:Int}(h:G9 S p t m σ s){Q:AV→St→Prop}
  (hq:Q (match E7 σ id with| .inl (_,c)=>.tup [.agg c.v,.int .i64 0]| .inr e=>.tup [.agg jM,.int .i64 e]) S):AC w0 Dw [.ptr p 0,.int .i64 id] S Q:=by
 apply Nw;unfold JQ;simp[Aa h.obj];unfold E7 at hq;refine LV h.tab (fun hno=>?_) (fun k c hf hk=>?_)
 ·rw[hno] at hq;simp;simpa[jM] using hq
 ·rw[hf] at hq;simp only[hk] at hq
  by_cases e:c.epoch=σ.epoch
  ·simp[e] at hq;simp[EW.v,e,Aa h.obj];simpa[EW.v,e] using hq
  ·simp[e] at hq;simp[EW.v,e,Aa h.obj];simpa[jM] using hq
theorem Yq(r:Rt):r.strip.strip=r.strip:=by cases r<;>rfl
theorem aV{w0:World}{S:St}{p t m k:Nat}{σ:SpN}{s:Stk}{o:OpN}{l:List Ent}{r:Rt}(h:G9 S p t m σ s)(hok:σ.ok k)(hl:∀j c,E7 σ o.id= .inl (j,c)→l=K5 σ.D (pathOf c.names))(hr:r.strip= .nil→l=[])(hll:l.length≤6400000){Q:AV→St→Prop}
  (hq:∀S' rt,Cg [p,t,m] S S'→G9 S' p t m (KV σ o.id o.n).1 s→Q (.agg ((KV σ o.id o.n).2.c rt)) S'):AC w0 D8 [.ptr p 0,.agg o.c,.vs 2 (l.map Ent.c) r] S Q:=by
 have hoc:o.c=[.int .i64 o.kind,.str o.path,.int .i64 o.off,.int .i64 o.n,.int .i64 o.id,.str o.image]:=rfl;rw[hoc];apply On;unfold Js;simp;refine QS h ?_;unfold KV at hq;cases hs:E7 σ o.id with
 |inr e=>
  rw[hs] at hq;have:=hq S .nil (Cg.refl _ _) h;have he:¬e=0:=by
   unfold E7 at hs;split at hs
   ·cases hs;simp
   ·split at hs
    ·cases hs;simp
    ·split at hs
     ·cases hs;simp
     ·cases hs
  simp[jM,he];simpa[A6.c,An] using this
 |inl x=>
  obtain⟨j,c⟩:=x;rw[hs] at hq;simp only at hq;obtain⟨g1,g2,g3⟩:=PB hs;have hle:=hl j c hs;obtain⟨c1,c2,c3,c4,c5⟩:=hok.cur c (List.mem_of_getElem? g1);have hc4:=c4 g3;rw[←hle] at hq hc4;have hf:Eb σ.opens o.id=some j:=by
   unfold E7 at hs;split at hs
   ·cases hs
   ·rename_i hf;split at hs
    ·cases hs
    ·split at hs
     ·cases hs
     ·cases hs;exact hf
  simp[EW.v];refine ZA (l:=l) (r:=r.strip) hr (by omega) (fun a mm q ha hmm=>?_)
  have hat:((c.at_:Int)).toNat=c.at_:=by simp
  rw[hat] at ha;have ha':a=c.at_:=by omega
  subst ha';have hpp:(l.drop c.at_).take mm=(l.drop c.at_).take o.n.toNat:=by
   rw[hmm]
   by_cases hh:o.n.toNat≤l.length - c.at_
   ·rw[Nat.min_eq_left hh]
   ·rw[Nat.min_eq_right (by omega),List.take_of_length_le (by simp),List.take_of_length_le (by simp;omega)]
  have hpl:((l.drop c.at_).take mm).length=mm:=by rw[List.length_take,List.length_drop];omega
  rw[hpp] at hpl ⊢;generalize hX:(l.drop c.at_).take o.n.toNat=X at hpl hq ⊢;simp[Aa h.obj];refine V3 h.tab hf g1 (n:=X.length) (by omega) (fun S2 hS2 hT2=>?_)
  refine V5 (by omega) (fun S3 r3 hS3=>?_)
  simp;have hA:G9 S3 p t m {σ with opens:=σ.opens.set j {c with at_:=c.at_+X.length}} s:=by
   obtain⟨n1,n2,n3⟩:=h.pt;have hA2:G9 S2 p t m {σ with opens:=σ.opens.set j {c with at_:=c.at_+X.length}} s:=⟨hS2.get h.obj (by simp[n1,n2]),hT2,(h.stk.chg hS2 (fun i hi=>h.notBr i (by simp at hi ⊢;exact .inr hi))).same rfl rfl rfl⟩
   exact hA2.sx hS3
  have:=hq S3 r3.strip (hS2.moreT.trans (hS3.chg _)) hA;rw[←hpl];simp[A6.c] at this ⊢;exact this
theorem Yc{w0:World}{S:St}{p t m k:Nat}{σ:SpN}{s:Stk}{names:List Str}(h:G9 S p t m σ s)(hok:σ.ok k)(hk:k≤1000000){Q:AV→St→Prop}
  (hq:∀S',Cg [p,t,m] S S'→G9 S' p t m (NR σ names).1 s→Q (.agg ((NR σ names).2.c .nil)) S'):AC w0 Ef [.ptr p 0,.str (pathOf names)] S Q:=by
 apply Nt;unfold JT;have hmd:=hok.made;unfold NR at hq;simp[Aa h.obj];refine WP (names:=names) h.tab (by omega) (fun c hc=>by obtain⟨j,e,h1,h2⟩:=hmd.2 c hc;omega) (fun hr=>?_) (fun hr S2 hS2 hT2=>?_)
 ·rw[if_pos hr] at hq;have:=hq S (Cg.refl _ _) h;simp;simpa[A6.c,An] using this
 ·rw[if_neg (by omega)] at hq
  obtain⟨n1,n2,n3⟩:=h.pt;have hA2:G9 S2 p t m {σ with made:=σ.made+1,opens:=σ.opens++[⟨σ.made+1,σ.epoch,names,0⟩]} s:=⟨hS2.get h.obj (by simp[n1,n2]),hT2,(h.stk.chg hS2 (fun i hi=>h.notBr i (by simp at hi ⊢;exact .inr hi))).same rfl rfl rfl⟩
  have:=hq S2 hS2.moreT hA2;simp;simpa[A6.c] using this
theorem ft{w0:World}(hm:KD w0){S:St}{p t m k:Nat}{σ:SpN}{s:Stk}{o:OpN}(h:G9 S p t m σ s)(hok:σ.ok k)(hk:k≤1000000)(hp:o.path.length≤1048576)(hi:o.image.length≤1048575){Q:AV→St→Prop}
  (hq:∀S' s' rt,Cg [p,t,m] S S'→G9 S' p t m (doS σ o).1 s'→Q (.agg ((doS σ o).2.c rt)) S'):AC w0 H9 [.ptr p 0,.agg o.c] S Q:=by
 have hoc:o.c=[.int .i64 o.kind,.str o.path,.int .i64 o.off,.int .i64 o.n,.int .i64 o.id,.str o.image]:=rfl;have hL:=h.stk.stkD hok;have hF:=hL.leads.fine;rw[hoc];apply RX;unfold MB;simp;rw[←hoc];refine OG ?_
 by_cases hbad:MX o=true
 ·have e:(doS σ o)=(σ,An 1):=by
   simp[MX] at hbad;unfold doS;rcases hbad with ⟨k4,hb⟩|⟨k6,hb⟩
   ·simp[k4];unfold doR;simp[k4,isK,MX,hb]
   ·simp[k6,hb]
  have:=hq S s .nil (Cg.refl _ _);rw[e] at this;simp[hbad];simpa[A6.c,An] using this h
 ·simp[hbad];unfold doS at hq
  by_cases k5:o.kind=5
  ·simp[k5] at hq ⊢;simp only[MU h,Ay];simp;refine Pr hm hL.leads hp (fun S2 hS2=>⟨fun he=>?_,fun he _ r hr=>?_⟩)
   ·simp only[he,not_false_eq_true,if_true] at hq;have:=hq S2 s .nil (hS2.chg _) (h.sx hS2);simp[he];simpa[A6.c,An] using this
   ·simp only[he,not_true_eq_false,if_false] at hq;simp[he];refine Yc (h.sx hS2) hok hk (fun S3 hS3 hA3=>?_)
    have:=hq S3 s .nil ((hS2.chg _).trans hS3) hA3;simp[A6.c] at this ⊢;exact this
  by_cases k6:o.kind=6
  ·have hn1:¬o.n < 1:=by simp[MX,k6] at hbad;omega
   simp[k5,k6,hn1] at hq ⊢;refine QS h ?_;cases hs:E7 σ o.id with
   |inr e=>
    have he:¬e=0:=by
     unfold E7 at hs;split at hs
     ·cases hs;simp
     ·split at hs
      ·cases hs;simp
      ·split at hs
       ·cases hs;simp
       ·cases hs
    unfold KV at hq;rw[hs] at hq;have:=hq S s .nil (Cg.refl _ _) h;simp[jM,he];simpa[A6.c,An] using this
   |inl x=>
    obtain⟨j,c⟩:=x;obtain⟨g1,g2,g3⟩:=PB hs;obtain⟨c1,c2,c3,c4,c5⟩:=hok.cur c (List.mem_of_getElem? g1);have hpn:=Oy c2 c3;simp only[EW.v];simp;simp only[MU h,Ay];simp;have hgo:∀(l:List Ent) (r:Rt) (S2:St),l=K5 σ.D (pathOf c.names)→okR r l→Sx S S2→AC w0 D8 [.ptr p 0,.agg o.c,.vs 2 (l.map Ent.c) r.strip] S2 fun t71 S_6=>
      AA (if t71.free=true∧t71.cells.length=8 then some (t71.cells++List.drop t71.cells.length AD.zero) else none) fun b4_5=>AA (Option.map AV.strip (if 8≤b4_5.length then some (.agg (List.take 8 b4_5)) else none)) fun r4_5=>Q r4_5 S_6:=fun l r S2 hl hr hS2=>by
     refine aV (h.sx hS2) hok (fun j' c' hs'=>?_) (fun e=>hr (by rw[Yq] at e;exact e)) (by rw[hl];exact hF.list _) (fun S3 rt hS3 hA3=>?_)
     ·rw[hs] at hs';cases hs';exact hl
     ·have:=hq S3 s rt.strip ((hS2.chg _).trans hS3) hA3;simp[A6.c] at this ⊢;exact this
    refine Pr hm hL.leads (by omega) (fun S2 hS2=>⟨fun he=>?_,fun he _ r hr=>?_⟩)
    ·have:=hgo [] .nil S2 (by unfold K5;rw[if_neg he]) (fun _=>rfl) hS2
     simp;simpa using this
    ·have:=hgo (IN (Bj σ.D (pathOf c.names) true).nodes) r S2 (by unfold K5;rw[if_pos he]) hr hS2
     simp;simpa using this
  by_cases k7:o.kind=7
  ·simp[k7] at hq ⊢;simp[Aa h.obj];unfold RW at hq;refine VG h.tab (fun hno=>?_) (fun j hf S2 hS2 hT2=>?_)
   ·rw[hno] at hq;have:=hq S s .nil (Cg.refl _ _) h;simp;simpa[A6.c,An] using this
   ·rw[hf] at hq;obtain⟨n1,n2,n3⟩:=h.pt;have hA2:G9 S2 p t m {σ with opens:=σ.opens.eraseIdx j} s:=⟨hS2.get h.obj (by simp[n1,n2]),hT2,(h.stk.chg hS2 (fun i hi=>h.notBr i (by simp at hi ⊢;exact .inr hi))).same rfl rfl rfl⟩
    have:=hq S2 s .nil hS2.moreT hA2;simp;simpa[A6.c] using this
  by_cases k8:o.kind=8
  ·simp[k8] at hq ⊢;refine Wa hm hi (fun n hn hnok hnr S2 id hS2 hid hB=>?_) (fun hn S2 hS2=>?_) (fun n hn _=>(Ru hn).2.1)
   ·rw[hn] at hq;simp only at hq;simp;refine cE (h.sx hS2) hok hk hnok hnr hB (fun S3 s3 hS3 hA3=>?_)
    have:=hq S3 s3 .nil ((hS2.chg _).trans hS3) hA3;simp[A6.c] at this ⊢;exact this
   ·rw[hn] at hq;have:=hq S2 s .nil (hS2.chg _) (h.sx hS2);simp;simpa[A6.c,An] using this
  by_cases k9:o.kind=9
  ·simp[k9] at hq ⊢;refine Vx h hok hk (fun S3 s3 hS3 hA3=>?_)
   have:=hq S3 s3 .nil hS3 hA3;simp[A6.c] at this ⊢;exact this
  ·simp[k5,k6,k7,k8,k9] at hq ⊢;simp only[MU h,Ay];simp;refine cV hm hL hp (fun S2 hS2=>?_)
   have:=hq S2 s .nil (hS2.chg _) (h.sx hS2);simp[A6.c] at this ⊢;exact this
end Go.Av
