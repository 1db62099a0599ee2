/- Parts of the proofs of this seat: abstract values over the model, and what the functions of the program do. No condition. -/
import Derived.Test.YtgilicomkelmdaaGreatDoorX05e
import Derived.Test.YtgilicomkelmdaaGreatDoorY09
import Derived.Test.YtgilicomkelmdaaGreatDoorY05e
import Derived.Test.YtgilicomkelmdaaGreatDoorXFrz
set_option linter.all false
set_option maxRecDepth 100000
namespace Go.Av
structure Ent where
 name:Str
 kind:Int
 deriving DecidableEq
@[simp] def Ent.c(x:Ent):List AV:=[.str x.name,.int .i64 x.kind]
def L7(dirs:List Node)(s:Str):Option Ent:=match Cn dirs s with|[]=>none|x::_=>some ⟨s,x.kind⟩
def IN(dirs:List Node):List Ent:=(F2 (dirs.map (·.names))).filterMap (L7 dirs)
theorem find_none_iff{n:Node}(h:n.names.l.length=n.items.length)(s:Str):n.find s=none↔s ∉ n.names.l:=by
 unfold Node.find;cases hk:n.names.l.findIdx? (fun x=>decide (x=s)) with
 |none=>
  simp only[Option.bind_none,true_iff];intro hs;have:=List.findIdx?_eq_none_iff.1 hk s hs;simp at this
 |some k=>
  obtain⟨hlt,h2,_⟩:=List.findIdx?_eq_some_iff_getElem.1 hk;have hx:n.items[k]? =some n.items[k]:=List.getElem?_eq_getElem (by omega)
  simp only[Option.bind_some,hx,false_iff,Decidable.not_not,reduceCtorEq];have:n.names.l[k]=s:=by simpa using h2
  rw[←this];exact List.getElem_mem _
theorem QJ:∀{dirs:List Node} {s:Str} {k:Nat} {n y:Node},dirs[k]? =some n→n.find s=some y→(∀(j:Nat) (m:Node),j < k→dirs[j]? =some m→m.find s=none)→∃r,Bf dirs s=y::r
 |[],_,_,_,_,h,_,_=>by simp at h
 |d::dirs,s,0,n,y,h,hy,_=>by
  simp at h;subst h;exact⟨Bf dirs s,by simp only[Bf,List.filterMap_cons,hy]⟩
 |d::dirs,s,k+1,n,y,h,hy,hno=>by
  simp at h;obtain⟨r,hr⟩:=QJ h hy fun j m hj hm=>hno (j+1) m (by omega) (by simpa using hm)
  have h0:=hno 0 d (by omega) rfl
  exact⟨r,by rw[←hr];simp only[Bf,List.filterMap_cons,h0]⟩
theorem cQ{dirs:List Node}{s:Str}{y:Node}{r:List Node}(h:Bf dirs s=y::r):L7 dirs s=if y.kind=4 then none else some ⟨s,y.kind⟩:=by
 unfold L7 Cn;rw[h];simp only
 by_cases k4:y.kind=4
 ·rw[if_pos k4,if_pos k4]
 ·rw[if_neg k4,if_neg k4]
  by_cases k2:y.kind=2
  ·rw[if_neg (by simp[k2]),List.takeWhile_cons_of_pos (by simp[k2]),De]
  ·rw[if_pos k2]
def CO:List Str→Str→List Str
 |[],s=>[s]
 |x::l,s=>if x=s then x::l else if slt s x=true then s::x::l else x::CO l s
theorem Jz:∀(l:List Str) (s t:Str),t∈CO l s↔t=s∨t∈l
 |[],s,t=>by simp[CO]
 |x::l,s,t=>by
  rw[CO];split
  ·rename_i h;subst h;simp
  ·split
   ·simp
   ·rw[List.mem_cons,Jz l s t,List.mem_cons];constructor
    ·rintro (h|h|h)
     ·exact .inr (.inl h)
     ·exact .inl h
     ·exact .inr (.inr h)
    ·rintro (h|h|h)
     ·exact .inr (.inl h)
     ·exact .inl h
     ·exact .inr (.inr h)
theorem LF:∀(f:Nat) (rs:List Ss),(EQ f rs).length≤f
 |0,rs=>by simp[EQ]
 |f+1,rs=>by
  rw[EQ];cases Hs 0 none rs with
  |none=>simp
  |some p=>have:=LF f (Jp rs p.1);simp;omega
theorem M1{n:Node}(h:n.allB=true):Sorted n.names.l:=by
 rw[Node.all_eq] at h;simp only[Bool.and_eq_true] at h;obtain⟨hz,hk⟩:=Eu h.2
 by_cases k:n.kind=2
 ·have hn:E1 n=true:=by simpa[Ct,k] using hk
  exact(Mn _ _ (I6 hn).1).1
 ·have hnm:n.names.l=[]:=by simp[C1,k] at hz;exact hz.1.1.1.2
  rw[hnm];exact .nil
theorem Pk{dirs:List Node}{rows:List Ss}(hl:rows.map (·.l)=dirs.map (fun n=>n.names.l)){k:Nat}{x:Ss}(hx:rows[k]? =some x):∃n,dirs[k]? =some n∧x.l=n.names.l:=by
 have:=congrArg (fun y=>y[k]?) hl
 simp only[List.getElem?_map,hx,Option.map_some] at this;cases hn:dirs[k]? with
 |none=>rw[hn] at this;cases this
 |some n=>rw[hn] at this;exact⟨n,rfl,Option.some.inj this⟩
theorem XJ{dirs:List Node}{rows:List Ss}(hl:rows.map (·.l)=dirs.map (fun n=>n.names.l)){k:Nat}{n:Node}(hn:dirs[k]? =some n):∃x,rows[k]? =some x∧x.l=n.names.l:=by
 have:=congrArg (fun y=>y[k]?) hl
 simp only[List.getElem?_map,hn,Option.map_some] at this;cases hx:rows[k]? with
 |none=>rw[hx] at this;cases this
 |some x=>rw[hx] at this;exact⟨x,rfl,Option.some.inj this⟩
theorem Sh{dirs:List Node}{rows:List Ss}(hl:rows.map (·.l)=dirs.map (fun n=>n.names.l))(ha:∀n∈dirs,n.allB=true):∀x∈rows,Sorted x.l:=fun x hx=>by
 obtain⟨k,hk⟩:=List.getElem?_of_mem hx;obtain⟨n,h1,h2⟩:=Pk hl hk;rw[h2];exact M1 (ha n (List.mem_of_getElem? h1))
theorem YZ{dirs:List Node}{rows:List Ss}(hl:rows.map (·.l)=dirs.map (fun n=>n.names.l))(ha:∀n∈dirs,n.allB=true):F2 rows=F2 (dirs.map (·.names)):=by
 obtain⟨h1,h2⟩:=Lz (Sh hl ha);obtain⟨h3,h4⟩:=Lz (rs:=dirs.map (·.names)) (fun x hx=>by obtain⟨n,hn,rfl⟩:=List.mem_map.1 hx;exact M1 (ha n hn))
 refine KT h1 h3 fun s=>?_
 rw[h2,h4];constructor
 ·rintro⟨x,hx,hs⟩;obtain⟨k,hk⟩:=List.getElem?_of_mem hx;obtain⟨n,h5,h6⟩:=Pk hl hk;exact⟨n.names,List.mem_map.2 ⟨n,List.mem_of_getElem? h5,rfl⟩,by rw[←h6];exact hs⟩
 ·rintro⟨x,hx,hs⟩;obtain⟨n,hn,rfl⟩:=List.mem_map.1 hx;obtain⟨k,hk⟩:=List.getElem?_of_mem hn;obtain⟨x,h5,h6⟩:=XJ hl hk;exact⟨x,List.mem_of_getElem? h5,by rw[h6];exact hs⟩
theorem ce{dirs:List Node}{rows:List Ss}(hl:rows.map (·.l)=dirs.map (fun n=>n.names.l))(ha:∀n∈dirs,n.allB=true){it:Item}(hit:it∈C8 none (EQ (DX rows) rows)):
  ∃(k:Nat) (n y:Node),it.row=k∧dirs[k]? =some n∧n.find it.name=some y∧L7 dirs it.name=if y.kind=4 then none else some ⟨it.name,y.kind⟩:=by
 obtain⟨h1,h2⟩:=Ml (DX rows) rows (Sh hl ha) (Nat.le_refl _);obtain⟨h3,h4,h5⟩:=M5 _ none h2 (fun _ e=>by cases e)
 obtain⟨h6,h7,h8⟩:=h4 it hit;obtain⟨k,x,h9,h10,h11⟩:=(h1 it).1 h6;obtain⟨n,h12,h13⟩:=Pk hl h9;have hnm:=List.mem_of_getElem? h12;have hlen:=HK (ha n hnm);cases hy:n.find it.name with
 |none=>exact absurd (h13 ▸ h11) ((find_none_iff hlen it.name).1 hy)
 |some y=>
  obtain⟨r,hr⟩:=QJ h12 hy fun j m hj hm=>by
   refine(find_none_iff (HK (ha m (List.mem_of_getElem? hm))) it.name).2 fun hmem=>?_
   obtain⟨x',h14,h15⟩:=XJ hl hm;have:=h8 ⟨it.name,j⟩ ((h1 ⟨it.name,j⟩).2 ⟨j,x',h14,rfl,by rw[h15];exact hmem⟩) rfl
   rw[h10] at this;simp at this;omega
  exact⟨k,n,y,h10,h12,hy,cQ hr⟩
open Go.Proofs
def WO(σ:List Ss)(n:Nat):List Ss:=σ++List.replicate (n - σ.length) ⟨[],.nil⟩
def Ss.u(x:Ss):List AV:=[.vs 1 (x.l.map BO) x.r]
theorem Ss.u_len(x:Ss):x.u.length=1:=rfl
theorem jX{σ:List Ss}{n i:Nat}(hl:σ.length=i)(hi:i < n):(WO σ n)[i]? =some ⟨[],.nil⟩:=by
 unfold WO;rw[List.getElem?_append_right (by omega),List.getElem?_replicate,if_pos (by omega)]
theorem iL{σ:List Ss}{n i:Nat}(hl:σ.length=i)(hi:i < n)(x:Ss):(WO σ n).set i x=WO (σ++[x]) n:=by
 unfold WO;rw[List.set_append_right _ _ (by omega),hl,Nat.sub_self,List.length_append,hl]
 obtain⟨k,hk⟩:∃k,n - i=k+1:=⟨n - i - 1,by omega⟩
 rw[hk,show n - (i+[x].length)=k by simp;omega,List.replicate_succ,List.set_cons_zero]
 simp
theorem fh{σ:List Ss}{n:Nat}(hl:σ.length=n):WO σ n=σ:=by simp[WO,hl]
theorem Qa{w0:World}{S:St}{s:Stk}{p:List Spot}{dirs:List Node}{pr:Rt}(hs:s.ok)(hon:s.on S)(hg:jW s.tabs)(hp:OnP s.tabs p dirs)(hd:∀n∈dirs,n.ok∧n.allB=true∧n.names.l.length≤100000)(hpl:p.length≤64){Q:AV→St→Prop}
  (hq:∀S' r,Sx S S'→okR r (IN dirs)→Q (.vs 2 ((IN dirs).map Ent.c) r) S'):AC w0 LS [.agg s.c,.vs 2 (p.map spC) pr] S Q:=by
 have hc:s.c=[.vs 2 (s.l.map Mnt.c) s.r.strip,.int .i64 s.next]:=rfl;have hpd:=hp.len;rw[hc];apply Ws;unfold Pt;simp only[←hc];have hmk:∃A S1,C7 AX false S (.int .i64 (p.length:Int)) (.int .i64 (p.length:Int))=some (A,S1)∧Sx S S1∧((p=[]∧A= .vs 1 [] (.own Lm))∨(p≠[]∧A= .rs 1 S.length 0 p.length∧S1[S.length]? =some (.cells (BN Ss.u (WO [] p.length)++[]) 0))):=by
  have hlim:(p.length:Int)≤lim:=by unfold lim;omega
  by_cases c:p=[]
  ·subst c;exact⟨.vs 1 [] (.own Lm),S,by simp[C7],.refl _,.inl ⟨rfl,rfl⟩⟩
  ·refine⟨.rs 1 S.length 0 p.length,S++[.cells (List.replicate p.length [.vs 1 [] .nil]).flatten 0],by simp[C7,hlim,c],.app _ _,.inr ⟨c,rfl,?_⟩⟩
   have:∀n,(List.replicate n [AV.vs 1 [] .nil]).flatten=BN Ss.u (List.replicate n ⟨[],.nil⟩):=by
    intro n
    induction n with
    |zero=>rfl
    |succ n ih=>simp only[List.replicate_succ,List.flatten_cons,ih];rfl
   rw[this];simp[WO]
 obtain⟨A,S1,e1,hx1,hA⟩:=hmk;simp[e1];rw[AH];refine Ak p (fun i (_:List Ss)=>([.int .i64 i],[some s.c])) (fun i σ S'=>Sx S S'∧σ.length=i∧σ.map (·.l)=(dirs.map (fun n=>n.names.l)).take i∧(∀x∈σ,x.r= .nil→x.l=[])∧(p=[]∨S'[S.length]? =some (.cells (BN Ss.u (WO σ p.length)++[]) 0))) [] rfl ⟨hx1,rfl,rfl,by simp,hA.imp (·.1) (·.2.2)⟩ ?_ ?_
 ·rintro i σ S' v b x c hxi hdr hcc hmem ⟨hSx,hσl,hσ,hσr,hrow⟩ hv;simp at hv;obtain⟨hv1,hv2⟩:=hv;obtain⟨n,hn,hst⟩:=hp.get hxi;obtain⟨m,a1,a2,a3,a4⟩:=hst.at_;have hnm:=List.mem_of_getElem? hn;have hB:=hon.mono hSx m a2;have hnmz:(BM m.tab (x.2:Int)).names=n.names.l:=by rw[a3];rfl
  have hpne:p≠[]:=by intro e;rw[e] at hxi;simp at hxi
  have hA2:A= .rs 1 S.length 0 p.length:=by rcases hA with ⟨h,_⟩|⟨_,h,_⟩;exact absurd h hpne;exact h
  have hrow:=hrow.resolve_left hpne;subst hA2;simp[hv1,hv2,hcc,hxi,spC];refine GB ?_;rw[a1];simp;refine VN hB (by rw[hnmz];have:=(hd n hnm).2.2;omega) (fun r6 hr6=>?_)
  rw[hnmz] at hr6 ⊢;have hst2:=KX (T:=AX) (enc:=Ss.u) (n:=1) (⟨n.names.l,r6⟩:Ss) hrow rfl Ss.u_len (jX hσl c) (v:=.vs 1 (n.names.l.map BO) r6) rfl rfl;rw[Nat.mul_one,iL hσl c] at hst2;simp[c,hst2]
  try simp (disch:=omega) only[wrap64]
  have hlt:S.length < S'.length:=(List.getElem?_eq_some_iff.1 hrow).1;refine .next c (σ++[⟨n.names.l,r6⟩]) rfl ⟨fun j hj=>?_,by simp[hσl],by rw[List.take_succ,List.getElem?_map,hn,List.map_append,hσ];rfl,fun y hy=>?_,.inr ?_⟩
  ·rw[List.getElem?_set_ne (by omega)];exact hSx j hj
  ·rcases List.mem_append.1 hy with hy|hy
   ·exact hσr y hy
   ·rw[List.mem_singleton] at hy;subst hy;intro e;exact hr6 (by simp only at e;rw[e];rfl)
  ·simp[List.getElem?_set,hlt]
 ·rintro σ S' v b ⟨hSx,hσl,hσ,hσr,hrow⟩ hv N;simp at hv;obtain⟨hv1,hv2⟩:=hv;simp[hv1,hv2];rw[AH];have hσ:σ.map (·.l)=dirs.map (fun n=>n.names.l):=by rw[hσ,List.take_of_length_le (by rw[List.length_map];omega)]
  have hall:∀n∈dirs,n.allB=true:=fun n hn=>(hd n hn).2.1
  have hsl:∀x∈σ,x.l.length≤100000:=fun x hx=>by
   obtain⟨k,hk⟩:=List.getElem?_of_mem hx;obtain⟨n,h1,h2⟩:=Pk hσ hk;rw[h2];exact(hd n (List.mem_of_getElem? h1)).2.2
  have htot:DX σ≤6400000:=by
   have h1:∀(l:List Ss),(∀x∈l,x.l.length≤100000)→DX l≤l.length*100000:=by
    intro l
    induction l with
    |nil=>intro _;simp[DX]
    |cons x l ih=>
     intro h;have h2:=ih fun y hy=>h y (by simp[hy])
     have h3:=h x (by simp)
     simp only[DX,List.map_cons,List.sum_cons,List.length_cons,Nat.add_mul] at h2 ⊢;omega
   have h2:=h1 σ hsl;omega
  have hmerge:∀{Q2:AV→St→Prop},(∀S2,Sx S S2→Q2 (.vs 2 ((EQ (DX σ) σ).map Item.c) .none) S2)→AC w0 Ic [A.strip] S' Q2:=by
   intro Q2 hq2;rcases hA with ⟨hp0,hA⟩|⟨hp0,hA,_⟩
   ·have hσ0:σ=[]:=by
     apply List.eq_nil_of_length_eq_zero;rw[hσl,hp0];rfl
    subst hσ0;rw[hA];exact QE (rows:=[]) (r:=.none) (by simp) (by simp[DX]) (by simp) fun S2 h2=>hq2 S2 (hSx.trans h2)
   ·have hrow:=hrow.resolve_left hp0;rw[hA];rw[fh hσl,List.append_nil] at hrow;have hflat:BN Ss.u σ=(σ.map Ss.u).flatten:=by simp[BN,List.flatMap]
    rw[hflat] at hrow;refine AO.freeze (pre:=[]) (post:=[]) (n:=p.length) hrow (fun e he=>?_) (by simpa using hσl) ?_
    ·obtain⟨x,_,rfl⟩:=List.mem_map.1 he;exact⟨rfl,by simp[Ss.u]⟩
    ·have hmm:(σ.map Ss.u).map (·.map AV.strip1)=σ.map Ss.c:=by
      rw[List.map_map];apply List.map_congr_left;intro x _;simp[Ss.u,AV.strip1]
     rw[hmm];refine QE (rows:=σ) (r:=.none) (by omega) (by omega) hσr fun S2 h2=>hq2 S2 fun j hj=>?_
     have hlt:S.length < S'.length:=(List.getElem?_eq_some_iff.1 hrow).1;rw[h2 j (by rw[List.length_set];omega),List.getElem?_set_ne (by omega)]
     exact hSx j hj
  have hAs:A.strip.free=true∧A.strip.strip=A.strip:=by rcases hA with ⟨_,rfl⟩|⟨_,rfl,_⟩<;>exact⟨rfl,rfl⟩
  rw[if_pos hAs.1,hAs.2];simp only[Ay];refine hmerge fun S2 hS2=>?_
  simp;refine ZP (by have:=LF (DX σ) σ;omega) (fun r7 hr7=>?_)
  simp;have hnames:F2 (dirs.map (·.names))=(C8 none (EQ (DX σ) σ)).map (·.name):=(YZ hσ hall).symm;have hlist:IN dirs=((C8 none (EQ (DX σ) σ)).map (·.name)).filterMap (L7 dirs):=by rw[IN,hnames]
  have hitem:=fun it hit=>ce (it:=it) hσ hall hit
  have hfl:(C8 none (EQ (DX σ) σ)).length≤6400000:=Nat.le_trans (Ot _ _) (by have:=LF (DX σ) σ;omega)
  generalize C8 none (EQ (DX σ) σ)=items at hnames hlist hitem hfl ⊢;refine Ak items (fun i (σ2:List Ent×Rt)=>([.vs 2 (σ2.1.map Ent.c) σ2.2,.int .i64 i],[some s.c])) (fun i σ2 S'=>S'=S2∧IN dirs=σ2.1++((items.map (·.name)).drop i).filterMap (L7 dirs)∧okA σ2.2 σ2.1∧σ2.1.length≤i) ([],.nil) rfl ⟨rfl,by rw[hlist];simp,.inl ⟨rfl,rfl⟩,by simp⟩ ?_ ?_
  ·rintro i ⟨out,ro⟩ S3 v2 b2 it c hxi hdr hcc hmem ⟨rfl,he,hro,hol⟩ hv2;simp at hv2 he hro hol;obtain⟨⟨hv9,hv45⟩,hb2⟩:=hv2;obtain⟨k,n,y,q1,q2,q3,q4⟩:=hitem it hmem;have hkp:k < p.length:=by have:=(List.getElem?_eq_some_iff.1 q2).1;omega
   obtain⟨x,hx⟩:∃x,p[k]? =some x:=⟨p[k],List.getElem?_eq_getElem hkp⟩;obtain⟨n',hn',hst⟩:=hp.get hx;rw[q2] at hn';cases hn';obtain⟨P,hP,hat⟩:=hst;obtain⟨m,a1,a2,a3,a4⟩:=(show Stands s.tabs x n from⟨P,hP,hat⟩).at_
   have hnm:=List.mem_of_getElem? q2;have hmt:m.tab=P:=by
    have h1:=hP;unfold Stk.tabs at h1;rw[List.getElem?_map,Option.map_eq_some_iff] at h1;obtain⟨m',h3,h4⟩:=h1;have h5:=(Stk.at_some h3).1;rw[a1] at h5;cases h5;exact h4
   have hlk:=hat.look (hall n hnm) it.name;rw[q3] at hlk;obtain⟨j,hj1,hj2⟩:=hlk;have hB:=hon.mono hS2 m a2;have hgd:(BM m.tab (x.2:Int)).good:=hg m.tab (by unfold Stk.tabs;exact List.mem_map.2 ⟨m,a2,rfl⟩) _
   have hky:(BM m.tab (j:Int)).kind=y.kind:=by rw[hmt,hj2.ino];rfl
   have hdr':(items.map (·.name)).drop i=it.name::(items.map (·.name)).drop (i+1):=by rw[←List.map_drop,hdr,List.map_cons,List.map_drop]
   rw[hdr',List.filterMap_cons,q4] at he;have hap:∀S2:St,AU BI S2 (.vs 2 (out.map Ent.c) ro) (.vs 2 [[.str it.name,.int .i64 y.kind]] .full)=some (.vs 2 ((out++[(⟨it.name,y.kind⟩:Ent)]).map Ent.c) (.own (Ba BI ro))):=fun S2=>by
    simp[AU,A1,hro.ne.1,show out.length+1≤lim by unfold lim;omega]
   simp[hv9,hv45,hb2,hcc,hxi,q1,hx,spC];refine GB ?_;rw[a1];simp;refine OV hB hgd ?_;rw[hmt,hj1];simp;refine N9 hB ?_;rw[hky]
   by_cases k4:y.kind=4
   ·rw[if_pos k4] at he;simp[AH,k4]
    try simp (disch:=omega) only[wrap64]
    exact .next c (out,ro) (by simp) ⟨rfl,he,hro,by simp;omega⟩
   ·rw[if_neg k4] at he;simp[AH,k4];simp[hap]
    try simp (disch:=omega) only[wrap64]
    exact .next c (out++[⟨it.name,y.kind⟩],.own (Ba BI ro)) (by simp) ⟨rfl,by rw[he];simp,.app,by simp;omega⟩
  ·rintro⟨out,ro⟩ S3 v2 b2 ⟨rfl,he,hro,hol⟩ hv2 N2;have hz:List.drop items.length (items.map (·.name))=[]:=by rw[List.drop_of_length_le];simp
   rw[hz] at he;simp at hv2 he hro;obtain⟨⟨hv9,hv45⟩,hb2⟩:=hv2;simp[hv9,hv45,hb2];have:=hq S3 ro.strip hS2 (fun e=>by
    rw[he];rcases hro with ⟨_,h⟩|⟨⟨t,rfl⟩,_⟩
    ·exact h
    ·simp[Rt.strip] at e)
   rw[he] at this;exact this
open Go.Proofs
theorem V5{w0:World}{S:St}{l:List Ent}{r:Rt}(hl:l.length≤10000000){Q:AV→St→Prop}(hq:∀S' r,Sx S S'→Q (.vs 1 (l.map fun x=>BO x.name) r) S'):AC w0 KN [.vs 2 (l.map Ent.c) r] S Q:=by
 apply T0;unfold Oh;have hmk:C7 AJ false S (.int .i64 0) (.int .i64 (l.length:Int))=some (.vs 1 [] (.own Cq),S):=by
  simp[C7,show (l.length:Int)≤lim by unfold lim;omega]
 simp[hmk,AH];refine Ak l (fun i (ro:Rt)=>([.vs 1 ((l.take i).map fun x=>BO x.name) ro,.int .i64 i],[])) (fun i ro S'=>S'=S∧∃t,ro= .own t) (.own Cq) (by simp) ⟨rfl,_,rfl⟩ ?_ ?_
 ·rintro i ro S' v b x c hxi hd hc hmem ⟨rfl,t,rfl⟩ hv;simp at hv;obtain⟨hv1,hv2⟩:=hv;have htk:l.take (i+1)=l.take i++[x]:=by rw[List.take_succ,hxi];rfl
  have hlen:(l.take i).length=i:=by rw[List.length_take];omega
  have htk2:List.take (i+1) (l.map fun x=>[AV.str x.name])=List.take i (l.map fun x=>[AV.str x.name])++[[AV.str x.name]]:=by rw[←List.map_take,htk,List.map_append,List.map_take];rfl
  have hap:∀S2:St,AU AJ S2 (.vs 1 (List.take i (l.map fun x=>[AV.str x.name])) (.own t)) (.vs 1 [[.str x.name]] .full)=some (.vs 1 (List.take (i+1) (l.map fun x=>[AV.str x.name])) (.own (Ba AJ (.own t)))):=fun S2=>by
   rw[htk2];simp[AU,A1,show min i l.length+1≤lim by unfold lim;omega]
  simp[hv1,hv2,hc,hxi,hap]
  try simp (disch:=omega) only[wrap64]
  exact .next c (.own (Ba AJ (.own t))) rfl ⟨rfl,_,rfl⟩
 ·rintro ro S' v b ⟨rfl,t,rfl⟩ hv N;simp at hv;obtain⟨hv1,hv2⟩:=hv;simp[hv1,hv2];have:=hq S' (Rt.strip (.own t)) (Sx.refl _);simpa[Rt.strip] using this
theorem SC:∀(l:List Str) (s:Str),(CO l s).length≤l.length+1
 |[],s=>by simp[CO]
 |x::l,s=>by
  rw[CO];split
  ·simp
  ·split
   ·simp
   ·have:=SC l s;simp;omega
def TU:List Str→Bool→List Str→Str→Option (List Str)
 |out,put,[],s=>some (if put=true then out else out++[s])
 |out,put,x::l,s=>if x=s then none else if put=false∧slt s x=true then TU (out++[s,x]) true l s else TU (out++[x]) put l s
theorem bQ:∀(l out:List Str) (s:Str),s ∉ l→TU out true l s=some (out++l)
 |[],out,s,_=>by simp[TU]
 |x::l,out,s,h=>by
  rw[TU,if_neg (by intro e;exact h (by simp[e])),if_neg (by simp),bQ l _ s (fun h2=>h (by simp[h2]))]
  simp
theorem eX:∀(l out:List Str) (s:Str),Sorted l→TU out false l s=if s∈l then none else some (out++CO l s)
 |[],out,s,_=>by simp[TU,CO]
 |x::l,out,s,hs=>by
  have hs2:=List.pairwise_cons.1 hs;rw[TU,CO]
  by_cases e:x=s
  ·rw[if_pos e,if_pos (by simp[e])]
  ·rw[if_neg e,if_neg e]
   by_cases c:slt s x=true
   ·rw[if_pos ⟨rfl,c⟩,if_pos c];have hn:s ∉ l:=fun h=>by
     have h1:=hs2.1 s h;have h2:=RI c;rw[h1] at h2;cases h2
    rw[bQ l _ s hn,if_neg (by simp[hn];exact fun h=>e h.symm)]
    simp
   ·rw[if_neg (fun h=>c h.2),if_neg c,eX l _ s hs2.2]
    by_cases hm:s∈l
    ·rw[if_pos hm,if_pos (by simp[hm])]
    ·rw[if_neg hm,if_neg (by simp[hm];exact fun h=>e h.symm)]
     simp
theorem Ph:∀(l:List Str) (s:Str),Sorted l→s∈l→CO l s=l
 |[],s,_,h=>by simp at h
 |x::l,s,hs,h=>by
  have hs2:=List.pairwise_cons.1 hs;rw[CO]
  by_cases e:x=s
  ·rw[if_pos e]
  ·rw[if_neg e];have hm:s∈l:=by rcases List.mem_cons.1 h with h|h;exact absurd h.symm e;exact h
   have h1:=hs2.1 s hm;have h2:=RI h1;rw[if_neg (by rw[h2];simp),Ph l s hs2.2 hm]
theorem NZ:∀(l:List Str) (s:Str),Sorted l→Sorted (CO l s)
 |[],s,_=>by simp[CO,Sorted]
 |x::l,s,hs=>by
  have hs2:=List.pairwise_cons.1 hs;rw[CO]
  by_cases e:x=s
  ·rw[if_pos e];exact hs
  ·rw[if_neg e]
   by_cases c:slt s x=true
   ·rw[if_pos c];refine List.pairwise_cons.2 ⟨fun y hy=>?_,hs⟩
    rcases List.mem_cons.1 hy with rfl|hy
    ·exact c
    ·exact EV c (hs2.1 y hy)
   ·rw[if_neg c];refine List.pairwise_cons.2 ⟨fun y hy=>?_,NZ l s hs2.2⟩
    rcases (Jz l s y).1 hy with rfl|hy
    ·rcases L0 x y with h|h|h
     ·exact h
     ·exact absurd h e
     ·exact absurd h c
    ·exact hs2.1 y hy
open Go.Proofs
theorem Uh{w0:World}{S:St}{l:List Str}{r:Rt}{s:Str}(hl:l.length≤10000000)(hs:Sorted l)(hll:∀x∈l,x.length≤1000000000)(hsl:s.length≤1000000000){Q:AV→St→Prop}(hq:∀r,Q (.vs 1 ((CO l s).map BO) r) S):
  AC w0 JD [.vs 1 (l.map BO) r,.str s] S Q:=by
 apply Su;unfold M9;rw[AH];have hI:=eX l [] s hs;refine Ak l (fun i (σ:List Str×Bool×Rt)=>([.vs 1 (σ.1.map BO) σ.2.2,.bool σ.2.1,.int .i64 i],[])) (fun i σ S'=>S'=S∧TU [] false l s=TU σ.1 σ.2.1 (l.drop i) s∧σ.1.length≤i+(if σ.2.1=true then 1 else 0)∧(σ.2.2= .full∨∃t,σ.2.2= .own t)) ([],false,.full) rfl ⟨rfl,by simp,by simp,.inl rfl⟩ ?_ ?_
 ·rintro i ⟨out,put,ro⟩ S' v b x c hxi hd hc hmem ⟨rfl,he,hol,hr⟩ hv;simp at hv he hol hr;obtain⟨hv1,hv2,hv3⟩:=hv;have hol1:out.length≤l.length+1:=by split at hol<;>omega
  have hrn:ro≠ .none:=by rcases hr with rfl|⟨t,rfl⟩<;>simp
  rw[hd,TU] at he;simp[hv1,hv2,hv3,hc,hxi]
  by_cases e:x=s
  ·rw[if_pos e,hI] at he;have hm:s∈l:=by
    by_cases hm:s∈l
    ·exact hm
    ·rw[if_neg hm] at he;cases he
   have:=hq r.strip;rw[Ph l s hs hm] at this;simp[e];simpa using this
  rw[if_neg e] at he;have hap1:∀(S2:St),AU AJ S2 (.vs 1 (out.map BO) ro) (.vs 1 [[.str s]] .full)=some (.vs 1 ((out++[s]).map BO) (.own (Ba AJ ro))):=fun S2=>by
   simp[AU,A1,hrn,show out.length+1≤lim by unfold lim;omega]
  have hap2:∀(S2:St),AU AJ S2 (.vs 1 (out.map BO) ro) (.vs 1 [[.str x]] .full)=some (.vs 1 ((out++[x]).map BO) (.own (Ba AJ ro))):=fun S2=>by
   simp[AU,A1,hrn,show out.length+1≤lim by unfold lim;omega]
  have hap3:∀(S2:St) (q:Rt),q≠ .none→AU AJ S2 (.vs 1 ((out++[s]).map BO) q) (.vs 1 [[.str x]] .full)=some (.vs 1 ((out++[s,x]).map BO) (.own (Ba AJ q))):=fun S2 q hqn=>by
   simp[AU,A1,hqn,show out.length+1+1≤lim by unfold lim;omega]
  simp[e];rw[AH];rw[AH];have hxl:=hll x hmem;cases put with
  |true=>
   rw[if_neg (by simp)] at he
   have h2:=hap2 S';simp at h2;simp[h2]
   try simp (disch:=omega) only[wrap64]
   exact .next c (out++[x],true,.own (Ba AJ ro)) (by simp) ⟨rfl,he,by simp at hol ⊢;omega,.inr ⟨_,rfl⟩⟩
  |false=>
   simp;refine QF hsl hxl ?_
   by_cases cc:slt s x=true
   ·rw[if_pos ⟨rfl,cc⟩] at he;have h1:=hap1 S';have h3:=hap3 S' (.own (Ba AJ ro)) (by simp)
    simp at h1 h3;rw[cc];simp[h1,h3]
    try simp (disch:=omega) only[wrap64]
    exact .next c (out++[s,x],true,.own (Ba AJ (.own (Ba AJ ro)))) (by simp) ⟨rfl,he,by simp at hol ⊢;omega,.inr ⟨_,rfl⟩⟩
   ·rw[if_neg (fun h=>cc h.2)] at he
    have hcf:slt s x=false:=by simpa using cc
    have h2:=hap2 S';simp at h2;rw[hcf];simp[h2]
    try simp (disch:=omega) only[wrap64]
    exact .next c (out++[x],false,.own (Ba AJ ro)) (by simp) ⟨rfl,he,by simp at hol ⊢;omega,.inr ⟨_,rfl⟩⟩
 ·rintro⟨out,put,ro⟩ S' v b ⟨rfl,he,hol,hr⟩ hv N;simp at hv he hol hr;obtain⟨hv1,hv2,hv3⟩:=hv;have hol1:out.length≤l.length+1:=by split at hol<;>omega
  have hrn:ro≠ .none:=by rcases hr with rfl|⟨t,rfl⟩<;>simp
  have hap1:∀(S2:St),AU AJ S2 (.vs 1 (out.map BO) ro) (.vs 1 [[.str s]] .full)=some (.vs 1 ((out++[s]).map BO) (.own (Ba AJ ro))):=fun S2=>by
   simp[AU,A1,hrn,show out.length+1≤lim by unfold lim;omega]
  rw[TU,hI] at he;have hm:s ∉ l:=fun h=>by rw[if_pos h] at he;cases he
  rw[if_neg hm,List.nil_append] at he;have he:=Option.some.inj he;simp[hv1,hv2,hv3];cases put with
  |true=>
   have:=hq ro.strip;rw[he] at this;simp[AH];simpa using this
  |false=>
   have:=hq .none;rw[he] at this;simp[AH];have h2:=hap1 S';simp at h2;simp[h2];simpa using this
theorem LU:∀(ns l:List Str),Sorted l→Sorted (ns.foldl CO l)∧∀s,s∈ns.foldl CO l↔s∈l∨s∈ns
 |[],l,h=>⟨h,by simp⟩
 |x::ns,l,h=>by
  obtain⟨h1,h2⟩:=LU ns (CO l x) (NZ l x h);refine⟨h1,fun s=>?_⟩
  rw[List.foldl_cons,h2,Jz,List.mem_cons];constructor
  ·rintro ((h|h)|h)
   ·exact .inr (.inl h)
   ·exact .inl h
   ·exact .inr (.inr h)
  ·rintro (h|h|h)
   ·exact .inl (.inr h)
   ·exact .inl (.inl h)
   ·exact .inr h
def nD(dirs:List Node):List Str:=dirs.foldl (fun acc n=>n.names.l.foldl CO acc) []
theorem PC:∀(dirs:List Node) (l:List Str),Sorted l→Sorted (dirs.foldl (fun acc n=>n.names.l.foldl CO acc) l)∧∀s,s∈dirs.foldl (fun acc n=>n.names.l.foldl CO acc) l↔s∈l∨∃n∈dirs,s∈n.names.l
 |[],l,h=>⟨h,by simp⟩
 |n::dirs,l,h=>by
  obtain⟨h1,h2⟩:=LU n.names.l l h;obtain⟨h3,h4⟩:=PC dirs _ h1;refine⟨h3,fun s=>?_⟩
  rw[List.foldl_cons,h4,h2];constructor
  ·rintro ((h|h)|⟨m,hm,h⟩)
   ·exact .inl h
   ·exact .inr ⟨n,by simp,h⟩
   ·exact .inr ⟨m,by simp[hm],h⟩
  ·rintro (h|⟨m,hm,h⟩)
   ·exact .inl (.inl h)
   ·rcases List.mem_cons.1 hm with rfl|hm
    ·exact .inl (.inr h)
    ·exact .inr ⟨m,hm,h⟩
theorem fQ{dirs:List Node}(ha:∀n∈dirs,n.allB=true):nD dirs=F2 (dirs.map (·.names)):=by
 obtain⟨h1,h2⟩:=PC dirs [] .nil;obtain⟨h3,h4⟩:=Lz (rs:=dirs.map (·.names)) (fun x hx=>by obtain⟨n,hn,rfl⟩:=List.mem_map.1 hx;exact M1 (ha n hn))
 refine KT h1 h3 fun s=>?_
 rw[h4]
 show s∈dirs.foldl (fun acc n=>n.names.l.foldl CO acc) []↔_
 rw[h2];constructor
 ·rintro (h|⟨n,hn,h⟩)
  ·cases h
  ·exact⟨n.names,List.mem_map.2 ⟨n,hn,rfl⟩,h⟩
 ·rintro⟨x,hx,h⟩;obtain⟨n,hn,rfl⟩:=List.mem_map.1 hx;exact .inr ⟨n,hn,h⟩
theorem RA{w0:World}{S:St}{dirs:List Node}{r:Rt}(hl:dirs.length≤64)(hd:∀n∈dirs,n.ok∧n.allB=true∧n.names.l.length≤100000){Q:AV→St→Prop}(hq:∀r,Q (.vs 2 ((IN dirs).map Ent.c) r) S):
  AC w0 LR [.vs 7 (dirs.map Node.c) r] S Q:=by
 apply Wy;unfold Qx;rw[AH];have hstr:∀n∈dirs,∀s∈n.names.l,s.length≤1000000000:=fun n hn s hs=>by
  have:=((Node.ok_iff n).1 (hd n hn).1).2.1.2.2 s hs;omega
 simp;refine Ak dirs (fun i (σ:List Str×Rt)=>([.vs 1 (σ.1.map BO) σ.2,.int .i64 i],[])) (fun i σ S'=>S'=S∧σ.1=(dirs.take i).foldl (fun acc n=>n.names.l.foldl CO acc) []∧σ.1.length≤i*100000∧∀x∈σ.1,x.length≤1000000000) ([],.full) rfl ⟨rfl,rfl,by simp,by simp⟩ ?_ ?_
 ·rintro i ⟨acc,ra⟩ S' v b n c hxi hdr hc hmem ⟨rfl,he,hal,hax⟩ hv;simp at hv he hal hax;obtain⟨hv1,hv2⟩:=hv;have htk:dirs.take (i+1)=dirs.take i++[n]:=by rw[List.take_succ,hxi];rfl
  have hacc:Sorted acc:=by rw[he];exact(PC (dirs.take i) [] .nil).1
  have hnl:=(hd n hmem).2.2;simp[hv1,hv2,hc];rw[AH];refine Ak n.names.l (fun j (σ:List Str×Rt)=>([.vs 1 (σ.1.map BO) σ.2,.int .i64 j],[])) (fun j σ S2=>S2=S'∧σ.1=(n.names.l.take j).foldl CO acc∧σ.1.length≤acc.length+j∧∀x∈σ.1,x.length≤1000000000) (acc,ra) (by simp) ⟨rfl,by simp,by simp,hax⟩ ?_ ?_
  ·rintro j ⟨l2,r2⟩ S2 v2 b2 s c2 hxj hdj hcj hmj ⟨rfl,he2,hl2,hx2⟩ hv2;simp at hv2 he2 hl2 hx2;obtain⟨hv3,hv5⟩:=hv2;have htk2:n.names.l.take (j+1)=n.names.l.take j++[s]:=by rw[List.take_succ,hxj];rfl
   have hs2:Sorted l2:=by rw[he2];exact(LU _ _ hacc).1
   simp[hv3,hv5,hxi,hcj,hxj];refine Uh (by omega) hs2 hx2 (hstr n hmem s hmj) (fun r3=>?_)
   try simp
   try simp (disch:=omega) only[wrap64]
   refine .next c2 (CO l2 s,r3) (by simp) ⟨rfl,by rw[htk2,List.foldl_append,←he2];rfl,by have:=SC l2 s;simp;omega,fun x hx=>?_⟩
   rcases (Jz l2 s x).1 hx with rfl|hx
   ·exact hstr n hmem _ hmj
   ·exact hx2 x hx
  ·rintro⟨l2,r2⟩ S2 v2 b2 ⟨rfl,he2,hl2,hx2⟩ hv2 N2;simp at hv2 he2 hl2 hx2;obtain⟨hv3,hv5⟩:=hv2;simp[hv3,hv5,hxi]
   try simp (disch:=omega) only[wrap64]
   refine .next c (l2,r2) (by simp) ⟨rfl,?_,?_,hx2⟩
   ·rw[htk,List.foldl_append,←he];exact he2
   ·rw[Nat.add_mul];simp;omega
 ·rintro⟨acc,ra⟩ S' v b ⟨rfl,he,hal,hax⟩ hv N;simp at hv he hal hax;obtain⟨hv1,hv2⟩:=hv;have hall:∀n∈dirs,n.allB=true:=fun n hn=>(hd n hn).2.1
  have hacc:acc=F2 (dirs.map (·.names)):=by rw[←fQ hall];exact he
  simp[hv1,hv2];rw[AH];have hlist:IN dirs=acc.filterMap (L7 dirs):=by rw[hacc];rfl
  refine Ak acc (fun i (σ:List Ent×Rt)=>([.vs 2 (σ.1.map Ent.c) σ.2,.int .i64 i],[])) (fun i σ S2=>S2=S'∧IN dirs=σ.1++(acc.drop i).filterMap (L7 dirs)∧σ.1.length≤i∧σ.2≠ .none) ([],.full) rfl ⟨rfl,by rw[hlist];simp,by simp,by simp⟩ ?_ ?_
  ·rintro i ⟨out,ro⟩ S2 v2 b2 s c hxi hdr hc hmem ⟨rfl,he2,hol,hr⟩ hv2;simp at hv2 he2 hol hr;obtain⟨hv6,hv7⟩:=hv2;rw[hdr,List.filterMap_cons] at he2;simp[hv6,hv7,hc,hxi];refine Lp (by omega) (fun n hn=>⟨(hd n hn).1,(hd n hn).2.1⟩) (fun r3=>?_)
   cases hsn:Cn dirs s with
   |nil=>
    have:L7 dirs s=none:=by rw[L7,hsn]
    rw[this] at he2;simp[AH]
    try simp (disch:=omega) only[wrap64]
    exact .next c (out,ro) (by simp) ⟨rfl,he2,by simp;omega,hr⟩
   |cons y t=>
    have:L7 dirs s=some ⟨s,y.kind⟩:=by rw[L7,hsn]
    rw[this] at he2;have hap:∀S2:St,AU BW S2 (.vs 2 (out.map Ent.c) ro) (.vs 2 [[.str s,.int .i64 y.kind]] .full)=some (.vs 2 ((out++[(⟨s,y.kind⟩:Ent)]).map Ent.c) (.own (Ba BW ro))):=fun S2=>by
     simp[AU,A1,hr,show out.length+1≤lim by unfold lim;omega]
    have h2:=hap S2;simp at h2;simp[AH];simp[h2]
    try simp (disch:=omega) only[wrap64]
    exact .next c (out++[⟨s,y.kind⟩],.own (Ba BW ro)) (by simp) ⟨rfl,by rw[he2];simp,by simp;omega,by simp⟩
  ·rintro⟨out,ro⟩ S2 v2 b2 ⟨rfl,he2,hol,hr⟩ hv2 N2;simp at hv2 he2;obtain⟨hv6,hv7⟩:=hv2;simp[hv6,hv7];have:=hq ro.strip;rw[he2] at this;exact this
end Go.Av
