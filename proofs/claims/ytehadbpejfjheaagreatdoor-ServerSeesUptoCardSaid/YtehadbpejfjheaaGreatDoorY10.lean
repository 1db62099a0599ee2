/- Parts of the proofs of this seat: abstract values over the model, and what the functions of the program do. No condition. -/
import Derived.Test.YtehadbpejfjheaaGreatDoorX04L
import Derived.Test.YtehadbpejfjheaaGreatDoorY09
import Derived.Test.YtehadbpejfjheaaGreatDoorX05M
import Derived.Test.YtehadbpejfjheaaGreatDoorXFrz
import Derived.Test.YtehadbpejfjheaaGreatDoorX08d
set_option linter.all false
set_option maxRecDepth 100000
namespace Go.Av
structure Ent where
 name:Str
 kind:Int
 deriving DecidableEq
@[simp] def Ent.c(x:Ent):List AV:=[.str x.name,.int .i64 x.kind]
def Nn(dirs:List Node)(s:Str):Option Ent:=match Do dirs s with|[]=>none|x::_=>some ⟨s,x.kind⟩
def J5(dirs:List Node):List Ent:=(HP (dirs.map (·.names))).filterMap (Nn dirs)
theorem find_none_iff{n:Node}(h:n.names.l.length=n.items.length)(s:Str):n.find s=none↔s ∉ n.names.l:=by
 unfold Node.find;cases hk:n.names.l.findIdx? (fun x=>decide (x=s)) with
 |none=>
  simp only[Option.bind_none,true_iff];intro hs;have:=List.findIdx?_eq_none_iff.1 hk s hs;simp at this
 |some k=>
  obtain⟨hlt,h2,_⟩:=List.findIdx?_eq_some_iff_getElem.1 hk;have hx:n.items[k]? =some n.items[k]:=List.getElem?_eq_getElem (by omega)
  simp only[Option.bind_some,hx,false_iff,Decidable.not_not,reduceCtorEq];have:n.names.l[k]=s:=by simpa using h2
  rw[←this];exact List.getElem_mem _
theorem RZ:∀{dirs:List Node} {s:Str} {k:Nat} {n y:Node},dirs[k]? =some n→n.find s=some y→(∀(j:Nat) (m:Node),j < k→dirs[j]? =some m→m.find s=none)→∃r,CW dirs s=y::r
 |[],_,_,_,_,h,_,_=>by simp at h
 |d::dirs,s,0,n,y,h,hy,_=>by
  simp at h;subst h;exact⟨CW dirs s,by simp only[CW,List.filterMap_cons,hy]⟩
 |d::dirs,s,k+1,n,y,h,hy,hno=>by
  simp at h;obtain⟨r,hr⟩:=RZ h hy fun j m hj hm=>hno (j+1) m (by omega) (by simpa using hm)
  have h0:=hno 0 d (by omega) rfl
  exact⟨r,by rw[←hr];simp only[CW,List.filterMap_cons,h0]⟩
theorem dR{dirs:List Node}{s:Str}{y:Node}{r:List Node}(h:CW dirs s=y::r):Nn dirs s=if y.kind=4 then none else some ⟨s,y.kind⟩:=by
 unfold Nn Do;rw[h];simp only
 by_cases k4:y.kind=4
 ·rw[if_pos k4,if_pos k4]
 ·rw[if_neg k4,if_neg k4]
  by_cases k2:y.kind=2
  ·rw[if_neg (by simp[k2]),List.takeWhile_cons_of_pos (by simp[k2]),EY]
  ·rw[if_pos k2]
theorem M3:∀(f:Nat) (rs:List Ss),(FV f rs).length≤f
 |0,rs=>by simp[FV]
 |f+1,rs=>by
  rw[FV];cases JP 0 none rs with
  |none=>simp
  |some p=>have:=M3 f (LK rs p.1);simp;omega
theorem OW{n:Node}(h:n.allB=true):Sorted n.names.l:=by
 rw[Node.all_eq] at h;simp only[Bool.and_eq_true] at h;obtain⟨hz,hk⟩:=MB h.2
 by_cases k:n.kind=2
 ·have hn:HQ n=true:=by simpa[Fm,k] using hk
  exact(WI _ _ (Q6 hn).1).1
 ·have hnm:n.names.l=[]:=by simp[F0,k] at hz;exact hz.1.1.1.2
  rw[hnm];exact .nil
theorem Si{dirs:List Node}{rows:List Ss}(hl:rows.map (·.l)=dirs.map (fun n=>n.names.l)){k:Nat}{x:Ss}(hx:rows[k]? =some x):∃n,dirs[k]? =some n∧x.l=n.names.l:=by
 have:=congrArg (fun y=>y[k]?) hl
 simp only[List.getElem?_map,hx,Option.map_some] at this;cases hn:dirs[k]? with
 |none=>rw[hn] at this;cases this
 |some n=>rw[hn] at this;exact⟨n,rfl,Option.some.inj this⟩
theorem X6{dirs:List Node}{rows:List Ss}(hl:rows.map (·.l)=dirs.map (fun n=>n.names.l)){k:Nat}{n:Node}(hn:dirs[k]? =some n):∃x,rows[k]? =some x∧x.l=n.names.l:=by
 have:=congrArg (fun y=>y[k]?) hl
 simp only[List.getElem?_map,hn,Option.map_some] at this;cases hx:rows[k]? with
 |none=>rw[hx] at this;cases this
 |some x=>rw[hx] at this;exact⟨x,rfl,Option.some.inj this⟩
theorem UF{dirs:List Node}{rows:List Ss}(hl:rows.map (·.l)=dirs.map (fun n=>n.names.l))(ha:∀n∈dirs,n.allB=true):∀x∈rows,Sorted x.l:=fun x hx=>by
 obtain⟨k,hk⟩:=List.getElem?_of_mem hx;obtain⟨n,h1,h2⟩:=Si hl hk;rw[h2];exact OW (ha n (List.mem_of_getElem? h1))
theorem Zf{dirs:List Node}{rows:List Ss}(hl:rows.map (·.l)=dirs.map (fun n=>n.names.l))(ha:∀n∈dirs,n.allB=true):HP rows=HP (dirs.map (·.names)):=by
 obtain⟨h1,h2⟩:=NR (UF hl ha);obtain⟨h3,h4⟩:=NR (rs:=dirs.map (·.names)) (fun x hx=>by obtain⟨n,hn,rfl⟩:=List.mem_map.1 hx;exact OW (ha n hn))
 refine L5 h1 h3 fun s=>?_
 rw[h2,h4];constructor
 ·rintro⟨x,hx,hs⟩;obtain⟨k,hk⟩:=List.getElem?_of_mem hx;obtain⟨n,h5,h6⟩:=Si hl hk;exact⟨n.names,List.mem_map.2 ⟨n,List.mem_of_getElem? h5,rfl⟩,by rw[←h6];exact hs⟩
 ·rintro⟨x,hx,hs⟩;obtain⟨n,hn,rfl⟩:=List.mem_map.1 hx;obtain⟨k,hk⟩:=List.getElem?_of_mem hn;obtain⟨x,h5,h6⟩:=X6 hl hk;exact⟨x,List.mem_of_getElem? h5,by rw[h6];exact hs⟩
theorem dT{dirs:List Node}{rows:List Ss}(hl:rows.map (·.l)=dirs.map (fun n=>n.names.l))(ha:∀n∈dirs,n.allB=true){it:Item}(hit:it∈EB none (FV (ES rows) rows)):
  ∃(k:Nat) (n y:Node),it.row=k∧dirs[k]? =some n∧n.find it.name=some y∧Nn dirs it.name=if y.kind=4 then none else some ⟨it.name,y.kind⟩:=by
 obtain⟨h1,h2⟩:=OL (ES rows) rows (UF hl ha) (Nat.le_refl _);obtain⟨h3,h4,h5⟩:=OT _ none h2 (fun _ e=>by cases e)
 obtain⟨h6,h7,h8⟩:=h4 it hit;obtain⟨k,x,h9,h10,h11⟩:=(h1 it).1 h6;obtain⟨n,h12,h13⟩:=Si hl h9;have hnm:=List.mem_of_getElem? h12;have hlen:=Iw (ha n hnm);cases hy:n.find it.name with
 |none=>exact absurd (h13 ▸ h11) ((find_none_iff hlen it.name).1 hy)
 |some y=>
  obtain⟨r,hr⟩:=RZ h12 hy fun j m hj hm=>by
   refine(find_none_iff (Iw (ha m (List.mem_of_getElem? hm))) it.name).2 fun hmem=>?_
   obtain⟨x',h14,h15⟩:=X6 hl hm;have:=h8 ⟨it.name,j⟩ ((h1 ⟨it.name,j⟩).2 ⟨j,x',h14,rfl,by rw[h15];exact hmem⟩) rfl
   rw[h10] at this;simp at this;omega
  exact⟨k,n,y,h10,h12,hy,dR hr⟩
open Go.Proofs
def XI(σ:List Ss)(n:Nat):List Ss:=σ++List.replicate (n - σ.length) ⟨[],.nil⟩
def Ss.u(x:Ss):List AV:=[.vs 1 (x.l.map Cw) x.r]
theorem Ss.u_len(x:Ss):x.u.length=1:=rfl
theorem ij{σ:List Ss}{n i:Nat}(hl:σ.length=i)(hi:i < n):(XI σ n)[i]? =some ⟨[],.nil⟩:=by
 unfold XI;rw[List.getElem?_append_right (by omega),List.getElem?_replicate,if_pos (by omega)]
theorem jY{σ:List Ss}{n i:Nat}(hl:σ.length=i)(hi:i < n)(x:Ss):(XI σ n).set i x=XI (σ++[x]) n:=by
 unfold XI;rw[List.set_append_right _ _ (by omega),hl,Nat.sub_self,List.length_append,hl]
 obtain⟨k,hk⟩:∃k,n - i=k+1:=⟨n - i - 1,by omega⟩
 rw[hk,show n - (i+[x].length)=k by simp;omega,List.replicate_succ,List.set_cons_zero]
 simp
theorem gf{σ:List Ss}{n:Nat}(hl:σ.length=n):XI σ n=σ:=by simp[XI,hl]
theorem SJ{w0:World}{S:St}{s:Stk}{p:List Spot}{dirs:List Node}{pr:Rt}(hs:s.ok)(hon:s.on S)(hg:eX s.tabs)(hp:OnP s.tabs p dirs)(hd:∀n∈dirs,n.ok∧n.allB=true∧n.names.l.length≤100000)(hpl:p.length≤64){Q:AV→St→Prop}
  (hq:∀S' r,Sx S S'→okR r (J5 dirs)→Q (.vs 2 ((J5 dirs).map Ent.c) r) S'):AC w0 M8 [.agg s.c,.vs 2 (p.map spC) pr] S Q:=by
 have hc:s.c=[.vs 2 (s.l.map Mnt.c) s.r.strip,.int .i64 s.next]:=rfl;have hpd:=hp.len;rw[hc];apply XD;unfold Su;simp only[←hc];have hmk:∃A S1,FB Ai false S (.int .i64 (p.length:Int)) (.int .i64 (p.length:Int))=some (A,S1)∧Sx S S1∧((p=[]∧A= .vs 1 [] (.own Mm))∨(p≠[]∧A= .rs 1 S.length 0 p.length∧S1[S.length]? =some (.cells (Ab Ss.u (XI [] p.length)++[]) 0))):=by
  have hlim:(p.length:Int)≤lim:=by unfold lim;omega
  by_cases c:p=[]
  ·subst c;exact⟨.vs 1 [] (.own Mm),S,by simp[FB],.refl _,.inl ⟨rfl,rfl⟩⟩
  ·refine⟨.rs 1 S.length 0 p.length,S++[.cells (List.replicate p.length [.vs 1 [] .nil]).flatten 0],by simp[FB,hlim,c],.app _ _,.inr ⟨c,rfl,?_⟩⟩
   have:∀n,(List.replicate n [AV.vs 1 [] .nil]).flatten=Ab Ss.u (List.replicate n ⟨[],.nil⟩):=by
    intro n
    induction n with
    |zero=>rfl
    |succ n ih=>simp only[List.replicate_succ,List.flatten_cons,ih];rfl
   rw[this];simp[XI]
 obtain⟨A,S1,e1,hx1,hA⟩:=hmk;simp[e1];rw[AO];refine BN p (fun i (_:List Ss)=>([.int .i64 i],[some s.c])) (fun i σ S'=>Sx S S'∧σ.length=i∧σ.map (·.l)=(dirs.map (fun n=>n.names.l)).take i∧(∀x∈σ,x.r= .nil→x.l=[])∧(p=[]∨S'[S.length]? =some (.cells (Ab Ss.u (XI σ p.length)++[]) 0))) [] rfl ⟨hx1,rfl,rfl,by simp,hA.imp (·.1) (·.2.2)⟩ ?_ ?_
 ·rintro i σ S' v b x c hxi hdr hcc hmem ⟨hSx,hσl,hσ,hσr,hrow⟩ hv;simp at hv;obtain⟨hv1,hv2⟩:=hv;obtain⟨n,hn,hst⟩:=hp.get hxi;obtain⟨m,a1,a2,a3,a4⟩:=hst.at_;have hnm:=List.mem_of_getElem? hn;have hB:=hon.mono hSx m a2;have hnmz:(Cu m.tab (x.2:Int)).names=n.names.l:=by rw[a3];rfl
  have hpne:p≠[]:=by intro e;rw[e] at hxi;simp at hxi
  have hA2:A= .rs 1 S.length 0 p.length:=by rcases hA with ⟨h,_⟩|⟨_,h,_⟩;exact absurd h hpne;exact h
  have hrow:=hrow.resolve_left hpne;subst hA2;simp[hv1,hv2,hcc,hxi,spC];refine Is ?_;rw[a1];simp;refine V0 hB (by rw[hnmz];have:=(hd n hnm).2.2;omega) (fun r6 hr6=>?_)
  rw[hnmz] at hr6 ⊢;have hst2:=PS (T:=Ai) (enc:=Ss.u) (n:=1) (⟨n.names.l,r6⟩:Ss) hrow rfl Ss.u_len (ij hσl c) (v:=.vs 1 (n.names.l.map Cw) r6) rfl rfl;rw[Nat.mul_one,jY hσl c] at hst2;simp[c,hst2]
  try simp (disch:=omega) only[wrap64]
  have hlt:S.length < S'.length:=(List.getElem?_eq_some_iff.1 hrow).1;refine .next c (σ++[⟨n.names.l,r6⟩]) rfl ⟨fun j hj=>?_,by simp[hσl],by rw[List.take_succ,List.getElem?_map,hn,List.map_append,hσ];rfl,fun y hy=>?_,.inr ?_⟩
  ·rw[List.getElem?_set_ne (by omega)];exact hSx j hj
  ·rcases List.mem_append.1 hy with hy|hy
   ·exact hσr y hy
   ·rw[List.mem_singleton] at hy;subst hy;intro e;exact hr6 (by simp only at e;rw[e];rfl)
  ·simp[List.getElem?_set,hlt]
 ·rintro σ S' v b ⟨hSx,hσl,hσ,hσr,hrow⟩ hv N;simp at hv;obtain⟨hv1,hv2⟩:=hv;simp[hv1,hv2];rw[AO];have hσ:σ.map (·.l)=dirs.map (fun n=>n.names.l):=by rw[hσ,List.take_of_length_le (by rw[List.length_map];omega)]
  have hall:∀n∈dirs,n.allB=true:=fun n hn=>(hd n hn).2.1
  have hsl:∀x∈σ,x.l.length≤100000:=fun x hx=>by
   obtain⟨k,hk⟩:=List.getElem?_of_mem hx;obtain⟨n,h1,h2⟩:=Si hσ hk;rw[h2];exact(hd n (List.mem_of_getElem? h1)).2.2
  have htot:ES σ≤6400000:=by
   have h1:∀(l:List Ss),(∀x∈l,x.l.length≤100000)→ES l≤l.length*100000:=by
    intro l
    induction l with
    |nil=>intro _;simp[ES]
    |cons x l ih=>
     intro h;have h2:=ih fun y hy=>h y (by simp[hy])
     have h3:=h x (by simp)
     simp only[ES,List.map_cons,List.sum_cons,List.length_cons,Nat.add_mul] at h2 ⊢;omega
   have h2:=h1 σ hsl;omega
  have hmerge:∀{Q2:AV→St→Prop},(∀S2,Sx S S2→Q2 (.vs 2 ((FV (ES σ) σ).map Item.c) .none) S2)→AC w0 KW [A.strip] S' Q2:=by
   intro Q2 hq2;rcases hA with ⟨hp0,hA⟩|⟨hp0,hA,_⟩
   ·have hσ0:σ=[]:=by
     apply List.eq_nil_of_length_eq_zero;rw[hσl,hp0];rfl
    subst hσ0;rw[hA];exact SH (rows:=[]) (r:=.none) (by simp) (by simp[ES]) (by simp) fun S2 h2=>hq2 S2 (hSx.trans h2)
   ·have hrow:=hrow.resolve_left hp0;rw[hA];rw[gf hσl,List.append_nil] at hrow;have hflat:Ab Ss.u σ=(σ.map Ss.u).flatten:=by simp[Ab,List.flatMap]
    rw[hflat] at hrow;refine AT.freeze (pre:=[]) (post:=[]) (n:=p.length) hrow (fun e he=>?_) (by simpa using hσl) ?_
    ·obtain⟨x,_,rfl⟩:=List.mem_map.1 he;exact⟨rfl,by simp[Ss.u]⟩
    ·have hmm:(σ.map Ss.u).map (·.map AV.strip1)=σ.map Ss.c:=by
      rw[List.map_map];apply List.map_congr_left;intro x _;simp[Ss.u,AV.strip1]
     rw[hmm];refine SH (rows:=σ) (r:=.none) (by omega) (by omega) hσr fun S2 h2=>hq2 S2 fun j hj=>?_
     have hlt:S.length < S'.length:=(List.getElem?_eq_some_iff.1 hrow).1;rw[h2 j (by rw[List.length_set];omega),List.getElem?_set_ne (by omega)]
     exact hSx j hj
  have hAs:A.strip.free=true∧A.strip.strip=A.strip:=by rcases hA with ⟨_,rfl⟩|⟨_,rfl,_⟩<;>exact⟨rfl,rfl⟩
  rw[if_pos hAs.1,hAs.2];simp only[AF];refine hmerge fun S2 hS2=>?_
  simp;refine ZT (by have:=M3 (ES σ) σ;omega) (fun r7 hr7=>?_)
  simp;have hnames:HP (dirs.map (·.names))=(EB none (FV (ES σ) σ)).map (·.name):=(Zf hσ hall).symm;have hlist:J5 dirs=((EB none (FV (ES σ) σ)).map (·.name)).filterMap (Nn dirs):=by rw[J5,hnames]
  have hitem:=fun it hit=>dT (it:=it) hσ hall hit
  have hfl:(EB none (FV (ES σ) σ)).length≤6400000:=Nat.le_trans (Q7 _ _) (by have:=M3 (ES σ) σ;omega)
  generalize EB none (FV (ES σ) σ)=items at hnames hlist hitem hfl ⊢;refine BN items (fun i (σ2:List Ent×Rt)=>([.vs 2 (σ2.1.map Ent.c) σ2.2,.int .i64 i],[some s.c])) (fun i σ2 S'=>S'=S2∧J5 dirs=σ2.1++((items.map (·.name)).drop i).filterMap (Nn dirs)∧okA σ2.2 σ2.1∧σ2.1.length≤i) ([],.nil) rfl ⟨rfl,by rw[hlist];simp,.inl ⟨rfl,rfl⟩,by simp⟩ ?_ ?_
  ·rintro i ⟨out,ro⟩ S3 v2 b2 it c hxi hdr hcc hmem ⟨rfl,he,hro,hol⟩ hv2;simp at hv2 he hro hol;obtain⟨⟨hv9,hv45⟩,hb2⟩:=hv2;obtain⟨k,n,y,q1,q2,q3,q4⟩:=hitem it hmem;have hkp:k < p.length:=by have:=(List.getElem?_eq_some_iff.1 q2).1;omega
   obtain⟨x,hx⟩:∃x,p[k]? =some x:=⟨p[k],List.getElem?_eq_getElem hkp⟩;obtain⟨n',hn',hst⟩:=hp.get hx;rw[q2] at hn';cases hn';obtain⟨P,hP,hat⟩:=hst;obtain⟨m,a1,a2,a3,a4⟩:=(show Stands s.tabs x n from⟨P,hP,hat⟩).at_
   have hnm:=List.mem_of_getElem? q2;have hmt:m.tab=P:=by
    have h1:=hP;unfold Stk.tabs at h1;rw[List.getElem?_map,Option.map_eq_some_iff] at h1;obtain⟨m',h3,h4⟩:=h1;have h5:=(Stk.at_some h3).1;rw[a1] at h5;cases h5;exact h4
   have hlk:=hat.look (hall n hnm) it.name;rw[q3] at hlk;obtain⟨j,hj1,hj2⟩:=hlk;have hB:=hon.mono hS2 m a2;have hgd:(Cu m.tab (x.2:Int)).good:=hg m.tab (by unfold Stk.tabs;exact List.mem_map.2 ⟨m,a2,rfl⟩) _
   have hky:(Cu m.tab (j:Int)).kind=y.kind:=by rw[hmt,hj2.ino];rfl
   have hdr':(items.map (·.name)).drop i=it.name::(items.map (·.name)).drop (i+1):=by rw[←List.map_drop,hdr,List.map_cons,List.map_drop]
   rw[hdr',List.filterMap_cons,q4] at he;have hap:∀S2:St,Aj Bz S2 (.vs 2 (out.map Ent.c) ro) (.vs 2 [[.str it.name,.int .i64 y.kind]] .full)=some (.vs 2 ((out++[(⟨it.name,y.kind⟩:Ent)]).map Ent.c) (.own (C4 Bz ro))):=fun S2=>by
    simp[Aj,BO,hro.ne.1,show out.length+1≤lim by unfold lim;omega]
   simp[hv9,hv45,hb2,hcc,hxi,q1,hx,spC];refine Is ?_;rw[a1];simp;refine QI hB hgd ?_;rw[hmt,hj1];simp;refine QL hB ?_;rw[hky]
   by_cases k4:y.kind=4
   ·rw[if_pos k4] at he;simp[AO,k4]
    try simp (disch:=omega) only[wrap64]
    exact .next c (out,ro) (by simp) ⟨rfl,he,hro,by simp;omega⟩
   ·rw[if_neg k4] at he;simp[AO,k4];simp[hap]
    try simp (disch:=omega) only[wrap64]
    exact .next c (out++[⟨it.name,y.kind⟩],.own (C4 Bz ro)) (by simp) ⟨rfl,by rw[he];simp,.app,by simp;omega⟩
  ·rintro⟨out,ro⟩ S3 v2 b2 ⟨rfl,he,hro,hol⟩ hv2 N2;have hz:List.drop items.length (items.map (·.name))=[]:=by rw[List.drop_of_length_le];simp
   rw[hz] at he;simp at hv2 he hro;obtain⟨⟨hv9,hv45⟩,hb2⟩:=hv2;simp[hv9,hv45,hb2];have:=hq S3 ro.strip hS2 (fun e=>by
    rw[he];rcases hro with ⟨_,h⟩|⟨⟨t,rfl⟩,_⟩
    ·exact h
    ·simp[Rt.strip] at e)
   rw[he] at this;exact this
open Go.Proofs
theorem e8(dirs:List Node)(b:Nat)(hd:∀n∈dirs,n.names.l.length≤b):(J5 dirs).length≤dirs.length*b:=by
 have h0:(J5 dirs).length≤(HP (dirs.map (·.names))).length:=List.length_filterMap_le _ _;have h1:(HP (dirs.map (·.names))).length≤ES (dirs.map (·.names)):=by
  unfold HP;rw[List.length_map];exact Nat.le_trans (Q7 _ _) (M3 _ _)
 have h2:∀l:List Node,(∀n∈l,n.names.l.length≤b)→ES (l.map (·.names))≤l.length*b:=by
  intro l
  induction l with
  |nil=>intro _;simp[ES]
  |cons x l ih=>
   intro h;have h3:=ih fun y hy=>h y (by simp[hy])
   have h4:=h x (by simp)
   simp only[ES,List.map_cons,List.sum_cons,List.length_cons,Nat.add_mul] at h3 ⊢;omega
 have h5:=h2 dirs hd;omega
end Go.Av
