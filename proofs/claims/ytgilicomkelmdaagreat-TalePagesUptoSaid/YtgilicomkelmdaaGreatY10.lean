/- Parts of the proofs of this seat: abstract values over the model, and what the functions of the program do. No condition. -/
import Derived.Test.YtgilicomkelmdaaGreatX05e
import Derived.Test.YtgilicomkelmdaaGreatY09
import Derived.Test.YtgilicomkelmdaaGreatY05e
import Derived.Test.YtgilicomkelmdaaGreatXFrz
set_option linter.all false
namespace Go.Av
structure Ent where
 name:Str
 kind:Int
 deriving DecidableEq
@[simp] def Ent.c(x:Ent):List AV:=[.str x.name,.int .i64 x.kind]
def U5(dirs:List Node)(s:Str):Option Ent:=match EB dirs s with|[]=>none|x::_=>some ⟨s,x.kind⟩
def LZ(dirs:List Node):List Ent:=(Hf (dirs.map (·.names))).filterMap (U5 dirs)
theorem find_none_iff{n:Node}(h:n.names.l.length=n.items.length)(s:Str):n.find s=none↔s ∉ n.names.l:=by
 unfold Node.find;cases hk:n.names.l.findIdx? (fun x=>decide (x=s)) with
 |none=>
  simp only[Option.bind_none,true_iff];intro hs;have:=List.findIdx?_eq_none_iff.1 hk s hs;simp at this
 |some k=>
  obtain⟨hlt,h2,_⟩:=List.findIdx?_eq_some_iff_getElem.1 hk;have hx:n.items[k]? =some n.items[k]:=List.getElem?_eq_getElem (by omega)
  simp only[Option.bind_some,hx,false_iff,Decidable.not_not,reduceCtorEq];have:n.names.l[k]=s:=by simpa using h2
  rw[←this];exact List.getElem_mem _
theorem PB:∀{dirs:List Node} {s:Str} {k:Nat} {n y:Node},dirs[k]? =some n→n.find s=some y→(∀(j:Nat) (m:Node),j < k→dirs[j]? =some m→m.find s=none)→∃r,Cz dirs s=y::r
 |[],_,_,_,_,h,_,_=>by simp at h
 |d::dirs,s,0,n,y,h,hy,_=>by
  simp at h;subst h;exact⟨Cz dirs s,by simp only[Cz,List.filterMap_cons,hy]⟩
 |d::dirs,s,k+1,n,y,h,hy,hno=>by
  simp at h;obtain⟨r,hr⟩:=PB h hy fun j m hj hm=>hno (j+1) m (by omega) (by simpa using hm)
  have h0:=hno 0 d (by omega) rfl
  exact⟨r,by rw[←hr];simp only[Cz,List.filterMap_cons,h0]⟩
theorem Z8{dirs:List Node}{s:Str}{y:Node}{r:List Node}(h:Cz dirs s=y::r):U5 dirs s=if y.kind=4 then none else some ⟨s,y.kind⟩:=by
 unfold U5 EB;rw[h];simp only
 by_cases k4:y.kind=4
 ·rw[if_pos k4,if_pos k4]
 ·rw[if_neg k4,if_neg k4]
  by_cases k2:y.kind=2
  ·rw[if_neg (by simp[k2]),List.takeWhile_cons_of_pos (by simp[k2]),Eh]
  ·rw[if_pos k2]
theorem K4:∀(f:Nat) (rs:List Ss),(Ee f rs).length≤f
 |0,rs=>by simp[Ee]
 |f+1,rs=>by
  rw[Ee];cases Hv 0 none rs with
  |none=>simp
  |some p=>have:=K4 f (JZ rs p.1);simp;omega
theorem RH{n:Node}(h:n.allB=true):Sorted n.names.l:=by
 rw[Node.all_eq] at h;simp only[Bool.and_eq_true] at h;obtain⟨hz,hk⟩:=Ic h.2
 by_cases k:n.kind=2
 ·have hn:HZ n=true:=by simpa[Gd,k] using hk
  exact(TD _ _ (Nq hn).1).1
 ·have hnm:n.names.l=[]:=by simp[E4,k] at hz;exact hz.1.1.1.2
  rw[hnm];exact .nil
theorem PL{dirs:List Node}{rows:List Ss}(hl:rows.map (·.l)=dirs.map (fun n=>n.names.l)){k:Nat}{x:Ss}(hx:rows[k]? =some x):∃n,dirs[k]? =some n∧x.l=n.names.l:=by
 have:=congrArg (fun y=>y[k]?) hl
 simp only[List.getElem?_map,hx,Option.map_some] at this;cases hn:dirs[k]? with
 |none=>rw[hn] at this;cases this
 |some n=>rw[hn] at this;exact⟨n,rfl,Option.some.inj this⟩
theorem U7{dirs:List Node}{rows:List Ss}(hl:rows.map (·.l)=dirs.map (fun n=>n.names.l)){k:Nat}{n:Node}(hn:dirs[k]? =some n):∃x,rows[k]? =some x∧x.l=n.names.l:=by
 have:=congrArg (fun y=>y[k]?) hl
 simp only[List.getElem?_map,hn,Option.map_some] at this;cases hx:rows[k]? with
 |none=>rw[hx] at this;cases this
 |some x=>rw[hx] at this;exact⟨x,rfl,Option.some.inj this⟩
theorem Qo{dirs:List Node}{rows:List Ss}(hl:rows.map (·.l)=dirs.map (fun n=>n.names.l))(ha:∀n∈dirs,n.allB=true):∀x∈rows,Sorted x.l:=fun x hx=>by
 obtain⟨k,hk⟩:=List.getElem?_of_mem hx;obtain⟨n,h1,h2⟩:=PL hl hk;rw[h2];exact RH (ha n (List.mem_of_getElem? h1))
theorem WJ{dirs:List Node}{rows:List Ss}(hl:rows.map (·.l)=dirs.map (fun n=>n.names.l))(ha:∀n∈dirs,n.allB=true):Hf rows=Hf (dirs.map (·.names)):=by
 obtain⟨h1,h2⟩:=O6 (Qo hl ha);obtain⟨h3,h4⟩:=O6 (rs:=dirs.map (·.names)) (fun x hx=>by obtain⟨n,hn,rfl⟩:=List.mem_map.1 hx;exact RH (ha n hn))
 refine NT h1 h3 fun s=>?_
 rw[h2,h4];constructor
 ·rintro⟨x,hx,hs⟩;obtain⟨k,hk⟩:=List.getElem?_of_mem hx;obtain⟨n,h5,h6⟩:=PL hl hk;exact⟨n.names,List.mem_map.2 ⟨n,List.mem_of_getElem? h5,rfl⟩,by rw[←h6];exact hs⟩
 ·rintro⟨x,hx,hs⟩;obtain⟨n,hn,rfl⟩:=List.mem_map.1 hx;obtain⟨k,hk⟩:=List.getElem?_of_mem hn;obtain⟨x,h5,h6⟩:=U7 hl hk;exact⟨x,List.mem_of_getElem? h5,by rw[h6];exact hs⟩
theorem ZP{dirs:List Node}{rows:List Ss}(hl:rows.map (·.l)=dirs.map (fun n=>n.names.l))(ha:∀n∈dirs,n.allB=true){it:Item}(hit:it∈DL none (Ee (Dk rows) rows)):
  ∃(k:Nat) (n y:Node),it.row=k∧dirs[k]? =some n∧n.find it.name=some y∧U5 dirs it.name=if y.kind=4 then none else some ⟨it.name,y.kind⟩:=by
 obtain⟨h1,h2⟩:=MR (Dk rows) rows (Qo hl ha) (Nat.le_refl _);obtain⟨h3,h4,h5⟩:=MJ _ none h2 (fun _ e=>by cases e)
 obtain⟨h6,h7,h8⟩:=h4 it hit;obtain⟨k,x,h9,h10,h11⟩:=(h1 it).1 h6;obtain⟨n,h12,h13⟩:=PL hl h9;have hnm:=List.mem_of_getElem? h12;have hlen:=KV (ha n hnm);cases hy:n.find it.name with
 |none=>exact absurd (h13 ▸ h11) ((find_none_iff hlen it.name).1 hy)
 |some y=>
  obtain⟨r,hr⟩:=PB h12 hy fun j m hj hm=>by
   refine(find_none_iff (KV (ha m (List.mem_of_getElem? hm))) it.name).2 fun hmem=>?_
   obtain⟨x',h14,h15⟩:=U7 hl hm;have:=h8 ⟨it.name,j⟩ ((h1 ⟨it.name,j⟩).2 ⟨j,x',h14,rfl,by rw[h15];exact hmem⟩) rfl
   rw[h10] at this;simp at this;omega
  exact⟨k,n,y,h10,h12,hy,Z8 hr⟩
open Go.Proofs
def Uy(σ:List Ss)(n:Nat):List Ss:=σ++List.replicate (n - σ.length) ⟨[],.nil⟩
def Ss.u(x:Ss):List AV:=[.vs 1 (x.l.map DB) x.r]
theorem Ss.u_len(x:Ss):x.u.length=1:=rfl
theorem eb{σ:List Ss}{n i:Nat}(hl:σ.length=i)(hi:i < n):(Uy σ n)[i]? =some ⟨[],.nil⟩:=by
 unfold Uy;rw[List.getElem?_append_right (by omega),List.getElem?_replicate,if_pos (by omega)]
theorem eE{σ:List Ss}{n i:Nat}(hl:σ.length=i)(hi:i < n)(x:Ss):(Uy σ n).set i x=Uy (σ++[x]) n:=by
 unfold Uy;rw[List.set_append_right _ _ (by omega),hl,Nat.sub_self,List.length_append,hl]
 obtain⟨k,hk⟩:∃k,n - i=k+1:=⟨n - i - 1,by omega⟩
 rw[hk,show n - (i+[x].length)=k by simp;omega,List.replicate_succ,List.set_cons_zero]
 simp
theorem bS{σ:List Ss}{n:Nat}(hl:σ.length=n):Uy σ n=σ:=by simp[Uy,hl]
set_option maxRecDepth 100000 in
theorem Pd{w0:World}{S:St}{s:Stk}{p:List Spot}{dirs:List Node}{pr:Rt}(hs:s.ok)(hon:s.on S)(hg:aI s.tabs)(hp:OnP s.tabs p dirs)(hd:∀n∈dirs,n.ok∧n.allB=true∧n.names.l.length≤100000)(hpl:p.length≤64){Q:AV→St→Prop}
  (hq:∀S' r,Sx S S'→okR r (LZ dirs)→Q (.vs 2 ((LZ dirs).map Ent.c) r) S'):AC w0 LJ [.agg s.c,.vs 2 (p.map spC) pr] S Q:=by
 have hc:s.c=[.vs 2 (s.l.map Mnt.c) s.r.strip,.int .i64 s.next]:=rfl;have hpd:=hp.len;rw[hc];apply UE;unfold PE;simp only[←hc];have hmk:∃A S1,DK AX false S (.int .i64 (p.length:Int)) (.int .i64 (p.length:Int))=some (A,S1)∧Sx S S1∧((p=[]∧A= .vs 1 [] (.own Kv))∨(p≠[]∧A= .rs 1 S.length 0 p.length∧S1[S.length]? =some (.cells (Ao Ss.u (Uy [] p.length)++[]) 0))):=by
  have hlim:(p.length:Int)≤lim:=by unfold lim;omega
  by_cases c:p=[]
  ·subst c;exact⟨.vs 1 [] (.own Kv),S,by simp[DK],.refl _,.inl ⟨rfl,rfl⟩⟩
  ·refine⟨.rs 1 S.length 0 p.length,S++[.cells (List.replicate p.length [.vs 1 [] .nil]).flatten 0],by simp[DK,hlim,c],.app _ _,.inr ⟨c,rfl,?_⟩⟩
   have:∀n,(List.replicate n [AV.vs 1 [] .nil]).flatten=Ao Ss.u (List.replicate n ⟨[],.nil⟩):=by
    intro n
    induction n with
    |zero=>rfl
    |succ n ih=>simp only[List.replicate_succ,List.flatten_cons,ih];rfl
   rw[this];simp[Uy]
 obtain⟨A,S1,e1,hx1,hA⟩:=hmk;simp[e1];rw[AF];refine Bl p (fun i (_:List Ss)=>([.int .i64 i],[some s.c])) (fun i σ S'=>Sx S S'∧σ.length=i∧σ.map (·.l)=(dirs.map (fun n=>n.names.l)).take i∧(∀x∈σ,x.r= .nil→x.l=[])∧(p=[]∨S'[S.length]? =some (.cells (Ao Ss.u (Uy σ p.length)++[]) 0))) [] rfl ⟨hx1,rfl,rfl,by simp,hA.imp (·.1) (·.2.2)⟩ ?_ ?_
 ·rintro i σ S' v b x c hxi hdr hcc hmem ⟨hSx,hσl,hσ,hσr,hrow⟩ hv;simp at hv;obtain⟨hv1,hv2⟩:=hv;obtain⟨n,hn,hst⟩:=hp.get hxi;obtain⟨m,a1,a2,a3,a4⟩:=hst.at_;have hnm:=List.mem_of_getElem? hn;have hB:=hon.mono hSx m a2;have hnmz:(BQ m.tab (x.2:Int)).names=n.names.l:=by rw[a3];rfl
  have hpne:p≠[]:=by intro e;rw[e] at hxi;simp at hxi
  have hA2:A= .rs 1 S.length 0 p.length:=by rcases hA with ⟨h,_⟩|⟨_,h,_⟩;exact absurd h hpne;exact h
  have hrow:=hrow.resolve_left hpne;subst hA2;simp[hv1,hv2,hcc,hxi,spC];refine F0 ?_;rw[a1];simp;refine Th hB (by rw[hnmz];have:=(hd n hnm).2.2;omega) (fun r6 hr6=>?_)
  rw[hnmz] at hr6 ⊢;have hst2:=J6 (T:=AX) (enc:=Ss.u) (n:=1) (⟨n.names.l,r6⟩:Ss) hrow rfl Ss.u_len (eb hσl c) (v:=.vs 1 (n.names.l.map DB) r6) rfl rfl;rw[Nat.mul_one,eE hσl c] at hst2;simp[c,hst2]
  try simp (disch:=omega) only[wrap64]
  have hlt:S.length < S'.length:=(List.getElem?_eq_some_iff.1 hrow).1;refine .next c (σ++[⟨n.names.l,r6⟩]) rfl ⟨fun j hj=>?_,by simp[hσl],by rw[List.take_succ,List.getElem?_map,hn,List.map_append,hσ];rfl,fun y hy=>?_,.inr ?_⟩
  ·rw[List.getElem?_set_ne (by omega)];exact hSx j hj
  ·rcases List.mem_append.1 hy with hy|hy
   ·exact hσr y hy
   ·rw[List.mem_singleton] at hy;subst hy;intro e;exact hr6 (by simp only at e;rw[e];rfl)
  ·simp[List.getElem?_set,hlt]
 ·rintro σ S' v b ⟨hSx,hσl,hσ,hσr,hrow⟩ hv N;simp at hv;obtain⟨hv1,hv2⟩:=hv;simp[hv1,hv2];rw[AF];have hσ:σ.map (·.l)=dirs.map (fun n=>n.names.l):=by rw[hσ,List.take_of_length_le (by rw[List.length_map];omega)]
  have hall:∀n∈dirs,n.allB=true:=fun n hn=>(hd n hn).2.1
  have hsl:∀x∈σ,x.l.length≤100000:=fun x hx=>by
   obtain⟨k,hk⟩:=List.getElem?_of_mem hx;obtain⟨n,h1,h2⟩:=PL hσ hk;rw[h2];exact(hd n (List.mem_of_getElem? h1)).2.2
  have htot:Dk σ≤6400000:=by
   have h1:∀(l:List Ss),(∀x∈l,x.l.length≤100000)→Dk l≤l.length*100000:=by
    intro l
    induction l with
    |nil=>intro _;simp[Dk]
    |cons x l ih=>
     intro h;have h2:=ih fun y hy=>h y (by simp[hy])
     have h3:=h x (by simp)
     simp only[Dk,List.map_cons,List.sum_cons,List.length_cons,Nat.add_mul] at h2 ⊢;omega
   have h2:=h1 σ hsl;omega
  have hmerge:∀{Q2:AV→St→Prop},(∀S2,Sx S S2→Q2 (.vs 2 ((Ee (Dk σ) σ).map Item.c) .none) S2)→AC w0 IT [A.strip] S' Q2:=by
   intro Q2 hq2;rcases hA with ⟨hp0,hA⟩|⟨hp0,hA,_⟩
   ·have hσ0:σ=[]:=by
     apply List.eq_nil_of_length_eq_zero;rw[hσl,hp0];rfl
    subst hσ0;rw[hA];exact Oj (rows:=[]) (r:=.none) (by simp) (by simp[Dk]) (by simp) fun S2 h2=>hq2 S2 (hSx.trans h2)
   ·have hrow:=hrow.resolve_left hp0;rw[hA];rw[bS hσl,List.append_nil] at hrow;have hflat:Ao Ss.u σ=(σ.map Ss.u).flatten:=by simp[Ao,List.flatMap]
    rw[hflat] at hrow;refine AL.freeze (pre:=[]) (post:=[]) (n:=p.length) hrow (fun e he=>?_) (by simpa using hσl) ?_
    ·obtain⟨x,_,rfl⟩:=List.mem_map.1 he;exact⟨rfl,by simp[Ss.u]⟩
    ·have hmm:(σ.map Ss.u).map (·.map AV.strip1)=σ.map Ss.c:=by
      rw[List.map_map];apply List.map_congr_left;intro x _;simp[Ss.u,AV.strip1]
     rw[hmm];refine Oj (rows:=σ) (r:=.none) (by omega) (by omega) hσr fun S2 h2=>hq2 S2 fun j hj=>?_
     have hlt:S.length < S'.length:=(List.getElem?_eq_some_iff.1 hrow).1;rw[h2 j (by rw[List.length_set];omega),List.getElem?_set_ne (by omega)]
     exact hSx j hj
  have hAs:A.strip.free=true∧A.strip.strip=A.strip:=by rcases hA with ⟨_,rfl⟩|⟨_,rfl,_⟩<;>exact⟨rfl,rfl⟩
  rw[if_pos hAs.1,hAs.2];simp only[A2];refine hmerge fun S2 hS2=>?_
  simp;refine WA (by have:=K4 (Dk σ) σ;omega) (fun r7 hr7=>?_)
  simp;have hnames:Hf (dirs.map (·.names))=(DL none (Ee (Dk σ) σ)).map (·.name):=(WJ hσ hall).symm;have hlist:LZ dirs=((DL none (Ee (Dk σ) σ)).map (·.name)).filterMap (U5 dirs):=by rw[LZ,hnames]
  have hitem:=fun it hit=>ZP (it:=it) hσ hall hit
  have hfl:(DL none (Ee (Dk σ) σ)).length≤6400000:=Nat.le_trans (Ns _ _) (by have:=K4 (Dk σ) σ;omega)
  generalize DL none (Ee (Dk σ) σ)=items at hnames hlist hitem hfl ⊢;refine Bl items (fun i (σ2:List Ent×Rt)=>([.vs 2 (σ2.1.map Ent.c) σ2.2,.int .i64 i],[some s.c])) (fun i σ2 S'=>S'=S2∧LZ dirs=σ2.1++((items.map (·.name)).drop i).filterMap (U5 dirs)∧okA σ2.2 σ2.1∧σ2.1.length≤i) ([],.nil) rfl ⟨rfl,by rw[hlist];simp,.inl ⟨rfl,rfl⟩,by simp⟩ ?_ ?_
  ·rintro i ⟨out,ro⟩ S3 v2 b2 it c hxi hdr hcc hmem ⟨rfl,he,hro,hol⟩ hv2;simp at hv2 he hro hol;obtain⟨⟨hv9,hv45⟩,hb2⟩:=hv2;obtain⟨k,n,y,q1,q2,q3,q4⟩:=hitem it hmem;have hkp:k < p.length:=by have:=(List.getElem?_eq_some_iff.1 q2).1;omega
   obtain⟨x,hx⟩:∃x,p[k]? =some x:=⟨p[k],List.getElem?_eq_getElem hkp⟩;obtain⟨n',hn',hst⟩:=hp.get hx;rw[q2] at hn';cases hn';obtain⟨P,hP,hat⟩:=hst;obtain⟨m,a1,a2,a3,a4⟩:=(show Stands s.tabs x n from⟨P,hP,hat⟩).at_
   have hnm:=List.mem_of_getElem? q2;have hmt:m.tab=P:=by
    have h1:=hP;unfold Stk.tabs at h1;rw[List.getElem?_map,Option.map_eq_some_iff] at h1;obtain⟨m',h3,h4⟩:=h1;have h5:=(Stk.at_some h3).1;rw[a1] at h5;cases h5;exact h4
   have hlk:=hat.look (hall n hnm) it.name;rw[q3] at hlk;obtain⟨j,hj1,hj2⟩:=hlk;have hB:=hon.mono hS2 m a2;have hgd:(BQ m.tab (x.2:Int)).good:=hg m.tab (by unfold Stk.tabs;exact List.mem_map.2 ⟨m,a2,rfl⟩) _
   have hky:(BQ m.tab (j:Int)).kind=y.kind:=by rw[hmt,hj2.ino];rfl
   have hdr':(items.map (·.name)).drop i=it.name::(items.map (·.name)).drop (i+1):=by rw[←List.map_drop,hdr,List.map_cons,List.map_drop]
   rw[hdr',List.filterMap_cons,q4] at he;have hap:∀S2:St,A3 BM S2 (.vs 2 (out.map Ent.c) ro) (.vs 2 [[.str it.name,.int .i64 y.kind]] .full)=some (.vs 2 ((out++[(⟨it.name,y.kind⟩:Ent)]).map Ent.c) (.own (EE BM ro))):=fun S2=>by
    simp[A3,BN,hro.ne.1,show out.length+1≤lim by unfold lim;omega]
   simp[hv9,hv45,hb2,hcc,hxi,q1,hx,spC];refine F0 ?_;rw[a1];simp;refine NX hB hgd ?_;rw[hmt,hj1];simp;refine NY hB ?_;rw[hky]
   by_cases k4:y.kind=4
   ·rw[if_pos k4] at he;simp[AF,k4]
    try simp (disch:=omega) only[wrap64]
    exact .next c (out,ro) (by simp) ⟨rfl,he,hro,by simp;omega⟩
   ·rw[if_neg k4] at he;simp[AF,k4];simp[hap]
    try simp (disch:=omega) only[wrap64]
    exact .next c (out++[⟨it.name,y.kind⟩],.own (EE BM ro)) (by simp) ⟨rfl,by rw[he];simp,.app,by simp;omega⟩
  ·rintro⟨out,ro⟩ S3 v2 b2 ⟨rfl,he,hro,hol⟩ hv2 N2;have hz:List.drop items.length (items.map (·.name))=[]:=by rw[List.drop_of_length_le];simp
   rw[hz] at he;simp at hv2 he hro;obtain⟨⟨hv9,hv45⟩,hb2⟩:=hv2;simp[hv9,hv45,hb2];have:=hq S3 ro.strip hS2 (fun e=>by
    rw[he];rcases hro with ⟨_,h⟩|⟨⟨t,rfl⟩,_⟩
    ·exact h
    ·simp[Rt.strip] at e)
   rw[he] at this;exact this
open Go.Proofs
theorem UV{w0:World}{S:St}{l:List Ent}{r:Rt}(hl:l.length≤10000000){Q:AV→St→Prop}(hq:∀S' r,Sx S S'→Q (.vs 1 (l.map fun x=>DB x.name) r) S'):AC w0 Jy [.vs 2 (l.map Ent.c) r] S Q:=by
 apply Sp;unfold NZ;have hmk:DK AK false S (.int .i64 0) (.int .i64 (l.length:Int))=some (.vs 1 [] (.own Fq),S):=by
  simp[DK,show (l.length:Int)≤lim by unfold lim;omega]
 simp[hmk,AF];refine Bl l (fun i (ro:Rt)=>([.vs 1 ((l.take i).map fun x=>DB x.name) ro,.int .i64 i],[])) (fun i ro S'=>S'=S∧∃t,ro= .own t) (.own Fq) (by simp) ⟨rfl,_,rfl⟩ ?_ ?_
 ·rintro i ro S' v b x c hxi hd hc hmem ⟨rfl,t,rfl⟩ hv;simp at hv;obtain⟨hv1,hv2⟩:=hv;have htk:l.take (i+1)=l.take i++[x]:=by rw[List.take_succ,hxi];rfl
  have hlen:(l.take i).length=i:=by rw[List.length_take];omega
  have htk2:List.take (i+1) (l.map fun x=>[AV.str x.name])=List.take i (l.map fun x=>[AV.str x.name])++[[AV.str x.name]]:=by rw[←List.map_take,htk,List.map_append,List.map_take];rfl
  have hap:∀S2:St,A3 AK S2 (.vs 1 (List.take i (l.map fun x=>[AV.str x.name])) (.own t)) (.vs 1 [[.str x.name]] .full)=some (.vs 1 (List.take (i+1) (l.map fun x=>[AV.str x.name])) (.own (EE AK (.own t)))):=fun S2=>by
   rw[htk2];simp[A3,BN,show min i l.length+1≤lim by unfold lim;omega]
  simp[hv1,hv2,hc,hxi,hap]
  try simp (disch:=omega) only[wrap64]
  exact .next c (.own (EE AK (.own t))) rfl ⟨rfl,_,rfl⟩
 ·rintro ro S' v b ⟨rfl,t,rfl⟩ hv N;simp at hv;obtain⟨hv1,hv2⟩:=hv;simp[hv1,hv2];have:=hq S' (Rt.strip (.own t)) (Sx.refl _);simpa[Rt.strip] using this
end Go.Av
