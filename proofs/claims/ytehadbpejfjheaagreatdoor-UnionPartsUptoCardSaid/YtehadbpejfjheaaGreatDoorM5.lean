/- Parts of the proofs of this seat: abstract values over the model, and what the functions of the program do. No condition. -/
import Derived.Test.YtehadbpejfjheaaGreatDoorM4
import Derived.Laws.MakeOwn
set_option linter.all false
set_option maxRecDepth 100000
namespace Go.Av
variable {E:Env} {f n:Nat} {Gs G:Gh} {ws w:World} {S:St} {a:Act} {fr:Fr} {before:List Oper}
theorem QM(off:Nat):∀(l:List Value) (k:Nat) (arr:Array Value),off+k+l.length≤arr.size→
  ((l.zipIdx k).foldl (fun cs (p:Value×Nat)=>cs.setIfInBounds (off+p.2) p.1) arr).size=arr.size∧
  ∀m,((l.zipIdx k).foldl (fun cs (p:Value×Nat)=>cs.setIfInBounds (off+p.2) p.1) arr)[m]? =if off+k≤m∧m < off+k+l.length then l[m - (off+k)]? else arr[m]?
 |[],k,arr,_=>by
  refine⟨rfl,fun m=>?_⟩
  have:¬(off+k≤m∧m < off+k+([]:List Value).length):=by simp
  rw[if_neg this];rfl
 |v::l,k,arr,h=>by
  have h':off+(k+1)+l.length≤(arr.setIfInBounds (off+k) v).size:=by simp at h ⊢;omega
  obtain⟨h1,h2⟩:=QM off l (k+1) (arr.setIfInBounds (off+k) v) h';simp only[List.zipIdx_cons,List.foldl_cons];refine⟨by rw[h1];simp,fun m=>?_⟩
  rw[h2];simp at h
  by_cases e1:m=off+k
  ·subst e1;have hlt:off+k < arr.size:=by omega
   simp[hlt];omega
  ·by_cases e2:off+(k+1)≤m∧m < off+(k+1)+l.length
   ·rw[if_pos e2,if_pos (by simp;omega)]
    rw[show m - (off+k)=(m - (off+(k+1)))+1 by omega]
    simp
   ·rw[if_neg e2,if_neg (by simp;omega),Array.getElem?_setIfInBounds_ne (fun e=>e1 e.symm)]
theorem Rv{off:Nat}{v:Value}{cells:Array Value}(h:off+v.cells.size≤cells.size):
  ∃arr,v.cells.zipIdx.foldl (fun cs (c,j)=>cs.setIfInBounds (off+j) c) cells=arr∧arr.size=cells.size∧∀m,arr[m]? =if off≤m∧m < off+v.cells.size then v.cells[m - off]? else cells[m]?:=by
 obtain⟨h1,h2⟩:=QM off v.cells.toList 0 cells (by simpa using h)
 have e:v.cells.zipIdx.foldl (fun cs (c,j)=>cs.setIfInBounds (off+j) c) cells=(v.cells.toList.zipIdx 0).foldl (fun cs (p:Value×Nat)=>cs.setIfInBounds (off+p.2) p.1) cells:=by
  rw[←Array.foldl_toList];simp
 refine⟨_,e,h1,fun m=>?_⟩
 have:=h2 m;simpa using this
theorem AV.strip_free{x:AV}(hf:x.free=true):x.strip.free=true:=by
 rcases AV.free_cases hf with ⟨g1,g2⟩|⟨cs,rfl,g1⟩
 ·rw[AV.strip_of_free1 g1];exact AV.free_of_free1 (by rw[AV.free1_strip1];exact g1)
 ·simp only[AV.strip,AV.strip2,AV.free,List.all_map,List.all_eq_true,Function.comp_apply];intro c hc;rw[AV.free1_strip1];exact g1 c hc
def IP(G:Gh)(arr:Array Value)(cs:List AV):Prop:=
 arr.size=cs.length∧(∀(j:Nat) (x:AV) (v:Value),cs[j]? =some x→arr[j]? =some v→VR G v x)∧∀c∈cs,c.cell1=true
theorem IP.write{arr:Array Value}{cs:List AV}(h:IP G arr cs){v:Value}{x:AV}(hv:VR G v x)(hf:x.free=true){off sz:Nat}(hs:x.cells.length=sz)(hb:off+sz≤cs.length):
  v.cells.size=sz∧∃arr',v.cells.zipIdx.foldl (fun cs (c,j)=>cs.setIfInBounds (off+j) c) arr=arr'∧IP G arr' (De cs off x.strip.cells):=by
 have h1:v.cells.size=sz:=by rw[hv.cells_size hf,hs]
 have h2:x.strip.cells.length=sz:=by rw[AV.length_cells_strip hf,hs]
 have hfs:x.strip.free=true:=by
  rcases AV.free_cases hf with ⟨g1,g2⟩|⟨cs,rfl,g1⟩
  ·rw[AV.strip_of_free1 g1];exact AV.free_of_free1 (by rw[AV.free1_strip1];exact g1)
  ·simp only[AV.strip,AV.strip2,AV.free,List.all_map,List.all_eq_true,Function.comp_apply];intro c hc;rw[AV.free1_strip1];exact g1 c hc
 obtain⟨arr',e1,e2,e3⟩:=Rv (off:=off) (v:=v) (cells:=arr) (by rw[h.1,h1];exact hb)
 refine⟨h1,arr',e1,by rw[e2,h.1,J5 (by rw[h2];exact hb)],fun j y u hy hu=>?_,fun c hc=>?_⟩
 ·rw[De,Dg _ _ _ _ (by rw[h2];exact hb)] at hy
  rw[e3] at hu;rw[h1] at hu;rw[h2] at hy
  by_cases e:off≤j∧j < off+sz
  ·rw[if_pos e] at hy hu;exact hv.strip.cells hfs _ _ _ hy hu
  ·rw[if_neg e] at hy hu;exact h.2.1 j y u hy hu
 ·obtain⟨j,hj⟩:=List.getElem?_of_mem hc;rw[De,Dg _ _ _ _ (by rw[h2];exact hb)] at hj
  split at hj
  ·exact AV.cells_strip_cell1 hf c (List.mem_of_getElem? hj)
  ·exact h.2.2 c (List.mem_of_getElem? hj)
theorem QN{fs:List (Nat×Nat×Nat)}{place:Nat→Option (Nat×Nat)}(hp:∀i fo ty sz,fs[i]? =some (fo,ty,sz)→place i=some (fo,sz)):
  ∀{ps:List (Nat×AV)} {vs:List (Nat×Value)} {arr:Array Value} {cs cs':List AV},ps.length=vs.length→(∀(i:Nat) (p:Nat×AV) (q:Nat×Value),ps[i]? =some p→vs[i]? =some q→p.1=q.1∧VR G q.2 p.2)→
   IP G arr cs→RM fs ps cs=some cs'→∃arr',Instr.fill place arr vs=some arr'∧IP G arr' cs'
 |[],[],arr,cs,cs',_,_,hc,h=>by simp only[RM,Option.some.injEq] at h;subst h;exact⟨arr,rfl,hc⟩
 |(i,x)::ps,(i',v)::vs,arr,cs,cs',hl,hr,hc,h=>by
  obtain⟨rfl,hv⟩:=hr 0 (i,x) (i',v) rfl rfl;simp only[RM] at h;split at h
  ·rename_i fo ty sz hfs;split at h
   ·rename_i hcond;simp only[Bool.and_eq_true,beq_iff_eq,decide_eq_true_eq] at hcond;obtain⟨⟨c1,c2⟩,c3⟩:=hcond;obtain⟨k1,arr',k2,k3⟩:=hc.write hv c1 c2 c3;obtain⟨arr2,k4,k5⟩:=QN (arr:=arr') hp (by simpa using hl) (fun j p q h1 h2=>hr (j+1) p q (by simpa using h1) (by simpa using h2)) k3 h
    refine⟨arr2,?_,k5⟩;simp only[Instr.fill,hp i fo ty sz hfs];have:¬(v.cells.size≠sz||decide (fo+v.cells.size > arr.size))=true:=by
     simp[k1,hc.1];omega
    rw[if_neg this,k2,k4]
   ·cases h
  ·cases h
 |[],_::_,_,_,_,hl,_,_,_=>by simp at hl
 |_::_,[],_,_,_,hl,_,_,_=>by simp at hl
theorem Pz{sz:Nat}:∀{ps:List (Nat×AV)} {vs:List (Nat×Value)} {arr:Array Value} {cs cs':List AV},ps.length=vs.length→(∀(i:Nat) (p:Nat×AV) (q:Nat×Value),ps[i]? =some p→vs[i]? =some q→p.1=q.1∧VR G q.2 p.2)→
   IP G arr cs→Rg sz ps cs=some cs'→∃arr',Instr.fill (fun i=>some (i*sz,sz)) arr vs=some arr'∧IP G arr' cs'
 |[],[],arr,cs,cs',_,_,hc,h=>by simp only[Rg,Option.some.injEq] at h;subst h;exact⟨arr,rfl,hc⟩
 |(i,x)::ps,(i',v)::vs,arr,cs,cs',hl,hr,hc,h=>by
  obtain⟨rfl,hv⟩:=hr 0 (i,x) (i',v) rfl rfl;simp only[Rg] at h;split at h
  ·rename_i hcond;simp only[Bool.and_eq_true,beq_iff_eq,decide_eq_true_eq] at hcond;obtain⟨⟨c1,c2⟩,c3⟩:=hcond;obtain⟨k1,arr',k2,k3⟩:=hc.write hv c1 c2 c3;obtain⟨arr2,k4,k5⟩:=Pz (arr:=arr') (by simpa using hl) (fun j p q h1 h2=>hr (j+1) p q (by simpa using h1) (by simpa using h2)) k3 h
   refine⟨arr2,?_,k5⟩;simp only[Instr.fill];have:¬(v.cells.size≠sz||decide (i*sz+v.cells.size > arr.size))=true:=by
    simp[k1,hc.1];omega
   rw[if_neg this,k2,k4]
  ·cases h
 |[],_::_,_,_,_,hl,_,_,_=>by simp at hl
 |_::_,[],_,_,_,hl,_,_,_=>by simp at hl
theorem Gp(A:Agree E){t:Nat}(ht:E.C.has t=true){i:TypeInfo}{z:Value}(hi:E.P.info? t=some i)(hz:i.zero=some z)(G:Gh):IP G z.cells (E.C.ty t).zero:=by
 obtain⟨i',z',d,h1,h2,h3,h4,h5,h6,h7,h8,h9,h10⟩:=(A.ty t ht).ex;rw[hi] at h1;cases h1;rw[hz] at h4;cases h4;have k:=KT h9;exact⟨by simpa using k.1,fun j x v hx hv=>(k.2 G j v x (by simpa using hv) hx).1,(A.ty t ht).cell⟩
theorem Oa{P:Program}:∀{l:List Field} {m:List (Nat×Nat×Nat)},Ea P l m=true→l.mapM (fun f=>(P.info? f.type).map fun i=>(f.offset,i.size))=some (m.map fun p=>(p.1,p.2.2))
 |[],[],_=>rfl
 |f::l,p::m,h=>by
  simp only[Ea,Bool.and_eq_true,beq_iff_eq] at h;obtain⟨⟨⟨h1,h2⟩,h3⟩,h4⟩:=h;split at h3
  ·rename_i inf hinf;simp only[beq_iff_eq] at h3;simp[List.mapM_cons,hinf,Oa h4,h1,h3]
  ·cases h3
 |[],_::_,h=>by simp[Ea] at h
 |_::_,[],h=>by simp[Ea] at h
theorem VM(A:Agree E){t:Nat}(ht:E.C.has t=true){esz:Nat}(hel:∀n e,(E.C.ty t).kind= .array n e→E.C.has e=true∧esz=(E.C.ty e).size){ps:List (Nat×AV)}{vs:Array (Nat×Value)}(hl:ps.length=vs.size)
  (hr:∀(i:Nat) (p:Nat×AV) (q:Nat×Value),ps[i]? =some p→vs[i]? =some q→p.1=q.1∧VR G q.2 p.2) {r:AV} (h:Ck (E.C.ty t) esz ps=some r):
  ∃v,(Instr.build t vs).run E.P w= .ok v w∧∀κ κc,Bw G w κ κc v r:=by
 obtain⟨i,z,d,h1,h2,h3,h4,h5,h6,h7,h8,h9,h10⟩:=(A.ty t ht).ex;have hcv:=Gp A ht h1 h4 G;have hr':∀(i:Nat) (p:Nat×AV) (q:Nat×Value),ps[i]? =some p→vs.toList[i]? =some q→p.1=q.1∧VR G q.2 p.2:=fun i p q a b=>hr i p q a (by simpa using b)
 have fin:∀(arr:Array Value) (cs:List AV),IP G arr cs→∀κ κc,Bw G w κ κc (.agg arr) (.agg cs):=fun arr cs hc κ κc=>
  .of_agg (.agg cs arr hc.1 hc.2.1) fun c hm=>AV.cell1.own (hc.2.2 c hm)
 unfold Ck at h;split at h
 ·rename_i fs hk;rw[Option.map_eq_some_iff] at h;obtain⟨cs,hcs,rfl⟩:=h;obtain⟨fl,k1,k2⟩:=(A.ty t ht).struct hk;obtain⟨arr',k3,k4⟩:=QN (place:=((fs.map fun p=>(p.1,p.2.2)).toArray[·]?)) (fun i fo ty sz hi=>by simp[hi]) (by simpa using hl) hr' hcv hcs
  refine⟨.agg arr',run_build w t vs arr' ?_,fin arr' cs k4⟩;simp only[Program.built,h1,k1,h4,Oa k2,k3]
 ·rename_i n e hk;rw[Option.map_eq_some_iff] at h;obtain⟨cs,hcs,rfl⟩:=h;obtain⟨he,rfl⟩:=hel n e hk;have k1:=(A.ty t ht).array hk;obtain⟨ie,_,_,q1,q2,_⟩:=(A.ty e he).ex;obtain⟨arr',k3,k4⟩:=Pz (by simpa using hl) hr' hcv hcs
  refine⟨.agg arr',run_build w t vs arr' ?_,fin arr' cs k4⟩;simp only[Program.built,h1,k1,h4,q1,q2,k3]
 ·cases h
theorem Pc{sz:Nat}:∀{vs:List (Nat×Value)} {k:Nat} {arr:Array Value},(∀(i:Nat) (q:Nat×Value),vs[i]? =some q→q.1=k+i∧q.2.cells.size=sz)→(k+vs.length)*sz≤arr.size→
  ∃arr',Instr.fill (fun i=>some (i*sz,sz)) arr vs=some arr'∧arr'.size=arr.size∧(∀m,m < k*sz→arr'[m]? =arr[m]?)∧∀(i:Nat) (q:Nat×Value) (j:Nat),vs[i]? =some q→j < sz→arr'[(k+i)*sz+j]? =q.2.cells[j]?
 |[],k,arr,_,_=>⟨arr,rfl,rfl,fun _ _=>rfl,fun i q j h=>by simp at h⟩
 |(i0,v)::vs,k,arr,h,hb=>by
  obtain⟨h1,h2⟩:=h 0 (i0,v) rfl;simp only[Nat.add_zero] at h1 h2;subst h1;have hb':i0*sz+v.cells.size≤arr.size:=by
   rw[h2];have:(i0+(vs.length+1))*sz=i0*sz+(vs.length+1)*sz:=Nat.add_mul _ _ _;have:sz≤(vs.length+1)*sz:=Nat.le_mul_of_pos_left sz (by omega)
   simp at hb;omega
  obtain⟨arr1,e1,e2,e3⟩:=Rv hb';obtain⟨arr',k1,k2,k3,k4⟩:=Pc (vs:=vs) (k:=i0+1) (arr:=arr1) (fun i q hq=>by
   have:=h (i+1) q (by simpa using hq)
   exact⟨by omega,this.2⟩) (by rw[e2];simp at hb;rwa [show i0+1+vs.length=i0+(vs.length+1) by omega])
  have hexp:(i0+1)*sz=i0*sz+sz:=by rw[Nat.add_mul,Nat.one_mul]
  refine⟨arr',?_,k2.trans e2,fun m hm=>?_,fun i q j hq hj=>?_⟩
  ·simp only[Instr.fill];have:¬(v.cells.size≠sz||decide (i0*sz+v.cells.size > arr.size))=true:=by simp[h2];omega
   rw[if_neg this,e1,k1]
  ·rw[k3 m (by omega),e3,if_neg (by omega)]
  ·cases i with
   |zero=>
    simp at hq;subst hq;rw[Nat.add_zero,k3 _ (by omega),e3,if_pos (by omega)]
    congr 1;omega
   |succ i=>
    have:=k4 i q j (by simpa using hq) hj
    rwa [show i0+1+i=i0+(i+1) by omega] at this
theorem LQ{sz:Nat}:∀{xs:List AV} {es:List (List AV)},Cu sz xs=some es→xs.length=es.length∧∀(i:Nat) (x:AV),xs[i]? =some x→x.free=true∧x.cells.length=sz∧es[i]? =some x.strip.cells
 |[],es,h=>by simp only[Cu,Option.some.injEq] at h;subst h;exact⟨rfl,fun i x h=>by simp at h⟩
 |x::xs,es,h=>by
  simp only[Cu] at h;split at h
  ·rename_i hc;rw[Option.map_eq_some_iff] at h;obtain⟨es',h1,rfl⟩:=h;obtain⟨k1,k2⟩:=LQ h1;refine⟨by simp[k1],fun i y hy=>?_⟩
   cases i with
   |zero=>simp at hy;subst hy;exact⟨hc.1,hc.2,rfl⟩
   |succ i=>simpa using k2 i y (by simpa using hy)
  ·cases h
theorem RF.newRow(h:RF E f n Gs ws G w S a fr before){arr:Array Value}{e:Nat}{es:List (List AV)}{sz cap:Nat}(g:Nat→Nat→Value)(κ:Key)(r:Rt)(hr:r≠ .nil)(hκ:(∀id,κ≠ .obj id)∧∀t,κ≠ .lbox t)(hcap:es.length≤cap)(hsz:arr.size=cap*sz)
  (hf:r= .full→cap=es.length) (hs:∀e∈es,e.length=sz∧∀x∈e,x.cell1=true)
  (ht:∀t,r= .own t→t≠0→e=t)
  (hg:∀(i:Nat) (e:List AV) (j:Nat) (x:AV),es[i]? =some e→e[j]? =some x→arr[i*sz+j]? =some (g i j)∧VR G (g i j) x):
  ∃G',RF E f n Gs ws G' (w.alloc (.cells arr e)) S a fr before∧Bw G' (w.alloc (.cells arr e)) κ (fun _=>.ext) (.slice (some ⟨w.heap.size,0,none⟩) es.length cap) (.vs sz es r)∧G.Le G':=by
 have hle:∀i j,i < es.length→j < sz→i*sz+j < es.length*sz:=fun i j hi hj=>by
  have:(i+1)*sz≤es.length*sz:=Nat.mul_le_mul_right _ hi;rw[Nat.add_mul,Nat.one_mul] at this;omega
 let m:Nat→Option Value:=fun o=>if o < es.length*sz then arr[o]? else none
 have hrf:=h.alloc (.cells arr e) m κ (fun j v hj=>by
  simp only[m] at hj;split at hj
  ·rw[World.cell?_alloc_new];exact hj
  ·cases hj) (fun hc=>by rcases hc with ⟨id,e⟩|⟨t,e⟩;exact(hκ.1 id e).elim;exact(hκ.2 t e).elim)
 have hLe:G.Le (G.new w.heap.size m κ):=(Chg.new h.rel (.cells arr e) m κ (fun _=>False)).le
 refine⟨_,hrf,⟨?_,fun ho=>?_,by simp,by simp,by simp⟩,hLe⟩
 ·refine .vs w.heap.size 0 cap sz es r g hr hcap hf hs (fun i e' j x h1 h2=>?_) (fun i e' j x h1 h2=>(hg i e' j x h1 h2).2.mono hLe)
  have hi:i < es.length:=(List.getElem?_eq_some_iff.1 h1).1;have hj:j < sz:=by
   rw[←(hs e' (List.mem_of_getElem? h1)).1];exact(List.getElem?_eq_some_iff.1 h2).1
  simp only[Gh.new,if_true,Nat.zero_add,m];rw[if_pos (hle i j hi hj)];exact(hg i e' j x h1 h2).1
 ·obtain⟨t,rfl⟩:∃t,r= .own t:=by cases r<;>simp_all [AV.own]
  exact⟨w.heap.size,0,es.length,cap,rfl,sz,es,t,rfl,rfl,by simp[Gh.new],⟨arr,e,heap_alloc_new w _,by rw[hsz];omega,ht t rfl⟩,.inr fun j hj=>by
   simp only[Gh.new,if_true,m];rw[if_neg (by omega)]⟩
theorem run_buildSlice(A:Agree E){t e:Nat}(ht:E.C.has t=true)(he:E.C.has e=true)(hk:(E.C.ty t).kind= .slice e)(h:RF E f n Gs ws G w S a fr before){len:Nat}{ps:List (Nat×AV)}{vs:Array (Nat×Value)}(hl:ps.length=vs.size)
  (hr:∀(i:Nat) (p:Nat×AV) (q:Nat×Value),ps[i]? =some p→vs[i]? =some q→p.1=q.1∧VR G q.2 p.2) (hrange:ps.map (·.1)=List.range len) (hlen:len≤1000)
  {es:List (List AV)} (hes:Cu (E.C.ty e).size (ps.map (·.2))=some es):
  ∃v w' G',(Instr.buildSlice t len vs).run E.P w= .ok v w'∧RF E f n Gs ws G' w' S a fr before∧∀κ κc,Bw G' w' κ κc v (.vs (E.C.ty e).size es .full):=by
 obtain⟨k1,k2⟩:=LQ hes;have hplen:ps.length=len:=by have:=congrArg List.length hrange;simpa using this
 have hesl:es.length=len:=by rw[←k1];simpa using hplen
 have hul:=(A.ty t ht).slice hk;obtain⟨i,z,d,h1,h2,h3,h4,h5,h6,h7,h8,h9,h10⟩:=(A.ty e he).ex;have hszb:=(A.ty e he).cells;have hbig:¬(len*(E.C.ty e).size > 16777216):=by
  have:len*(E.C.ty e).size≤1000*1400:=Nat.mul_le_mul hlen hszb;omega
 have hv:∀(i:Nat) (q:Nat×Value),vs.toList[i]? =some q→q.1=0+i∧q.2.cells.size=(E.C.ty e).size:=by
  intro i q hq;have hi:i < ps.length:=by rw[hl];simpa using (List.getElem?_eq_some_iff.1 hq).1
  have hp:ps[i]? =some ps[i]:=List.getElem?_eq_getElem hi;obtain⟨c1,c2⟩:=hr i _ q hp (by simpa using hq)
  have c3:(ps.map (·.1))[i]? =some i:=by rw[hrange,List.getElem?_range (by omega)]
  have c4:(ps.map (·.1))[i]? =some ps[i].1:=by simp[hi]
  rw[c4] at c3;simp only[Option.some.injEq] at c3;obtain⟨d1,d2,d3⟩:=k2 i ps[i].2 (by simp[hi])
  exact⟨by rw[←c1];omega,by rw[c2.cells_size d1,d2]⟩
 have hpi:∀(i:Nat) (el:List AV),es[i]? =some el→∃p,ps[i]? =some p∧p.2.free=true∧p.2.cells.length=(E.C.ty e).size∧el=p.2.strip.cells:=by
  intro i el hi;have hlt:i < ps.length:=by
   have:i < es.length:=(List.getElem?_eq_some_iff.1 hi).1;omega
  obtain⟨d1,d2,d3⟩:=k2 i ps[i].2 (by simp[hlt])
  rw[hi] at d3;simp only[Option.some.injEq] at d3;exact⟨ps[i],List.getElem?_eq_getElem hlt,d1,d2,d3⟩
 let zz:Array Value:=if len*(E.C.ty e).size=0 then #[] else z.cells
 let arr0:Array Value:=(Array.range (len*(E.C.ty e).size)).map (zz[· % zz.size]!)
 have harr0:arr0.size=len*(E.C.ty e).size:=by simp[arr0]
 obtain⟨arr',f1,f2,_,f4⟩:=Pc (k:=0) (arr:=arr0) hv (by simp[harr0,←hl,hplen])
 obtain⟨G',r1,r2,r3⟩:=h.newRow (arr:=arr') (e:=e) (es:=es) (sz:=(E.C.ty e).size) (cap:=len) (fun i j=>arr'.getD (i*(E.C.ty e).size+j) undef) .ext .full (by simp) ⟨by simp,by simp⟩ (by omega) (by rw[f2,harr0]) (fun _=>hesl.symm)
  (fun el hel=>by
   obtain⟨i,hi⟩:=List.getElem?_of_mem hel;obtain⟨p,hp,d1,d2,d3⟩:=hpi i el hi;subst d3;exact⟨by rw[AV.length_cells_strip d1,d2],AV.cells_strip_cell1 d1⟩) (by simp)
  (fun i el j x hi hj=>by
   obtain⟨p,hp,d1,d2,d3⟩:=hpi i el hi;subst d3;have hlt':i < ps.length:=(List.getElem?_eq_some_iff.1 hp).1;have hj':j < (E.C.ty e).size:=by
    rw[←d2,←AV.length_cells_strip d1];exact(List.getElem?_eq_some_iff.1 hj).1
   have hltv:i < vs.size:=by omega
   have hq:vs[i]? =some vs[i]:=by simp[hltv]
   obtain⟨c1,c2⟩:=hr i _ _ hp hq;have hget:=f4 i vs[i] j (by simpa using hq) hj'
   rw[Nat.zero_add] at hget;have hsz:j < vs[i].2.cells.size:=by rw[c2.cells_size d1,d2];exact hj'
   have hgv:vs[i].2.cells[j]? =some vs[i].2.cells[j]:=by simp[hsz]
   rw[hgv] at hget;have e6:arr'.getD (i*(E.C.ty e).size+j) undef=vs[i].2.cells[j]:=by rw[Array.getD_eq_getD_getElem?,hget];rfl
   rw[e6];exact⟨hget,c2.strip.cells (AV.strip_free d1) j x _ hj hgv⟩)
 refine⟨.slice (some ⟨w.heap.size,0,none⟩) len len,_,G',?_,r1,fun κ κc=>?_⟩
 ·simp only[Instr.buildSlice,Sem.run_bind,run_underlying hul,Result.andThen_ok,run_sizeOf A he,show (2:Nat) ^ 24=16777216 from rfl,if_neg hbig,Sem.run_pure]
  by_cases h0:len*(E.C.ty e).size=0
  ·simp only[if_pos h0,Sem.run_pure,Result.andThen_ok];have:zz=#[]:=by simp[zz,h0]
   simp only[arr0,this] at f1;simp only[f1,newRow,Sem.run_bind,run_newObj,Result.andThen_ok,Sem.run_pure,World.alloc_eq]
  ·have hzv:(zeroValue e).run E.P w= .ok z w:=by simp[zeroValue,typeInfo,h1,h4]
   simp only[if_neg h0,Sem.run_bind,hzv,Sem.run_pure,Result.andThen_ok];have:zz=z.cells:=by simp[zz,h0]
   simp only[arr0,this] at f1;simp only[f1,newRow,Sem.run_bind,run_newObj,Result.andThen_ok,Sem.run_pure,World.alloc_eq]
 ·rw[hesl] at r2;exact .of_cell1 r2.vr rfl
variable {E:Env} {f n:Nat} {Gs G:Gh} {ws w:World} {S:St} {a:Act} {fr:Fr} {before:List Oper}
theorem RF.putBox(h:RF E f n Gs ws G w S a fr before){o:Oper}{d:Nat}(ho:o.dst=some d)(hd:d < n)(hloc:E.C.loc f d=true){b:Nat}{cs:List AV}{arr:Array Value}{e:Nat}
  (hr:G.role b= .lbox d) (hb:w.heap[b]? =some (.cells arr e (0,0))) (hrow:D4 G w (.bcell d) arr cs):
  RF E f n Gs ws G w S (a.put o.dst (.pointer (some ⟨b,0,none⟩))) ((fr.setB d (some cs)).set d .undef) (o::before):=by
 have hat:=fun t=>Act.at_put h.frr.size (dst:=o.dst) (v:=.pointer (some ⟨b,0,none⟩)) (fun d' e'=>by rw[ho] at e';cases e';exact hd) t
 refine⟨h.rel,⟨by rw[Act.defers_put];exact h.frr.defers,by rw[Act.size_put];exact h.frr.size,fun t=>?_,fun t cs' hb'=>?_⟩,h.kept,fun x b' off hx cs' hcs=>?_⟩
 ·rw[hat];simp only[Fr.set,Fr.setB]
  by_cases e1:t=d
  ·subst e1;simp only[if_true];exact .undef _
  ·have:o.dst≠some t:=by rw[ho];simpa using Ne.symm e1
   simp only[this,if_false,e1];exact h.frr.slot t
 ·rw[hat];simp only[Fr.set,Fr.setB] at hb'
  by_cases e1:t=d
  ·subst e1;simp only[if_true,Option.some.injEq] at hb';subst hb';rw[if_pos ho];exact⟨hloc,b,arr,e,rfl,hr,hb,hrow⟩
  ·simp only[e1,if_false] at hb';have:o.dst≠some t:=by rw[ho];simpa using Ne.symm e1
   rw[if_neg this];exact h.frr.box t cs' hb'
 ·have hboxes:∀t ds,((fr.setB d (some cs)).set d .undef).b t=some ds→∃b2,Act.at (a.put o.dst (.pointer (some ⟨b,0,none⟩))) t= .pointer (some ⟨b2,0,none⟩):=fun t ds hds=>by
   rw[hat]
   by_cases e1:t=d
   ·subst e1;rw[if_pos ho];exact⟨b,rfl⟩
   ·have:o.dst≠some t:=by rw[ho];simpa using Ne.symm e1
    rw[if_neg this];simp only[Fr.set,Fr.setB,e1,if_false] at hds;exact h.hbox t ds hds
  simp only[AD] at hx;split at hx
  ·cases hx;obtain⟨blk,hblk⟩:=hboxes _ _ hcs;exact⟨blk,hblk,hblk⟩
  ·rename_i hnl;split at hx
   ·rename_i hde;rw[Ej,ho] at hde;cases hde;rw[hloc] at hnl;cases hnl
   ·rename_i hde;split at hx
    ·rename_i b1 off1 h1;split at hx
     ·cases hx
     ·rename_i hdb;cases hx;have hne:o.dst≠some b':=fun e=>by rw[Ej.2 e] at hdb;cases hdb
      have hnx:o.dst≠some x:=fun e=>by rw[Ej.2 e] at hde;cases hde
      have hb'd:b'≠d:=fun e=>hne (by rw[ho,e])
      rw[hat b',hat x,if_neg hne,if_neg hnx];simp only[Fr.set,Fr.setB,hb'd,if_false] at hcs;exact h.pr x b' off h1 cs' hcs
    ·cases hx
theorem I8{P:Program}{w:World}(t:Nat)(v:Value):(newVar t v).run P w= .ok ⟨w.heap.size,0,none⟩ (w.alloc (.cells v.cells t)):=by
 simp[newVar,newRow]
theorem R1{κ:Nat→Key}{arr:Array Value}{cs:List AV}(h:IP G arr cs):D4 G w κ arr cs:=
 ⟨by rw[h.1];exact Nat.le_refl _,fun j x v hx hv=>⟨h.2.1 j x v hx hv,AV.cell1.free1 (h.2.2 x (List.mem_of_getElem? hx)),.of_not (AV.cell1.own (h.2.2 x (List.mem_of_getElem? hx)))⟩⟩
theorem RF.allocLoc(A:Agree E)(h:RF E f n Gs ws G w S a fr before){o:Oper}{d t:Nat}(ho:o.dst=some d)(hd:d < n)(hloc:E.C.loc f d=true)(ht:E.C.has t=true):
  ∃v w' G',(Instr.alloc t true (.tuple #[])).run E.P w= .ok v w'∧RF E f n Gs ws G' w' S (a.put o.dst v) ((fr.setB d (some (E.C.ty t).zero)).set d .undef) (o::before):=by
 obtain⟨i,z,dd,h1,h2,h3,h4,h5,h6,h7,h8,h9,h10⟩:=(A.ty t ht).ex;have hzv:(zeroValue t).run E.P w= .ok z w:=by simp[zeroValue,typeInfo,h1,h4]
 have hrun:(Instr.alloc t true (.tuple #[])).run E.P w= .ok (.pointer (some ⟨w.heap.size,0,none⟩)) (w.alloc (.cells z.cells t)):=by
  simp only[Instr.alloc,Sem.run_bind,hzv,Result.andThen_ok,I8,Sem.run_pure]
 have hrf:=h.alloc (.cells z.cells t) (fun _=>none) (.lbox d) (fun j v hj=>by cases hj) (fun _ _=>rfl)
 refine⟨_,_,_,hrun,hrf.putBox ho hd hloc (by simp[Gh.new]) (World.alloc_new w _) (R1 (Gp A ht h1 h4 _))⟩
theorem RF.allocObj(A:Agree E)(h:RF E f n Gs ws G w S a fr before){o:Oper}{d t:Nat}(ho:o.dst=some d)(hd:d < n)(hloc:E.C.loc f d=false)(ht:E.C.has t=true)(hop:BF E.C (fun y=>AD E.C f y before) o.op=none):
  ∃v w' G',(Instr.alloc t true (.tuple #[])).run E.P w= .ok v w'∧RF E f n Gs ws G' w' (S++[.cells (E.C.ty t).zero t]) (a.put o.dst v) (fr.set d (.ptr S.length 0)) (o::before):=by
 obtain⟨i,z,dd,h1,h2,h3,h4,h5,h6,h7,h8,h9,h10⟩:=(A.ty t ht).ex;have hzv:(zeroValue t).run E.P w= .ok z w:=by simp[zeroValue,typeInfo,h1,h4]
 have hrun:(Instr.alloc t true (.tuple #[])).run E.P w= .ok (.pointer (some ⟨w.heap.size,0,none⟩)) (w.alloc (.cells z.cells t)):=by
  simp only[Instr.alloc,Sem.run_bind,hzv,Result.andThen_ok,I8,Sem.run_pure]
 have hrf:=h.alloc (.cells z.cells t) (fun _=>none) (.obj S.length) (fun j v hj=>by cases hj) (fun _ _=>rfl)
 have hrf2:=hrf.addObj (b:=w.heap.size) (by simp) (.cells (E.C.ty t).zero t) ⟨w.heap.size,z.cells,t,by simp[Gh.obj],by simp[Gh.obj,Gh.new],World.alloc_new w _,R1 (Gp A ht h1 h4 _),fun _=>⟨rfl,(Gp (G:=G) A ht h1 h4).1⟩⟩
 have:=hrf2.put (o:=o) (v:=.pointer (some ⟨w.heap.size,0,none⟩)) (x:=.ptr S.length 0) (fun d' e=>by rw[ho] at e;cases e;exact⟨hd,hloc⟩)
  (fun d' e=>.of_cell1 (.ptr _ _ _ (by simp[Gh.obj])) rfl) (fun d' e b off hx=>by rw[hop] at hx;cases hx)
 have e2:∀fr':Fr,fr'.put o.dst (.ptr S.length 0)=fr'.set d (.ptr S.length 0):=fun _=>by rw[ho];rfl
 rw[e2] at this;exact⟨_,_,_,hrun,this⟩
theorem RW{ti:TI}{x:AV}{cs:List AV}(h:Du ti x=some cs):x.free=true∧x.cells.length=ti.size∧cs=x.cells:=by
 unfold Du at h;split at h
 ·rename_i hc;cases h;exact⟨hc.1,hc.2,rfl⟩
 ·cases h
theorem PW{κ:Nat→Key}{κ0:Key}{κc:Nat→Key}{v:Value}{x:AV}(h:Bw G w κ0 κc v x)(hf:x.free=true)(h0:κ 0=κ0):D4 G w κ v.cells x.cells:=
 ⟨by rw[h.vr.cells_size hf];exact Nat.le_refl _,fun j c u hc hu=>h.cellsR hf j c u hc hu _ (by rintro rfl;exact h0)⟩
theorem RF.boxLoc(h:RF E f n Gs ws G w S a fr before){o:Oper}{d t:Nat}(x:Operand)(ho:o.dst=some d)(hd:d < n)(hloc:E.C.loc f d=true){cs:List AV}(hc:Du (E.C.ty t) (opd E.C fr t x)=some cs):
  ∃v w' G',(Instr.box t (a.eval x)).run E.P w= .ok v w'∧RF E f n Gs ws G' w' S (a.put o.dst v) (((fr.stripAt x).setB d (some cs)).set d .undef) (o::before):=by
 obtain⟨hf,hl,rfl⟩:=RW hc;have hrun:(Instr.box t (a.eval x)).run E.P w= .ok (.pointer (some ⟨w.heap.size,0,none⟩)) (w.alloc (.cells (a.eval x).cells t)):=by
  simp only[Instr.box,Sem.run_bind,I8,Result.andThen_ok,Sem.run_pure]
 obtain⟨G1,κc,k1,k2,k3,_⟩:=h.giveTo x t (κ:=.bcell d 0) (by simp) (by simp)
 have hrf:=k1.alloc (.cells (a.eval x).cells t) (fun _=>none) (.lbox d) (fun j v hj=>by cases hj) (fun _ _=>rfl)
 have hc:=Chg.new k1.rel (.cells (a.eval x).cells t) (fun _=>none) (.lbox d) (fun _=>False)
 refine⟨_,_,_,hrun,hrf.putBox ho hd hloc (by simp[Gh.new]) (World.alloc_new w _) ((PW k3 hf rfl).chg hc (fun _=>id))⟩
theorem RF.boxObj(h:RF E f n Gs ws G w S a fr before){o:Oper}{d t:Nat}(x:Operand)(ho:o.dst=some d)(hd:d < n)(hloc:E.C.loc f d=false)(hop:BF E.C (fun y=>AD E.C f y before) o.op=none)
  {cs:List AV} (hc:Du (E.C.ty t) (opd E.C fr t x)=some cs):
  ∃v w' G',(Instr.box t (a.eval x)).run E.P w= .ok v w'∧RF E f n Gs ws G' w' (S++[.cells cs t]) (a.put o.dst v) ((fr.stripAt x).set d (.ptr S.length 0)) (o::before):=by
 obtain⟨hf,hl,rfl⟩:=RW hc;have hrun:(Instr.box t (a.eval x)).run E.P w= .ok (.pointer (some ⟨w.heap.size,0,none⟩)) (w.alloc (.cells (a.eval x).cells t)):=by
  simp only[Instr.box,Sem.run_bind,I8,Result.andThen_ok,Sem.run_pure]
 obtain⟨G1,κc,k1,k2,k3,_⟩:=h.giveTo x t (κ:=.ocell S.length 0) (by simp) (by simp)
 have hrf:=k1.alloc (.cells (a.eval x).cells t) (fun _=>none) (.obj S.length) (fun j v hj=>by cases hj) (fun _ _=>rfl)
 have hc:=Chg.new k1.rel (.cells (a.eval x).cells t) (fun _=>none) (.obj S.length) (fun _=>False)
 have hle:(G1.new w.heap.size (fun _=>none) (.obj S.length)).Le ((G1.new w.heap.size (fun _=>none) (.obj S.length)).obj S.length w.heap.size):=
  ⟨fun _ _ _ e=>e,fun id b' e=>by
   have:=(hrf.rel.rho id b' e).1;simp[Gh.obj,Nat.ne_of_lt this,e],fun _=>Nat.le_refl _⟩
 have hc2:Chg (fun _=>False) (G1.new w.heap.size (fun _=>none) (.obj S.length)) (w.alloc (.cells (a.eval x).cells t)) ((G1.new w.heap.size (fun _=>none) (.obj S.length)).obj S.length w.heap.size) (w.alloc (.cells (a.eval x).cells t)):=
  ⟨hle,Nat.le_refl _,fun _ _ _=>⟨rfl,rfl,fun _=>rfl⟩⟩
 have hrf2:=hrf.addObj (b:=w.heap.size) (by simp) (.cells (opd E.C fr t x).cells t) ⟨w.heap.size,_,t,by simp[Gh.obj],by simp[Gh.obj,Gh.new],World.alloc_new w _,(((PW k3 hf rfl).chg hc (fun _=>id)).chg hc2 (fun _=>id)),fun _=>⟨rfl,k3.vr.cells_size hf⟩⟩
 have:=hrf2.put (o:=o) (v:=.pointer (some ⟨w.heap.size,0,none⟩)) (x:=.ptr S.length 0) (fun d' e=>by rw[ho] at e;cases e;exact⟨hd,hloc⟩)
  (fun d' e=>.of_cell1 (.ptr _ _ _ (by simp[Gh.obj])) rfl) (fun d' e b off hx=>by rw[hop] at hx;cases hx)
 have e2:∀fr':Fr,fr'.put o.dst (.ptr S.length 0)=fr'.set d (.ptr S.length 0):=fun _=>by rw[ho];rfl
 rw[e2] at this;exact⟨_,_,_,hrun,this⟩
variable {E:Env} {f n:Nat} {Gs G:Gh} {ws w:World} {S:St} {a:Act} {fr:Fr} {before:List Oper}
theorem H9{α:Type}{sz:Nat}:∀{ys:List (List α)},(∀e∈ys,e.length=sz)→ys.flatten.length=ys.length*sz∧∀(i:Nat) (e:List α) (j:Nat),ys[i]? =some e→j < sz→ys.flatten[i*sz+j]? =e[j]?
 |[],_=>⟨by simp,fun i e j h=>by simp at h⟩
 |y::ys,h=>by
  obtain⟨h1,h2⟩:=H9 (ys:=ys) (fun e he=>h e (List.mem_cons_of_mem _ he))
  have hy:=h y (by simp)
  refine⟨by simp only[List.flatten_cons,List.length_append,h1,hy,List.length_cons,Nat.add_mul,Nat.one_mul];omega,fun i e j hi hj=>?_⟩
  rw[List.flatten_cons];cases i with
  |zero=>simp at hi;subst hi;simp;rw[List.getElem?_append_left (by omega)]
  |succ i=>
   have e1:(i+1)*sz=sz+i*sz:=by rw[Nat.add_mul,Nat.one_mul];omega
   rw[List.getElem?_append_right (by omega),hy,show (i+1)*sz+j - sz=i*sz+j by omega]
   exact h2 i e j (by simpa using hi) hj
structure Ed(G:Gh)(sz:Nat)(news:List Value)(ys:List (List AV)):Prop where
 len:news.length=ys.length*sz
 cell:∀e∈ys,e.length=sz∧∀x∈e,x.cell1=true
 vr:∀(i:Nat) (e:List AV) (j:Nat) (x:AV),ys[i]? =some e→e[j]? =some x→∃v,news[i*sz+j]? =some v∧VR G v x
theorem Ed.flat{sz:Nat}{news:List Value}{ys:List (List AV)}(h:Ed G sz news ys):news.length=ys.flatten.length∧∀(k:Nat) (x:AV) (v:Value),ys.flatten[k]? =some x→news[k]? =some v→VR G v x∧x.cell1=true:=by
 obtain⟨h1,h2⟩:=H9 (ys:=ys) (fun e he=>(h.cell e he).1)
 refine⟨by rw[h.len,h1],fun k x v hx hv=>?_⟩
 have hk:k < ys.length*sz:=by rw[←h1];exact(List.getElem?_eq_some_iff.1 hx).1
 have hsz:0 < sz:=by rcases Nat.eq_zero_or_pos sz with e|e;(rw[e] at hk;simp at hk);exact e
 have hi:k / sz < ys.length:=by rw[Nat.div_lt_iff_lt_mul hsz];exact hk
 have hj:k % sz < sz:=Nat.mod_lt _ hsz;have hkk:k / sz*sz+k % sz=k:=by rw[Nat.mul_comm];exact Nat.div_add_mod k sz
 have hel:ys[k / sz]? =some ys[k / sz]:=List.getElem?_eq_getElem hi;have:=h2 (k / sz) _ (k % sz) hel hj;rw[hkk,hx] at this;obtain⟨v',k1,k2⟩:=h.vr (k / sz) _ (k % sz) x hel this.symm;rw[hkk,hv] at k1;cases k1;exact⟨k2,(h.cell _ (List.getElem_mem hi)).2 x (List.mem_of_getElem? this.symm)⟩
theorem Ed.oneCell{sz:Nat}{news:List Value}{ys:List (List AV)}(h:Ed G sz news ys):∀u∈news,u.oneCell'=true:=by
 intro u hu;obtain⟨k,hk⟩:=List.getElem?_of_mem hu;obtain⟨h1,h2⟩:=h.flat;have hlt:k < ys.flatten.length:=by rw[←h1];exact(List.getElem?_eq_some_iff.1 hk).1
 obtain⟨h3,h4⟩:=h2 k _ u (List.getElem?_eq_getElem hlt) hk;exact h3.oneCell (AV.cell1.free1 h4)
theorem Ed.mono{G':Gh}(hl:G.Le G'){sz:Nat}{news:List Value}{ys:List (List AV)}(h:Ed G sz news ys):Ed G' sz news ys:=
 ⟨h.len,h.cell,fun i e j x h1 h2=>by obtain⟨v,k1,k2⟩:=h.vr i e j x h1 h2;exact⟨v,k1,k2.mono hl⟩⟩
theorem OK{sz:Nat}:∀{n:Nat} {l:List AV},n*sz≤l.length→(chunks sz n l).length=n∧∀(i:Nat) (e:List AV),(chunks sz n l)[i]? =some e→e.length=sz∧∀(j:Nat) (x:AV),e[j]? =some x→∃y,l[i*sz+j]? =some y∧x=y.strip1
 |0,l,_=>⟨rfl,fun i e h=>by simp[chunks] at h⟩
 |n+1,l,h=>by
  have hm:(n+1)*sz=sz+n*sz:=by rw[Nat.add_mul,Nat.one_mul];omega
  obtain⟨h1,h2⟩:=OK (sz:=sz) (n:=n) (l:=l.drop sz) (by simp;omega)
  refine⟨by simp[chunks,h1],fun i e hi=>?_⟩
  cases i with
  |zero=>
   simp[chunks] at hi;subst hi;refine⟨by simp;omega,fun j x hx=>?_⟩
   rw[List.getElem?_take] at hx;split at hx
   ·rw[List.getElem?_map,Option.map_eq_some_iff] at hx;obtain⟨y,hy,rfl⟩:=hx;exact⟨y,by simpa using hy,rfl⟩
   ·cases hx
  |succ i=>
   obtain⟨h3,h4⟩:=h2 i e (by simpa[chunks] using hi)
   refine⟨h3,fun j x hx=>?_⟩
   obtain⟨y,hy,e1⟩:=h4 j x hx;rw[List.getElem?_drop] at hy;refine⟨y,?_,e1⟩;rw[show (i+1)*sz+j=sz+(i*sz+j) by rw[Nat.add_mul,Nat.one_mul];omega];exact hy
theorem Hy{P:Program}{w w':World}(hh:w'.heap=w.heap){ad:Addr}{cs:List Value}(h:∀j v,cs[j]? =some v→w.cell? (ad.add j)=some v):
  (loadCells ad cs.length).run P w'= .ok cs.toArray w':=
 run_loadCells_list w' ad cs fun j v hj=>by rw[←h j v hj];simp[World.cell?,hh]
theorem Hs(hr:Rel E G w S){sz:Nat}{v:Value}{x:AV}{ys:List (List AV)}(hv:VR G v x)(h:CH S sz x=some ys):
  ∃news,Ed G sz news ys∧(∀P w',(Builtin.lenOf v).run P w'= .ok ys.length w')∧(∀P w',w'.heap=w.heap→(Builtin.firstCells sz ys.length v).run P w'= .ok news.toArray w')∧
   ∀m,m≤ys.length→∀P w',w'.heap=w.heap→(Builtin.firstCells sz m v).run P w'= .ok (news.take (m*sz)).toArray w':=by
 have gen:∀(ad:Addr) (len cap:Nat) (news:List Value),(∀j u,news[j]? =some u→w.cell? (ad.add j)=some u)→news.length=ys.length*sz→
   ∀m,m≤ys.length→∀P w',w'.heap=w.heap→(Builtin.firstCells sz m (.slice (some ad) len cap)).run P w'= .ok (news.take (m*sz)).toArray w':=by
  intro ad len cap news hc hl m hm P w' hh;have hle:m*sz≤news.length:=by rw[hl];exact Nat.mul_le_mul_right _ hm
  have:=Hy (P:=P) (w:=w) (w':=w') hh (ad:=ad) (cs:=news.take (m*sz)) (fun j u hj=>by
   rw[List.getElem?_take] at hj;split at hj
   ·exact hc j u hj
   ·cases hj)
  rw[List.length_take,Nat.min_eq_left hle] at this;simpa[Builtin.firstCells] using this
 cases hv with
 |str s=>
  simp only[CH] at h;split at h
  ·rename_i h1;subst h1;cases h;refine⟨s.map fun c=>.int .u8 c.toNat,⟨by simp,?_,?_⟩,?_,?_,?_⟩
   ·intro e he;simp only[List.mem_map] at he;obtain⟨c,_,rfl⟩:=he;exact⟨rfl,by simp[AV.cell1,AV.free1,AV.own]⟩
   ·intro i e j x hi hj;simp only[List.getElem?_map,Option.map_eq_some_iff] at hi;obtain⟨c,hc,rfl⟩:=hi;cases j with
    |zero=>simp at hj;subst hj;exact⟨_,by simp[hc],.int _ _⟩
    |succ j=>simp at hj
   ·intro P w';simp[Builtin.lenOf,ByteArray.size]
   ·intro P w' _;simp only[Builtin.firstCells,List.length_map,Sem.run_pure];congr 1;apply Array.ext';simp[ByteArray.extract,ByteArray.copySlice]
   ·intro m hm P w' _;simp only[Builtin.firstCells,Sem.run_pure];congr 1;apply Array.ext';simp[ByteArray.extract,ByteArray.copySlice]
  ·cases h
 |vsnil sy=>
  simp only[CH,true_or,if_true,Option.some.injEq] at h;subst h;refine⟨[],⟨by simp,by simp,by simp⟩,fun P w'=>rfl,fun P w' _=>rfl,fun m hm P w' _=>by simp[Builtin.firstCells]⟩
 |vse a sy r hr'=>
  simp only[CH,true_or,if_true,Option.some.injEq] at h;subst h;refine⟨[],⟨by simp,by simp,by simp⟩,fun P w'=>rfl,fun P w' _=>by simp[Builtin.firstCells,loadCells,loadCellsFrom],fun m hm P w' _=>?_⟩
  have:m=0:=by simpa using hm
  subst this;simp[Builtin.firstCells,loadCells,loadCellsFrom]
 |vs b o cap sy es r g hr' hc hf hs him h2=>
  simp only[CH] at h;split at h
  case isFalse=>cases h
  rename_i hcond;simp only[Option.some.injEq] at h;subst h;have hsy:∀(i:Nat) (e:List AV),es[i]? =some e→sy=sz:=fun i e hi=>by
   rcases hcond with h0|h0
   ·subst h0;simp at hi
   ·exact h0
  let news:List Value:=(List.range (es.length*sz)).map fun k=>g (k / sz) (k % sz)
  have hlen:news.length=es.length*sz:=by simp[news]
  have hget:∀k,k < es.length*sz→∃(e:List AV) (x:AV),es[k / sz]? =some e∧e[k % sz]? =some x∧news[k]? =some (g (k / sz) (k % sz))∧k / sz*sz+k % sz=k:=by
   intro k hk;have hsz:0 < sz:=by rcases Nat.eq_zero_or_pos sz with e|e;(rw[e] at hk;simp at hk);exact e
   have hi:k / sz < es.length:=by rw[Nat.div_lt_iff_lt_mul hsz];exact hk
   have hel:es[k / sz]? =some es[k / sz]:=List.getElem?_eq_getElem hi;have hsy':=hsy _ _ hel;have hj:k % sz < es[k / sz].length:=by rw[(hs _ (List.getElem_mem hi)).1,hsy'];exact Nat.mod_lt _ hsz
   exact⟨_,_,hel,List.getElem?_eq_getElem hj,by simp[news,hk],by rw[Nat.mul_comm];exact Nat.div_add_mod k sz⟩
  have hcells:∀j u,news[j]? =some u→w.cell? ((⟨b,o,none⟩:Addr).add j)=some u:=by
   intro k u hk;have hlt:k < es.length*sz:=by rw[←hlen];exact(List.getElem?_eq_some_iff.1 hk).1
   obtain⟨e,x,k1,k2,k3,k4⟩:=hget k hlt;rw[hk] at k3;cases k3;have hi:=him _ _ _ _ k1 k2;rw[hsy _ _ k1] at hi;rw[Addr.add_lit];have:=hr.imm _ _ _ hi
   rwa [Nat.add_assoc,k4] at this
  refine⟨news,⟨hlen,fun e he=>?_,fun i e j x hi hj=>?_⟩,fun P w'=>rfl,?_,gen _ _ _ news hcells hlen⟩
  ·obtain⟨i,hi⟩:=List.getElem?_of_mem he;have:=hs e he;rw[hsy i e hi] at this;exact this
  ·have hszz:=hsy i e hi;have hil:i < es.length:=(List.getElem?_eq_some_iff.1 hi).1;have hjl:j < sz:=by rw[←hszz,←(hs e (List.mem_of_getElem? hi)).1];exact(List.getElem?_eq_some_iff.1 hj).1
   have hk:i*sz+j < es.length*sz:=by
    have:(i+1)*sz≤es.length*sz:=Nat.mul_le_mul_right _ hil;rw[Nat.add_mul,Nat.one_mul] at this;omega
   have hd:(i*sz+j) / sz=i:=by rw[Nat.mul_comm,Nat.mul_add_div (by omega),Nat.div_eq_of_lt hjl,Nat.add_zero]
   have hm:(i*sz+j) % sz=j:=by rw[Nat.mul_comm,Nat.mul_add_mod,Nat.mod_eq_of_lt hjl]
   refine⟨g i j,by simp[news,hk,hd,hm],h2 i e j x hi hj⟩
  ·intro P w' hh;have:=gen ⟨b,o,none⟩ es.length cap news hcells hlen es.length (Nat.le_refl _) P w' hh
   rwa [List.take_of_length_le (by omega)] at this
 |rs b id off len cap sy hrho hc hl=>
  simp only[CH] at h;split at h
  case isFalse=>cases h
  rename_i hsz;subst hsz;rw[Option.bind_eq_some_iff] at h;obtain⟨cs,hcs,h⟩:=h;split at h
  case isFalse=>cases h
  rename_i hle;cases h;obtain⟨b',arr,e,k1,k2,k3,k4,k5,_⟩:=hr.cells hcs;rw[hrho] at k2;cases k2;obtain⟨c1,c2⟩:=OK (sz:=sy) (n:=len) (l:=cs.drop off) (by simp;omega)
  let news:List Value:=(arr.toList.drop off).take (len*sy)
  have hal:=k5.1;have hlen:news.length=(chunks sy len (cs.drop off)).length*sy:=by rw[c1];simp[news];omega
  have hnews:∀k,k < len*sy→news[k]? =arr[off+k]?:=fun k hk=>by simp[news,hk,List.getElem?_take,List.getElem?_drop]
  have hcells:∀j u,news[j]? =some u→w.cell? ((⟨b,off,none⟩:Addr).add j)=some u:=by
   intro k u hk;have hlt:k < len*sy:=by
    have:=(List.getElem?_eq_some_iff.1 hk).1;rw[hlen,c1] at this;exact this
   rw[hnews k hlt] at hk;rw[Addr.add_lit,KC k4];exact hk
  have hall:∀(i:Nat) (e:List AV) (j:Nat) (x:AV),(chunks sy len (cs.drop off))[i]? =some e→e[j]? =some x→∃v,news[i*sy+j]? =some v∧VR G v x∧x.cell1=true:=by
   intro i e j x hi hj;obtain⟨d1,d2⟩:=c2 i e hi;obtain⟨y,hy,rfl⟩:=d2 j x hj;rw[List.getElem?_drop] at hy;obtain⟨v,hv,hcell⟩:=k5.get hy;have hil:i < len:=by rw[←c1];exact(List.getElem?_eq_some_iff.1 hi).1
   have hjl:j < sy:=by rw[←d1];exact(List.getElem?_eq_some_iff.1 hj).1
   have hk:i*sy+j < len*sy:=by
    have:(i+1)*sy≤len*sy:=Nat.mul_le_mul_right _ hil;rw[Nat.add_mul,Nat.one_mul] at this;omega
   exact⟨v,by rw[hnews _ hk];exact hv,hcell.vr.strip1,AV.cell1_strip1 hcell.free⟩
  refine⟨news,⟨hlen,fun e he=>?_,fun i e j x hi hj=>?_⟩,fun P w'=>by rw[c1];rfl,?_,gen _ _ _ news hcells hlen⟩
  ·obtain⟨i,hi⟩:=List.getElem?_of_mem he;refine⟨(c2 i e hi).1,fun x hx=>?_⟩
   obtain⟨j,hj⟩:=List.getElem?_of_mem hx;obtain⟨v,_,_,d⟩:=hall i e j x hi hj;exact d
  ·obtain⟨v,d1,d2,_⟩:=hall i e j x hi hj;exact⟨v,d1,d2⟩
  ·intro P w' hh;have:=gen ⟨b,off,none⟩ len cap news hcells hlen _ (Nat.le_refl _) P w' hh
   rwa [List.take_of_length_le (by omega)] at this
 |_=>simp[CH] at h
theorem PG(sz:Nat):∀(n:Nat) (l:List AV),(chunks sz n l).length=n
 |0,_=>rfl
 |n+1,l=>by rw[chunks,List.length_cons,PG sz n]
theorem RJ{S:St}{sz sy id off n:Nat}{es:List (List AV)}(h:CH S sz (.rs sy id off n)=some es):es.length=n:=by
 unfold CH at h;simp only at h;split at h
 ·rw[Option.bind_eq_some_iff] at h;obtain⟨cs,_,h⟩:=h;split at h
  ·cases h;exact PG _ _ _
  ·cases h
 ·cases h
theorem Pa(A:Agree E)(hr:Rel E G w S){src dst e:Nat}(hs:E.C.has src=true)(hd:E.C.has dst=true)(he:E.C.has e=true)(hk:(E.C.ty dst).kind= .str)(hk':(E.C.ty src).kind= .slice e)(hk2:(E.C.ty e).kind= .int .u8)
  {u:Value} {a r:AV} (hu:VR G u a) (h:Lz S a=some r):∃z,(convert src dst u).run E.P w= .ok z w∧VR G z r∧r.cell1=true:=by
 unfold Lz at h;split at h
 case h_2=>exact Qi A hr hs hd he hk hk' hk2 hu h
 rename_i sz id off n;have h1:=(A.ty src hs).slice hk';have h2:=(A.ty dst hd).str hk;have h3:=(A.ty e he).int hk2;rw[Option.bind_eq_some_iff] at h;obtain⟨es,hes,h⟩:=h;rw[Option.map_eq_some_iff] at h;obtain⟨l,hl,rfl⟩:=h;obtain⟨k1,k2⟩:=JM hl;obtain⟨news,n1,n2,n3,_⟩:=Hs hr hu hes;have hflat:=n1.flat;have n2':=n2 E.P w;have n3':=n3 E.P w rfl;cases hu with
 |rs b _ _ _ cap _ hrho hc hle=>
  have hlen:es.length=n:=by
   have:=RJ hes;exact this
  have hnl:news.length=es.length:=by rw[n1.len,Nat.mul_one]
  let ns:List Int:=news.map fun v:Value=>match v with| .int _ m=>m|_=>0
  have hcell:∀i,i < es.length→∃m:Int,es[i]? =some [.int .u8 m]∧news[i]? =some (.int .u8 m):=by
   intro i hi;have hei:es[i]? =some es[i]:=List.getElem?_eq_getElem hi;obtain⟨m,hm,_⟩:=k2 i _ hei;rw[hm] at hei;obtain⟨v,hv,hvr⟩:=n1.vr i _ 0 _ hei rfl;rw[Nat.mul_one,Nat.add_zero] at hv;rw[hvr.int_inv] at hv;exact⟨m,hei,hv⟩
  have hmap:news=ns.map fun n=>Value.int .u8 n:=by
   apply List.ext_getElem?;intro i
   by_cases hi:i < es.length
   ·obtain⟨m,_,q⟩:=hcell i hi;rw[q];simp[ns,q]
   ·rw[List.getElem?_eq_none (by omega),List.getElem?_eq_none (by simp[ns];omega)]
  have hlist:(ns.map fun n=>UInt8.ofNat n.toNat)=l:=by
   apply List.ext_getElem?;intro i
   by_cases hi:i < es.length
   ·obtain⟨m,q0,q1⟩:=hcell i hi;obtain⟨m',q2,q3⟩:=k2 i _ q0;simp at q2;subst q2;rw[q3];simp[ns,q1]
   ·rw[List.getElem?_eq_none (by simp[ns];omega),List.getElem?_eq_none (by omega)]
  have hload:(loadCells ⟨b,off,none⟩ es.length).run E.P w= .ok (ns.map fun n=>Value.int .u8 n).toArray w:=by
   rw[←hmap];have:=n3';simpa[Builtin.firstCells] using this
  rw[hlen] at hload;refine⟨.string ⟨l.toArray⟩,?_,.str l,rfl⟩;rw[run_convert_bytes_string w src dst e _ _ _ h1 h3 h2,run_bytesToString w ⟨b,off,none⟩ n cap ns hload,Rx,hlist];congr 2;apply ByteArray.ext;simp
variable {E:Env} {f n:Nat} {Gs G:Gh} {ws w:World} {S:St} {a:Act} {fr:Fr} {before:List Oper}
def J9:TypeDesc→Bool| .string=>true| .slice _=>true|_=>false
section
variable {P:Program} {t u ty e:Nat} {i:TypeInfo} {z:Value} {d:TypeDesc}
set_option maxHeartbeats 1000000 in
theorem Je(ht:P.underlying t=some (.slice e))(hu:P.underlying u=some d)(hd:J9 d=true)(hi:P.info? e=some i){base:Option Addr}{sLen sCap:Nat}(hc:sLen≤sCap){xv:Value}
  (hn:(Builtin.lenOf xv).run P w= .ok 0 w) (hf:(Builtin.firstCells i.size 0 xv).run P w= .ok #[] w):
  (Builtin.append_ #[t,u] ty #[.slice base sLen sCap,xv]).run P w= .ok (.slice base sLen sCap) w:=by
 cases d<;>simp[J9] at hd<;>cases base<;>simp[Builtin.append_,run_underlying ht,run_underlying hu,sizeOf,typeInfo,hi,hn,hc,hf,storeCells]
set_option maxHeartbeats 1000000 in
theorem Ih(ht:P.underlying t=some (.slice e))(hu:P.underlying u=some d)(hd:J9 d=true)(hi:P.info? e=some i){b o sLen sCap m:Nat}{arr:Array Value}{e':TypeId}(hb:w.heap[b]? =some (.cells arr e' (0,0)))
  (hc:sLen+m≤sCap) {xv:Value} {news:List Value} (hn:(Builtin.lenOf xv).run P w= .ok m w) (hf:(Builtin.firstCells i.size m xv).run P w= .ok news.toArray w) (h1:∀u∈news,u.oneCell'=true) (hfit:o+sLen*i.size+news.length≤arr.size):
  (Builtin.append_ #[t,u] ty #[.slice (some ⟨b,o,none⟩) sLen sCap,xv]).run P w=
   .ok (.slice (some ⟨b,o,none⟩) (sLen+m) sCap) (w.setRow b (arr.toList.take (o+sLen*i.size)++news++arr.toList.drop (o+sLen*i.size+news.length)).toArray):=by
 have hst:=run_storeCells_at P b (o+sLen*i.size) e' news 0 arr w hb (by simpa using hfit) h1
 simp only[Nat.add_zero] at hst;cases d<;>simp[J9] at hd<;>simp[Builtin.append_,run_underlying ht,run_underlying hu,sizeOf,typeInfo,hi,hn,hc,hf,Addr.add_lit,hst]
set_option maxHeartbeats 1000000 in
theorem GI(ht:P.underlying t=some (.slice e))(hu:P.underlying u=some d)(hd:J9 d=true)(hi:P.info? e=some i)(hz:i.zero=some z){base:Option Addr}{sLen sCap m:Nat}
  (hc:sCap < sLen+m) {xv:Value} {olds news:List Value} (hn:(Builtin.lenOf xv).run P w= .ok m w) (hf:(Builtin.firstCells i.size m xv).run P w.drew= .ok news.toArray w.drew)
  (hfo:(Builtin.firstCells i.size sLen (.slice base sLen sCap)).run P w.drew= .ok olds.toArray w.drew) (h63:((sLen+m:Nat):Int)≤9223372036854775807) (hfit:Builtin.nextslicecap (sLen+m) sCap*i.bytes≤281474976710656):
  (Builtin.append_ #[t,u] ty #[.slice base sLen sCap,xv]).run P w=
   .ok (.slice (some ⟨w.heap.size,0,none⟩) (sLen+m) (grownCap w (sLen+m) sCap e))
    (w.drew.alloc (.cells (olds.toArray++news.toArray++Builtin.zeroCells z.cells (grownCap w (sLen+m) sCap e - (sLen+m))) e)):=by
 have hn':¬(sLen+m≤sCap):=by omega
 have h63':¬(9223372036854775807 < ((sLen:Int)+(m:Int))):=by omega
 have h48':¬(281474976710656 < Builtin.nextslicecap (sLen+m) sCap*i.bytes):=by omega
 cases d<;>simp[J9] at hd<;>
  (simp[Builtin.append_,run_underlying ht,run_underlying hu,sizeOf,typeInfo,zeroValue,hi,hz,hn,hn',h63',h48',Question.forced,hf,hfo,newRow,grownCap];congr 2;apply Array.ext';simp)
end
theorem fits{ei:TI}{need cap:Nat}(hb:ei.bytes≤1400)(hn:need≤lim)(hc:cap < need):((need:Nat):Int)≤9223372036854775807∧Builtin.nextslicecap need cap*ei.bytes≤281474976710656:=by
 have h1:need*ei.bytes≤lim*1400:=Nat.mul_le_mul hn hb;simp only[lim] at hn h1;exact⟨by omega,growslice_fits hc (by omega)⟩
theorem YS{ei:TI}{r:Rt}(h:FB ei r≠0):FB ei r=ei.id:=by
 cases r with
 |own t=>
  simp only[FB] at h ⊢;split at h
  ·rename_i e;rw[if_pos e];exact e
  ·exact(h rfl).elim
 |_=>rfl
theorem Yb(hr:Rel E G w S){v:Value}{sz:Nat}{es:List (List AV)}{r:Rt}(hv:VR G v (.vs sz es r)):
  ∃olds base cap,v= .slice base es.length cap∧Ed G sz olds es∧es.length≤cap∧∀P w',w'.heap=w.heap→(Builtin.firstCells sz es.length v).run P w'= .ok olds.toArray w':=by
 obtain⟨news,h1,h2,h3,_⟩:=Hs hr (sz:=sz) hv (ys:=es) (by simp[CH])
 cases hv with
 |vsnil=>exact⟨news,none,0,rfl,h1,Nat.le_refl _,h3⟩
 |vse a _ _ hr=>exact⟨news,some a,0,rfl,h1,Nat.le_refl _,h3⟩
 |vs b o cap _ _ _ g hr' hc=>exact⟨news,_,cap,rfl,h1,hc,h3⟩
theorem VR.vs_inv{v:Value}{sz:Nat}{es:List (List AV)}{r:Rt}(h:VR G v (.vs sz es r)):(r= .nil∧es=[]∧v= .slice none 0 0)∨(∃a,es=[]∧v= .slice (some a) 0 0∧(r= .none∨r= .full))∨
  ∃(b o cap:Nat) (g:Nat→Nat→Value),v= .slice (some ⟨b,o,none⟩) es.length cap∧r≠ .nil∧es.length≤cap∧(r= .full→cap=es.length)∧(∀e∈es,e.length=sz∧∀x∈e,x.cell1=true)∧
   (∀(i:Nat) (e:List AV) (j:Nat) (x:AV),(es[i]? =some e)→(e[j]? =some x)→G.imm b (o+i*sz+j)=some (g i j))∧
   (∀(i:Nat) (e:List AV) (j:Nat) (x:AV),(es[i]? =some e)→(e[j]? =some x)→VR G (g i j) x):=by
 cases h with
 |vsnil=>exact .inl ⟨rfl,rfl,rfl⟩
 |vse a _ _ hr=>exact .inr (.inl ⟨a,rfl,rfl,hr⟩)
 |vs b o cap _ _ _ g h1 h2 h3 h4 h5 h6=>exact .inr (.inr ⟨b,o,cap,g,rfl,h1,h2,h3,h4,h5,h6⟩)
theorem Ed.append{sz:Nat}{l m:List Value}{es ys:List (List AV)}(h:Ed G sz l es)(k:Ed G sz m ys):Ed G sz (l++m) (es++ys):=by
 refine⟨by simp[h.len,k.len,Nat.add_mul],fun e he=>?_,fun i e j x hi hj=>?_⟩
 ·rcases List.mem_append.1 he with he|he
  ·exact h.cell e he
  ·exact k.cell e he
 ·by_cases hlt:i < es.length
  ·rw[List.getElem?_append_left hlt] at hi;obtain⟨v,h1,h2⟩:=h.vr i e j x hi hj;exact⟨v,by rw[List.getElem?_append_left (List.getElem?_eq_some_iff.1 h1).1];exact h1,h2⟩
  ·rw[List.getElem?_append_right (by omega)] at hi
   obtain⟨v,h1,h2⟩:=k.vr _ e j x hi hj;refine⟨v,?_,h2⟩;have:es.length*sz≤i*sz:=Nat.mul_le_mul_right _ (by omega)
   rw[List.getElem?_append_right (by rw[h.len];omega),h.len]
   rw[Nat.sub_mul] at h1
   rwa [show i*sz+j - es.length*sz=i*sz - es.length*sz+j by omega]
theorem RF.append(A:Agree E)(h:RF E f n Gs ws G w S a fr before){t u ty e:Nat}(ht:E.C.has t=true)(hu:E.C.has u=true)(he:E.C.has e=true)(hk:(E.C.ty t).kind= .slice e)
  (hku:(match (E.C.ty u).kind with| .slice _=>true| .str=>true|_=>false)=true) {κc:Nat→Key} {v xv:Value} {s x r:AV} (hv:Bw G w .ret κc v s) (hx:VR G xv x) (happ:BN (E.C.ty e) S s x=some r):
  ∃v' w' G',(Builtin.append_ #[t,u] ty #[v,xv]).run E.P w= .ok v' w'∧RF E f n Gs ws G' w' S a fr before∧∀κc,Bw G' w' .ret κc v' r:=by
 have hul:=(A.ty t ht).slice hk;obtain⟨du,hdu,hkdu⟩:=(A.ty u hu).kindU;have hni:J9 du=true:=by
  cases du<;>first|rfl|(exfalso;cases hkk:(E.C.ty u).kind<;>rw[hkk] at hku hkdu<;>simp[kindOk] at hku hkdu)
 obtain⟨i,z,d,h1,h2,h3,h4,h5,h6,h7,h8,h9,h10⟩:=(A.ty e he).ex;have hbytes:=(A.ty e he).bytes;unfold BN at happ;split at happ
 case h_2=>cases happ
 rename_i sz es rt;rw[Option.bind_eq_some_iff] at happ;obtain⟨ys,hys,happ⟩:=happ;obtain⟨news,n1,n2,n3,_⟩:=Hs h.rel hx hys;obtain⟨olds,base,cap,rfl,o2,o3,o4⟩:=Yb h.rel hv.vr;have conv:∀{G':Gh} {w':World} {v':Value} {r':AV},(∀cs,r'≠ .tup cs)→(∃κc,Bw G' w' .ret κc v' r')→∀κc,Bw G' w' .ret κc v' r':=by
  rintro G' w' v' r' hnt ⟨κ',hh⟩ κc;exact⟨hh.vr,hh.tail,hh.agg,fun cs _ e=>(hnt cs e).elim,fun cs e=>(hnt cs e).elim⟩
 split at happ
 ·rename_i hy0;cases happ;subst hy0;have hnews:news=[]:=List.eq_nil_of_length_eq_zero (by simpa using n1.len)
  subst hnews;refine⟨_,w,G,Je hul hdu hni h1 o3 (n2 E.P w) (by rw[h2];exact n3 E.P w rfl),h,conv (by simp) ⟨_,hv⟩⟩
 ·rename_i hy0;split at happ
  case isFalse=>cases happ
  rename_i hcond;obtain⟨hrn,hrs,hlim⟩:=hcond;cases happ;have hpos:0 < ys.length:=List.length_pos_iff.2 hy0;have hold:∃olds',Ed G (E.C.ty e).size olds' es∧(∀P w',w'.heap=w.heap→(Builtin.firstCells (E.C.ty e).size es.length (.slice base es.length cap)).run P w'= .ok olds'.toArray w'):=by
   rcases hrs with hrs|hrs
   ·subst hrs;rcases hv.vr.vs_inv with ⟨_,q2,q3⟩|⟨_,_,_,hr'⟩|⟨_,_,_,_,_,hr',_⟩
    ·subst q2;cases q3;exact⟨[],⟨by simp,by simp,by simp⟩,fun P w' _=>rfl⟩
    ·simp at hr'
    ·exact(hr' rfl).elim
   ·subst hrs;exact⟨olds,o2,o4⟩
  obtain⟨olds',p1,p2⟩:=hold
  by_cases hroom:es.length+ys.length≤cap
  ·
   rcases hv.vr.vs_inv with ⟨_,q2,q3⟩|⟨_,q2,q3,_⟩|⟨b,o,cap1,g,q3,hr',hc,hf,hs,him,hg2⟩
   ·subst q2;cases q3;simp at hroom;exact(hy0 hroom).elim
   ·subst q2;cases q3;simp at hroom;exact(hy0 hroom).elim
   ·simp only[Value.slice.injEq,true_and] at q3;obtain⟨rfl,rfl⟩:=q3;obtain⟨tt,hown⟩:∃tt,rt= .own tt:=by
     cases rt with
     |nil=>exact(hr' rfl).elim
     |none=>exact(hrn rfl).elim
     |full=>have:=hf rfl;omega
     |own t=>exact⟨t,rfl⟩
    subst hown;have hszeq:sz=(E.C.ty e).size:=by rcases hrs with hrs|hrs;cases hrs;exact hrs
    subst hszeq;obtain⟨b',o',len,cap',e3,sz',es',tt',e4,e5,htail⟩:=hv.tail rfl;cases e3;cases e4;obtain⟨t1,⟨arr,e',t2,t3,t5⟩,t4⟩:=htail;rcases t4 with htail|t4
    ·omega
    ·have hmul:(es.length+ys.length)*(E.C.ty e).size≤cap*(E.C.ty e).size:=Nat.mul_le_mul_right _ hroom;rw[Nat.add_mul] at hmul;have hfit:o+es.length*(E.C.ty e).size+news.length≤arr.size:=by rw[n1.len];omega
     have hrun:=Ih (ty:=ty) hul hdu hni h1 t2 hroom (n2 E.P w) (by rw[h2];exact n3 E.P w rfl) n1.oneCell (by rw[h2];exact hfit)
     rw[h2] at hrun
     let lo:=o+es.length*(E.C.ty e).size
     let arr':=(arr.toList.take lo++news++arr.toList.drop (lo+news.length)).toArray
     let G':Gh:={G with imm:=fun b2 j=>if b2=b∧lo≤j∧j < lo+news.length then news[j - lo]? else G.imm b2 j}
     have hni0:∀j,lo≤j→G.imm b j=none:=t4;have hLe:G.Le G':=⟨fun b2 j vv hvv=>by
      by_cases hc:b2=b∧lo≤j∧j < lo+news.length
      ·obtain⟨e9,hj,_⟩:=hc;rw[e9,hni0 j hj] at hvv;cases hvv
      ·simp only[G',if_neg hc];exact hvv,fun _ _ e=>e,fun _=>Nat.le_refl _⟩
     have hget:∀j,arr'[j]? =if lo≤j∧j < lo+news.length then news[j - lo]? else arr[j]?:=fun j=>by
      simp only[arr',List.getElem?_toArray];rw[Dg _ _ _ _ (by simpa using hfit)]
      simp
     have hb':(w.setRow b arr').heap[b]? =some (.cells arr' e' (0,0)):=setRow_heap w b arr arr' e' _ t2;have hc:Chg (·= .ret) G w G' (w.setRow b arr'):=⟨hLe,by simp,fun k hk hkr=>by
      have hkb:k≠b:=fun e=>hkr (by rw[e];exact t1)
      exact⟨setRow_other w b k arr' hkb,rfl,fun j=>by simp[G',hkb]⟩⟩
     have hrel:Rel E G' (w.setRow b arr') S:=by
      refine⟨h.rel.os,h.rel.tape,h.rel.output,by simpa using h.rel.size,fun k hk=>?_,fun k j v hv=>?_,fun k hk=>h.rel.role k (by simpa using hk),fun k hk j=>?_,fun id k hk=>by simpa using h.rel.rho id k hk,fun k hk=>?_,fun id ob hob=>(h.rel.obj id ob hob).chg hc (by simp) (by simp)⟩
      ·have hkb:k≠b:=fun e0=>by have:=(h.rel.old k hk).2;rw[e0,t1] at this;cases this
       exact⟨(setRow_other w b k arr' hkb).trans (h.rel.old k hk).1,(h.rel.old k hk).2⟩
      ·by_cases hkb:k=b
       ·subst hkb;rw[KC hb',hget]
        by_cases hcc:lo≤j∧j < lo+news.length
        ·rw[if_pos hcc];simp only[G',hcc,and_self,if_true] at hv;exact hv
        ·rw[if_neg hcc];simp only[G',true_and,if_neg hcc] at hv;have:=h.rel.imm k j v hv;rw[KC t2] at this;exact this
       ·simp only[G',hkb,false_and,if_false] at hv;have:=h.rel.imm k j v hv;rw[←this];simp only[World.cell?,setRow_other w b k arr' hkb]
      ·have hkb:k≠b:=fun e0=>by
        subst e0;rcases hk with ⟨id,hk⟩|⟨id,hk⟩<;>(simp only[G'] at hk;rw[t1] at hk;cases hk)
       simp only[G',hkb,false_and,if_false];exact h.rel.noimm k hk j
      ·obtain⟨arr2,e2,fz2,q1,q2⟩:=h.rel.len k hk
       by_cases hkb:k=b
       ·subst hkb;rw[t2] at q1;cases q1;exact⟨arr',e',_,hb',by simp only[arr'];rw[D1 hfit];exact q2⟩
       ·exact⟨arr2,e2,fz2,by rw[setRow_other w b k arr' hkb];exact q1,q2⟩
     refine⟨_,_,G',hrun,⟨hrel,h.frr.chg hc (by simp) (by simp) (by simp) (by simp),h.kept.chg hc (by simp),h.pr⟩,conv (by simp) ⟨fun _=>.ext,?_⟩⟩
     have hall:=(p1.append n1);refine⟨?_,fun _=>⟨b,o,_,_,rfl,_,_,_,rfl,by simp,?_⟩,by simp,by simp,by simp⟩
     ·have hlenys:(es++ys).length=es.length+ys.length:=by simp
      rw[←hlenys];refine .vs b o cap _ (es++ys) (.own (FB (E.C.ty e) (.own tt))) (fun i j=>if i < es.length then g i j else news.getD ((i - es.length)*(E.C.ty e).size+j) undef) (by simp) (by rw[hlenys];exact hroom) (by simp) hall.cell (fun i el j y hi hj=>?_) (fun i el j y hi hj=>?_)
      ·by_cases hlt:i < es.length
       ·simp only[hlt,if_true];rw[List.getElem?_append_left hlt] at hi;exact hLe.imm _ _ _ (him i el j y hi hj)
       ·simp only[hlt,if_false];rw[List.getElem?_append_right (by omega)] at hi
        obtain⟨vv,q1,q2⟩:=n1.vr _ _ _ _ hi hj;have hsub:i*(E.C.ty e).size=es.length*(E.C.ty e).size+(i - es.length)*(E.C.ty e).size:=by rw[←Nat.add_mul];congr 1;omega
        have hklt:(i - es.length)*(E.C.ty e).size+j < news.length:=(List.getElem?_eq_some_iff.1 q1).1;have hin:lo≤o+i*(E.C.ty e).size+j∧o+i*(E.C.ty e).size+j < lo+news.length:=by simp only[lo];omega
        simp only[G',hin,and_self,if_true];rw[show o+i*(E.C.ty e).size+j - lo=(i - es.length)*(E.C.ty e).size+j by simp only[lo];omega,q1]
        simp[List.getD,q1]
      ·by_cases hlt:i < es.length
       ·simp only[hlt,if_true];rw[List.getElem?_append_left hlt] at hi;exact(hg2 i el j y hi hj).mono hLe
       ·simp only[hlt,if_false];rw[List.getElem?_append_right (by omega)] at hi
        obtain⟨vv,q1,q2⟩:=n1.vr _ _ _ _ hi hj;have:news.getD ((i - es.length)*(E.C.ty e).size+j) undef=vv:=by simp[List.getD,q1]
        rw[this];exact q2.mono hLe
     ·refine⟨t1,⟨arr',e',hb',by simp only[arr'];rw[D1 hfit];exact t3,fun hne=>by
       simp only[FB] at hne ⊢;split at hne
       ·rename_i h9;rw[if_pos h9];exact t5 hne
       ·exact(hne rfl).elim⟩,.inr fun j hj=>?_⟩
      have hnl:=n1.len;rw[Nat.add_mul] at hj;have hout:¬(b=b∧lo≤j∧j < lo+news.length):=by simp only[lo];omega
      show (if b=b∧lo≤j∧j < lo+news.length then news[j - lo]? else G.imm b j)=none
      rw[if_neg hout];exact t4 j (by omega)
  ·
   have hlt:cap < es.length+ys.length:=by omega
   obtain⟨f1,f2⟩:=fits hbytes hlim hlt;have hrun:=GI (ty:=ty) hul hdu hni h1 h4 hlt (n2 E.P w) (by rw[h2];exact n3 E.P w.drew rfl) (by rw[h2];exact p2 E.P w.drew rfl) f1 (by rw[h3];exact f2)
   have hge:=grownCap_ge w (es.length+ys.length) cap e;have hall:=p1.append n1;have hsize:(olds'.toArray++news.toArray++Builtin.zeroCells z.cells (grownCap w (es.length+ys.length) cap e - (es.length+ys.length))).size=grownCap w (es.length+ys.length) cap e*(E.C.ty e).size:=by
    simp only[Array.size_append,List.size_toArray,size_zeroCells,h8,p1.len,n1.len,←Nat.add_mul];congr 1;omega
   obtain⟨G',r1,r2,r3⟩:=h.drew.newRow (e:=e) (es:=es++ys) (sz:=(E.C.ty e).size) (cap:=grownCap w (es.length+ys.length) cap e) (fun i j=>(olds'++news).getD (i*(E.C.ty e).size+j) undef) .ret (.own (FB (E.C.ty e) rt)) (by simp) ⟨by simp,by simp⟩ (by simp;exact hge) hsize (by simp) hall.cell (fun t h1 h2=>by
     cases h1;have h9:=YS h2;rw[h9];exact((A.ty e he).id (by rw[←h9];exact h2)).symm)
    (fun i el j y hi hj=>by
     obtain⟨vv,q1,q2⟩:=hall.vr i el j y hi hj;have e1:(olds'++news).getD (i*(E.C.ty e).size+j) undef=vv:=by simp only[List.getD,q1,Option.getD_some]
     rw[e1];refine⟨?_,q2⟩;have hk:i*(E.C.ty e).size+j < (olds'++news).length:=(List.getElem?_eq_some_iff.1 q1).1;rw[Array.getElem?_append_left (by simpa using hk)]
     simpa using q1)
   rw[List.length_append] at r2;exact⟨_,_,G',hrun,r1,conv (by simp) ⟨_,r2⟩⟩
variable {E:Env} {f n:Nat} {Gs G:Gh} {ws w:World} {S:St} {a:Act} {fr:Fr} {before:List Oper}
def Gh.withLen(G:Gh)(b k:Nat):Gh:={G with len:=fun x=>if x=b then k else G.len x}
theorem RF.withLen(h:RF E f n Gs ws G w S a fr before){b k:Nat}(hk:G.len b≤k){arr:Array Value}{e:Nat}(hb:w.heap[b]? =some (.cells arr e (0,0)))(hs:k≤arr.size):RF E f n Gs ws (G.withLen b k) w S a fr before:=by
 have hle:G.Le (G.withLen b k):=⟨fun _ _ _ e=>e,fun _ _ e=>e,fun x=>by
  simp only[Gh.withLen];split
  ·rename_i e;rw[e];exact hk
  ·exact Nat.le_refl _⟩
 have c:Chg (fun _=>False) G w (G.withLen b k) w:=⟨hle,Nat.le_refl _,fun _ _ _=>⟨rfl,rfl,fun _=>rfl⟩⟩
 exact⟨⟨h.rel.os,h.rel.tape,h.rel.output,h.rel.size,h.rel.old,h.rel.imm,h.rel.role,h.rel.noimm,h.rel.rho,fun x hx=>by
   simp only[Gh.withLen] at hx ⊢
   by_cases e1:x=b
   ·subst e1;simp only[if_true];exact⟨arr,e,_,hb,hs⟩
   ·simp only[e1,if_false] at hx ⊢;exact h.rel.len x hx,fun id o ho=>(h.rel.obj id o ho).chg c (fun e=>e) (fun _ e=>e)⟩,
  h.frr.chg c (fun _=>id) (fun _ _=>id) (fun _=>id) (fun _ _=>id),h.kept.chg c id,h.pr⟩
theorem RF.newObj'(h:RF E f n Gs ws G w S a fr before){arr:Array Value}{e:Nat}{cs:List AV}{len cap sz:Nat}(hv:D4 G w (.ocell S.length) arr cs)
  (hl:len≤cap) (hsz:cap*sz≤arr.size):
  ∃G',RF E f n Gs ws G' (w.alloc (.cells arr e)) (S++[.cells cs 0]) a fr before∧∀κ κc,Bw G' (w.alloc (.cells arr e)) κ κc (.slice (some ⟨w.heap.size,0,none⟩) len cap) (.rs sz S.length 0 len):=by
 have hrf:=h.alloc (.cells arr e) (fun _=>none) (.obj S.length) (fun j v hj=>by cases hj) (fun _ _=>rfl)
 have hcn:=Chg.new h.rel (.cells arr e) (fun _=>none) (.obj S.length) (fun _=>False)
 have hLe:=hcn.le;have h0:G.len w.heap.size=0:=by
  rcases Nat.eq_zero_or_pos (G.len w.heap.size) with e0|e0
  ·exact e0
  ·obtain⟨arr',e',_,h1,_⟩:=h.rel.len w.heap.size (by omega)
   have:=(Array.getElem?_eq_some_iff.1 h1).1;omega
 have hrf1:=hrf.withLen (b:=w.heap.size) (k:=cap*sz) (by show G.len w.heap.size≤_;omega) (World.alloc_new w _) hsz
 have hLe1:(G.new w.heap.size (fun _=>none) (.obj S.length)).Le ((G.new w.heap.size (fun _=>none) (.obj S.length)).withLen w.heap.size (cap*sz)):=⟨fun _ _ _ e=>e,fun _ _ e=>e,fun x=>by
  show G.len x≤if x=w.heap.size then cap*sz else G.len x
  split
  ·rename_i e1;rw[e1,h0];omega
  ·exact Nat.le_refl _⟩
 have hLe2:(G.new w.heap.size (fun _=>none) (.obj S.length)).Le (((G.new w.heap.size (fun _=>none) (.obj S.length)).withLen w.heap.size (cap*sz)).obj S.length w.heap.size):=⟨hLe1.imm,fun id b' e=>by
   have:=(h.rel.rho id b' e).1
   show (if id=S.length then some w.heap.size else G.rho id)=some b'
   rw[if_neg (Nat.ne_of_lt this)];exact e,hLe1.len⟩
 have hc2:Chg (fun _=>False) (G.new w.heap.size (fun _=>none) (.obj S.length)) (w.alloc (.cells arr e)) (((G.new w.heap.size (fun _=>none) (.obj S.length)).withLen w.heap.size (cap*sz)).obj S.length w.heap.size) (w.alloc (.cells arr e)):=
  ⟨hLe2,Nat.le_refl _,fun _ _ _=>⟨rfl,rfl,fun _=>rfl⟩⟩
 exact⟨_,hrf1.addObj (b:=w.heap.size) (by simp) (.cells cs 0) ⟨w.heap.size,arr,e,by simp[Gh.obj],by simp[Gh.obj,Gh.new,Gh.withLen],World.alloc_new w _,(hv.chg hcn (by simp)).chg hc2 (by simp),fun e=>(e rfl).elim⟩,
  fun κ κc=>.of_cell1 (.rs _ _ _ _ _ _ (by simp[Gh.obj]) hl (by simp[Gh.obj,Gh.withLen])) rfl⟩
theorem RF.newObj(h:RF E f n Gs ws G w S a fr before){arr:Array Value}{e:Nat}{cs:List AV}{len cap sz:Nat}(hc:cs.length≤arr.size)(hv:∀(j:Nat) (x:AV) (v:Value),cs[j]? =some x→arr[j]? =some v→VR G v x∧x.cell1=true)
  (hl:len≤cap) (hsz:cap*sz≤arr.size):
  ∃G',RF E f n Gs ws G' (w.alloc (.cells arr e)) (S++[.cells cs 0]) a fr before∧∀κ κc,Bw G' (w.alloc (.cells arr e)) κ κc (.slice (some ⟨w.heap.size,0,none⟩) len cap) (.rs sz S.length 0 len):=
 h.newObj' ⟨hc,fun j x v hx hv'=>by
  obtain⟨k1,k2⟩:=hv j x v hx hv';exact⟨k1,AV.cell1.free1 k2,.of_not (AV.cell1.own k2)⟩⟩ hl hsz
theorem Ye{z:Array Value}{m k:Nat}(hk:k < m)(hz:0 < z.size):(madeCells z m)[k]? =z[k % z.size]?:=by
 have:k % z.size < z.size:=Nat.mod_lt _ hz;simp[madeCells,hk,this]
theorem RF.makeSlice(A:Agree E)(h:RF E f n Gs ws G w S a fr before){t e:Nat}(ht:E.C.has t=true)(he:E.C.has e=true)(hk:(E.C.ty t).kind= .slice e){lv cv:Value}{l c:AV}(hlv:VR G lv l)(hcv:VR G cv c){br:Bool}{p:AV×St}
  (hm:JK (E.C.ty e) br S l c=some p) (κ:Key) (hκ:(∀id,κ≠ .obj id)∧∀t,κ≠ .lbox t):
  ∃v w' G',(Instr.makeSlice t lv cv).run E.P w= .ok v w'∧RF E f n Gs ws G' w' p.2 a fr before∧∃κc,Bw G' w' κ κc v p.1:=by
 have hul:=(A.ty t ht).slice hk;obtain⟨i,z,d,h1,h2,h3,h4,h5,h6,h7,h8,h9,h10⟩:=(A.ty e he).ex;have hbytes:=(A.ty e he).bytes;have hzc:=Gp A he h1 h4 G;unfold JK at hm;split at hm
 case h_2=>cases hm
 rename_i kl ln kc cn;obtain rfl:=hlv.int_inv;obtain rfl:=hcv.int_inv;split at hm
 case isFalse=>cases hm
 rename_i hc;obtain⟨c1,c2,c3,c4⟩:=hc;have hmul:(i.bytes:Int)*cn≤1400*100000000000:=by
  rw[h3];refine Int.mul_le_mul (by omega) (by simpa[lim] using c2) c1 (by omega)
 have hrun:=run_make (P:=E.P) w t e i z hul h1 h4 kl kc ln cn c3 c4 (by omega) (by simp[lim] at c2;omega)
 have hsize:(madeCells z.cells (cn.toNat*i.size)).size=cn.toNat*(E.C.ty e).size:=by rw[size_madeCells,h2]
 split at hm
 ·rename_i hc0;obtain⟨rfl,_⟩:=hc0;cases hm;obtain⟨G',r1,r2,r3⟩:=h.newRow (arr:=madeCells z.cells (cn.toNat*i.size)) (e:=e) (es:=[]) (sz:=(E.C.ty e).size) (cap:=cn.toNat) (fun _ _=>undef) κ (.own (E.C.ty e).id) (by simp) hκ (Nat.zero_le _) hsize (by simp) (by simp) (fun t h1 h2=>by cases h1;exact((A.ty e he).id h2).symm) (by simp)
  exact⟨_,_,G',hrun,r1,_,r2⟩
 ·cases hm;have hlc:ln.toNat*(E.C.ty e).size≤cn.toNat*(E.C.ty e).size:=Nat.mul_le_mul_right _ (by omega)
  obtain⟨f1,f2⟩:=H9 (sz:=(E.C.ty e).size) (ys:=List.replicate ln.toNat (E.C.ty e).zero) (fun el hel=>by
   rw[List.eq_of_mem_replicate hel];exact(A.ty e he).len)
  rw[List.length_replicate] at f1;obtain⟨G',r1,r2⟩:=h.newObj (arr:=madeCells z.cells (cn.toNat*i.size)) (e:=e) (cs:=(List.replicate ln.toNat (E.C.ty e).zero).flatten) (len:=ln.toNat) (cap:=cn.toNat) (sz:=(E.C.ty e).size) (by rw[f1,hsize];exact hlc) (fun k x v hx hv=>by
   have hk':k < ln.toNat*(E.C.ty e).size:=by rw[←f1];exact(List.getElem?_eq_some_iff.1 hx).1
   have hsz:0 < (E.C.ty e).size:=by rcases Nat.eq_zero_or_pos (E.C.ty e).size with e0|e0;(rw[e0] at hk';simp at hk');exact e0
   have hi:k / (E.C.ty e).size < ln.toNat:=by rw[Nat.div_lt_iff_lt_mul hsz];exact hk'
   have hj:k % (E.C.ty e).size < (E.C.ty e).size:=Nat.mod_lt _ hsz;have hkk:k / (E.C.ty e).size*(E.C.ty e).size+k % (E.C.ty e).size=k:=by rw[Nat.mul_comm];exact Nat.div_add_mod k _
   have:=f2 (k / (E.C.ty e).size) (E.C.ty e).zero (k % (E.C.ty e).size) (by simp[hi]) hj
   rw[hkk,hx] at this;rw[Ye (by rw[h2];omega) (by rw[h8];exact hsz),h8] at hv
   exact⟨hzc.2.1 _ x v this.symm hv,hzc.2.2 x (List.mem_of_getElem? this.symm)⟩) (by omega) (by rw[hsize];exact Nat.le_refl _)
  exact⟨_,_,G',hrun,r1,fun _=>.ext,r2 _ _⟩
theorem Ed.take{sz:Nat}{news:List Value}{ys:List (List AV)}(h:Ed G sz news ys){m:Nat}(hm:m≤ys.length):Ed G sz (news.take (m*sz)) (ys.take m):=by
 have hle:m*sz≤news.length:=by rw[h.len];exact Nat.mul_le_mul_right _ hm
 refine⟨by rw[List.length_take,List.length_take,Nat.min_eq_left hle,Nat.min_eq_left hm],fun e he=>h.cell e (List.mem_of_mem_take he),fun i e j x hi hj=>?_⟩
 rw[List.getElem?_take] at hi;split at hi
 ·rename_i hlt;obtain⟨v,h1,h2⟩:=h.vr i e j x hi hj;refine⟨v,?_,h2⟩;have hjl:j < sz:=by rw[←(h.cell e (List.mem_of_getElem? hi)).1];exact(List.getElem?_eq_some_iff.1 hj).1
  have:(i+1)*sz≤m*sz:=Nat.mul_le_mul_right _ hlt;rw[Nat.add_mul,Nat.one_mul] at this;rw[List.getElem?_take,if_pos (by omega)];exact h1
 ·cases hi
theorem RF.copy(A:Agree E)(h:RF E f n Gs ws G w S a fr before){t u ty e:Nat}(ht:E.C.has t=true)(he:E.C.has e=true)(hk:(E.C.ty t).kind= .slice e){v xv:Value}{s x:AV}(hv:VR G v s)(hx:VR G xv x){p:AV×St}
  (hc:Yq (E.C.ty e) S s x=some p):
  ∃v' w',(Builtin.copy_ #[t,u] ty #[v,xv]).run E.P w= .ok v' w'∧RF E f n Gs ws G w' p.2 a fr before∧VR G v' p.1∧p.1.cell1=true:=by
 have hul:=(A.ty t ht).slice hk;unfold Yq at hc;rw[Option.bind_eq_some_iff] at hc;obtain⟨ys,hys,hc⟩:=hc;obtain⟨news,n1,n2,n3,n4⟩:=Hs h.rel hx hys;split at hc
 ·rename_i sz r;cases hc;have hf:=n4 0 (Nat.zero_le _) E.P w rfl;rw[Nat.zero_mul,List.take_zero] at hf;refine⟨.int .i64 0,w,?_,h,.int _ _,rfl⟩;rcases hv.vs_inv with ⟨_,_,rfl⟩|⟨_,_,rfl,_⟩|⟨b,o,cap,g,rfl,_⟩
  ·simp[Builtin.copy_,run_underlying hul,n2,run_sizeOf A he,hf,goInt]
  ·simp[Builtin.copy_,run_underlying hul,n2,run_sizeOf A he,hf,goInt,storeCells]
  ·simp[Builtin.copy_,run_underlying hul,n2,run_sizeOf A he,hf,goInt,storeCells]
 ·rename_i sz id off k;rw[Option.bind_eq_some_iff] at hc;obtain⟨cs,hcs,hc⟩:=hc;split at hc
  case isFalse=>cases hc
  rename_i hcond;obtain⟨rfl,hle⟩:=hcond;cases hc;cases hv with
  |rs b _ _ _ cap _ hrho hcap hl=>
   obtain⟨b',arr,e',j1,j2,j3,j4,j5,j6⟩:=h.rel.cells hcs;rw[hrho] at j2;cases j2;have hm:min ys.length k≤ys.length:=Nat.min_le_left _ _;have hf:=n4 _ hm E.P w rfl;have e1:=n1.take hm;have e2:=e1.flat;have hlen:(news.take (min ys.length k*(E.C.ty e).size)).length=min ys.length k*(E.C.ty e).size:=by rw[e1.len,List.length_take,Nat.min_eq_left hm]
   have hmk:min ys.length k*(E.C.ty e).size≤k*(E.C.ty e).size:=Nat.mul_le_mul_right _ (Nat.min_le_right _ _);have harr:=j5.1;have hst:=run_storeCells_at E.P b off e' (news.take (min ys.length k*(E.C.ty e).size)) 0 arr w j4 (by rw[hlen];omega) e1.oneCell
   simp only[Nat.add_zero] at hst;have hfit:off+(news.take (min ys.length k*(E.C.ty e).size)).length≤arr.size:=by rw[hlen];omega
   have hc:=Chg.setRow (w:=w) j3 (arr.toList.take off++news.take (min ys.length k*(E.C.ty e).size)++arr.toList.drop (off+(news.take (min ys.length k*(E.C.ty e).size)).length)).toArray;refine⟨.int .i64 ↑(min ys.length k),_,?_,⟨h.rel.setRow j3 (.inl ⟨id,rfl⟩) j4 (D1 hfit) _ (by simp) fun id' o ho=>?_,h.frr.chg hc (by simp) (by simp) (by simp) (by simp),h.kept.chg hc (by simp),h.pr⟩,.int _ _,rfl⟩
   ·have hmin:Nat.min ys.length k=min ys.length k:=rfl;simp only[Builtin.copy_,List.getElem?_toArray,List.getElem?_cons_zero,List.getElem?_cons_succ,Sem.run_bind,run_underlying hul,Result.andThen_ok,n2,run_sizeOf A he,hmin,hf,hst,Sem.run_pure,goInt]
   ·rw[List.getElem?_set] at ho
    by_cases e':id=id'
    ·subst e';have hlt:id < S.length:=(List.getElem?_eq_some_iff.1 j1).1;simp only[if_true,hlt,Option.some.injEq] at ho;subst ho;refine .inr ⟨b,_,_,hrho,j3,setRow_heap w b arr _ _ _ j4,?_,fun ht0=>⟨(j6 ht0).1,(D1 hfit).trans ((j6 ht0).2.trans ?_)⟩⟩
     case refine_2=>
      have:=e2.1;simp only[De,List.length_append,List.length_take,List.length_drop,←this];omega
     refine(j5.write (off:=off) (vs:=news.take (min ys.length k*(E.C.ty e).size)) (xs:=(ys.take (min ys.length k)).flatten) e2.1 (by rw[←e2.1,hlen];omega) ?_).chg hc (by simp)
     intro j x v hx hv;obtain⟨q1,q2⟩:=e2.2 j x v hx hv;exact⟨q1,AV.cell1.free1 q2,.of_not (AV.cell1.own q2)⟩
    ·simp only[e',if_false] at ho;exact .inl ⟨ho,by simpa using e'⟩
 ·cases hc
variable {E:Env} {f n:Nat} {Gs G:Gh} {ws w:World} {S:St} {a:Act} {fr:Fr} {before:List Oper}
theorem Se{S:St}{id i:Nat}{o:Obj}(h:(S.set id .dead)[i]? =some o)(hd:o≠ .dead):S[i]? =some o∧i≠id:=by
 rw[List.getElem?_set] at h
 by_cases e:id=i
 ·simp only[e,if_true] at h;split at h
  ·cases h;exact(hd rfl).elim
  ·cases h
 ·simp only[e,if_false] at h;exact⟨h,Ne.symm e⟩
def Cl(id id':Nat)(whole:Bool):Key→Key
 | .obj i=>if i=id∧whole=true then .obj id' else .obj i
 | .ocell i j=>if i=id then .ocell id' j else .ocell i j
 |κ=>κ
theorem RF.kill(h:RF E f n Gs ws G w S a fr before)(id id':Nat)(whole:Bool):RF E f n Gs ws (G.relabel (Cl id id' whole)) w (S.set id .dead) a fr before:=by
 have hLe:G.Le (G.relabel (Cl id id' whole)):=⟨fun _ _ _ e=>e,fun _ _ e=>e,fun _=>Nat.le_refl _⟩
 refine⟨⟨h.rel.os,h.rel.tape,h.rel.output,h.rel.size,fun b hb=>⟨(h.rel.old b hb).1,by simp[Gh.relabel,(h.rel.old b hb).2,Cl]⟩,h.rel.imm,fun b hb=>by simp[Gh.relabel,h.rel.role b hb,Cl],fun b hb=>?_,
  fun i b hb=>by simpa using h.rel.rho i b hb,h.rel.len,fun i o ho=>?_⟩,⟨h.frr.defers,h.frr.size,fun t=>((h.frr.slot t).relabel (f:=Cl id id' whole)).rekey rfl (fun _=>rfl),fun t cs hb=>?_⟩,h.kept.relabel rfl,h.pr⟩
 ·refine h.rel.noimm b ?_;rcases hb with ⟨i,hi⟩|⟨t,ht⟩
  ·cases hr:G.role b<;>simp[Gh.relabel,hr,Cl] at hi<;>first|exact .inl ⟨_,rfl⟩|(split at hi<;>cases hi)
  ·cases hr:G.role b<;>simp[Gh.relabel,hr,Cl] at ht<;>first|exact .inr ⟨_,rfl⟩|(split at ht<;>cases ht)
 ·by_cases hd:o= .dead
  ·subst hd;trivial
  ·obtain⟨h1,h2⟩:=Se ho hd;have:=h.rel.obj i o h1;cases o with
   |cells cs tg=>
    obtain⟨b',arr',e'',hr,hb,hh,hrow,htg⟩:=this;exact⟨b',arr',e'',hr,by simp[Gh.relabel,hb,Cl,h2],hh,(hrow.relabel (f:=Cl id id' whole)).rekey fun j=>by simp[Cl,h2],htg⟩
   |map m=>
    obtain⟨b',es,clk,hr,hb,hh,hs,he⟩:=this;exact⟨b',es,clk,hr,by simp[Gh.relabel,hb,Cl,h2],hh,hs,fun i e p e1 e2=>(he i e p e1 e2).mono hLe⟩
   |bld T e l=>
    refine Sz.keep (G:=G) (w:=w) (fun b hb=>hb) (fun b hb hlt=>⟨?_,rfl,fun _=>rfl⟩) this
    rcases hb with hb|hb
    ·simp[Gh.relabel,hb,Cl,h2]
    ·simp[Gh.relabel,hb,Cl,h2]
   |dead=>trivial
 ·obtain⟨h1,b',arr',e',h2,h3,h4,h5⟩:=h.frr.box t cs hb;exact⟨h1,b',arr',e',h2,by simp[Gh.relabel,h3,Cl],h4,(h5.relabel (f:=Cl id id' whole)).rekey fun j=>rfl⟩
theorem D4.append{κ:Nat→Key}{arr arr':Array Value}{cs ys:List AV}{k:Nat}(h:D4 G w κ arr cs)(hk:k≤cs.length){news:List Value}(hl:news.length=ys.length)(hn:∀(j:Nat) (x:AV) (v:Value),ys[j]? =some x→news[j]? =some v→VR G v x∧x.cell1=true)
  (hs:k+news.length≤arr'.size) (h1:∀j,j < k→arr'[j]? =arr[j]?) (h2:∀j,j < news.length→arr'[k+j]? =news[j]?):D4 G w κ arr' (cs.take k++ys):=by
 have htk:(cs.take k).length=k:=by rw[List.length_take,Nat.min_eq_left hk]
 refine⟨by rw[List.length_append,htk];omega,fun j x v hx hv=>?_⟩
 by_cases e:j < k
 ·rw[List.getElem?_append_left (by rw[htk];exact e),List.getElem?_take,if_pos e] at hx
  rw[h1 j e] at hv;exact h.2 j x v hx hv
 ·rw[List.getElem?_append_right (by rw[htk];omega),htk] at hx
  have hlt:j - k < news.length:=by rw[hl];exact(List.getElem?_eq_some_iff.1 hx).1
  have:=h2 (j - k) hlt;rw[show k+(j - k)=j by omega,hv] at this
  obtain⟨q1,q2⟩:=hn (j - k) x v hx this.symm;exact⟨q1,AV.cell1.free1 q2,.of_not (AV.cell1.own q2)⟩
theorem RF.appendR(A:Agree E)(h:RF E f n Gs ws G w S a fr before){t u ty e:Nat}(ht:E.C.has t=true)(hu:E.C.has u=true)(he:E.C.has e=true)(hk:(E.C.ty t).kind= .slice e)
  (hku:(match (E.C.ty u).kind with| .slice _=>true| .str=>true|_=>false)=true) {κ:Key} {κc:Nat→Key} {v xv:Value} {s x:AV} {p:AV×St} (hv:Bw G w κ κc v s) (hx:VR G xv x) (happ:appendR (E.C.ty e) S s x=some p):
  ∃v' w' G',(Builtin.append_ #[t,u] ty #[v,xv]).run E.P w= .ok v' w'∧RF E f n Gs ws G' w' p.2 a fr before∧∃κc,Bw G' w' κ κc v' p.1:=by
 have hul:=(A.ty t ht).slice hk;obtain⟨du,hdu,hkdu⟩:=(A.ty u hu).kindU;have hni:J9 du=true:=by
  cases du<;>first|rfl|(exfalso;cases hkk:(E.C.ty u).kind<;>rw[hkk] at hku hkdu<;>simp[kindOk] at hku hkdu)
 obtain⟨i,z,d,h1,h2,h3,h4,h5,h6,h7,h8,h9,h10⟩:=(A.ty e he).ex;have hbytes:=(A.ty e he).bytes;unfold Av.appendR at happ;rw[Option.bind_eq_some_iff] at happ;obtain⟨ys,hys,happ⟩:=happ;obtain⟨news,n1,n2,n3,_⟩:=Hs h.rel hx hys;have hflat:=n1.flat;have hcell:∀(j:Nat) (x:AV) (v:Value),ys.flatten[j]? =some x→news[j]? =some v→VR G v x∧x.cell1=true:=hflat.2;split at happ
 ·rename_i hy0;subst hy0;have hnews:news=[]:=List.eq_nil_of_length_eq_zero (by simpa using n1.len)
  subst hnews;have hzero:∀base len cap,len≤cap→(Builtin.append_ #[t,u] ty #[.slice base len cap,xv]).run E.P w= .ok (.slice base len cap) w:=fun base len cap hc=>
   Je hul hdu hni h1 hc (n2 E.P w) (by rw[h2];exact n3 E.P w rfl)
  split at happ
  ·cases happ;rcases hv.vr.vs_inv with ⟨_,_,rfl⟩|⟨a,_,rfl,_⟩|⟨b,o,cap,g,rfl,_,hc,_⟩
   ·exact⟨_,w,G,hzero none 0 0 (Nat.le_refl _),h,_,hv⟩
   ·exact⟨_,w,G,hzero _ 0 0 (Nat.le_refl _),h,_,hv⟩
   ·exact⟨_,w,G,hzero _ _ _ hc,h,_,hv⟩
  ·cases happ;have hvr:=hv.vr;cases hvr with
   |rs b id off len cap sz hrho hc hl=>exact⟨_,w,G,hzero _ _ _ hc,h,_,hv⟩
  ·cases happ
 ·rename_i hy0;have hpos:0 < ys.length:=List.length_pos_iff.2 hy0;split at happ
  ·
   rename_i sz rt;split at happ
   case isFalse=>cases happ
   rename_i hcond;obtain⟨hrt,hlim⟩:=hcond;cases happ;have hbase:∃base,v= .slice base 0 0:=by
    rcases hv.vr.vs_inv with ⟨_,_,rfl⟩|⟨a,_,rfl,_⟩|⟨b,o,cap,g,rfl,hr',hc,hf,_⟩
    ·exact⟨none,rfl⟩
    ·exact⟨_,rfl⟩
    ·rcases hrt with hrt|hrt
     ·exact(hr' hrt).elim
     ·rw[hf hrt];exact⟨_,rfl⟩
   obtain⟨base,rfl⟩:=hbase;obtain⟨f1,f2⟩:=fits (cap:=0) hbytes hlim hpos;have hrun:=GI (P:=E.P) (w:=w) (ty:=ty) (base:=base) (sLen:=0) (sCap:=0) (m:=ys.length) (olds:=[]) hul hdu hni h1 h4 (by omega) (n2 E.P w) (by rw[h2];exact n3 E.P w.drew rfl)
    (by cases base<;>simp[Builtin.firstCells,loadCells,loadCellsFrom]) (by simpa using f1) (by rw[h3];simpa using f2)
   simp only[Nat.zero_add] at hrun;have hge:=grownCap_ge w ys.length 0 e;have hsize:((([]:List Value).toArray++news.toArray++Builtin.zeroCells z.cells (grownCap w ys.length 0 e - ys.length))).size=grownCap w ys.length 0 e*(E.C.ty e).size:=by
    simp only[Array.size_append,List.size_toArray,size_zeroCells,h8,n1.len,List.length_nil,Nat.zero_add,←Nat.add_mul];congr 1;omega
   obtain⟨G',r1,r2⟩:=h.drew.newObj (e:=e) (arr:=([]:List Value).toArray++news.toArray++Builtin.zeroCells z.cells (grownCap w ys.length 0 e - ys.length)) (cs:=ys.flatten) (len:=ys.length) (cap:=grownCap w ys.length 0 e) (sz:=(E.C.ty e).size)
    (by rw[hsize,←hflat.1,n1.len];exact Nat.mul_le_mul_right _ hge) (fun j x v hx hv=>by
     have hj:j < news.length:=by rw[hflat.1];exact(List.getElem?_eq_some_iff.1 hx).1
     refine hcell j x v hx ?_;rw[Array.getElem?_append_left (by simpa using hj)] at hv
     simpa using hv) hge (by rw[hsize];exact Nat.le_refl _)
   exact⟨_,_,G',hrun,r1,_,r2 κ (fun _=>.ext)⟩
  ·rename_i sz id k;rw[Option.bind_eq_some_iff] at happ;obtain⟨cs,hcs,happ⟩:=happ;split at happ
   case isFalse=>cases happ
   rename_i hcond;obtain⟨rfl,hle,hlim⟩:=hcond;cases happ;have hvr:=hv.vr;cases hvr with
   |rs b _ _ _ cap _ hrho hcap hlen=>
    obtain⟨b',arr,e',j1,j2,j3,j4,j5,j6⟩:=h.rel.cells hcs;rw[hrho] at j2;cases j2;have harr:=j5.1
    by_cases hroom:k+ys.length≤cap
    ·
     have hk':=h.kill id S.length true;have hLe:G.Le (G.relabel (Cl id S.length true)):=⟨fun _ _ _ e=>e,fun _ _ e=>e,fun _=>Nat.le_refl _⟩
     have hrole:(G.relabel (Cl id S.length true)).role b= .obj S.length:=by simp[Gh.relabel,j3,Cl]
     have hlenb:G.len b≤arr.size:=by
      rcases Nat.eq_zero_or_pos (G.len b) with e0|e0
      ·omega
      ·obtain⟨arr2,e2,_,q1,q2⟩:=h.rel.len b (by omega)
       rw[j4] at q1;cases q1;exact q2
     have hmul:(k+ys.length)*(E.C.ty e).size≤cap*(E.C.ty e).size:=Nat.mul_le_mul_right _ hroom;rw[Nat.add_mul] at hmul;have hfit:0+k*(E.C.ty e).size+news.length≤arr.size:=by rw[n1.len];omega
     have hrun:=Ih (P:=E.P) (w:=w) (ty:=ty) hul hdu hni h1 j4 hroom (n2 E.P w) (by rw[h2];exact n3 E.P w rfl) n1.oneCell (by rw[h2];exact hfit)
     rw[h2] at hrun
     let arr':=(arr.toList.take (0+k*(E.C.ty e).size)++news++arr.toList.drop (0+k*(E.C.ty e).size+news.length)).toArray
     have hget:∀j,arr'[j]? =if 0+k*(E.C.ty e).size≤j∧j < 0+k*(E.C.ty e).size+news.length then news[j - (0+k*(E.C.ty e).size)]? else arr[j]?:=fun j=>by
      simp only[arr',List.getElem?_toArray];rw[Dg _ _ _ _ (by simpa using hfit)]
      simp
     have hc:=Chg.setRow (w:=w) hrole arr';have hrel:=hk'.rel.setRow hrole (.inl ⟨S.length,rfl⟩) j4 (arr:=arr') (D1 hfit) (S.set id .dead) rfl fun id' o ho=>.inl ⟨ho,fun e1=>by
      cases e1;have:=(List.getElem?_eq_some_iff.1 ho).1;simp at this⟩
     have hrf:RF E f n Gs ws (G.relabel (Cl id S.length true)) (w.setRow b arr') (S.set id .dead) a fr before:=⟨hrel,hk'.frr.chg hc (by simp) (by simp) (by simp) (by simp),hk'.kept.chg hc (by simp),hk'.pr⟩
     have hrow:D4 (G.relabel (Cl id S.length true)) w (.ocell S.length) arr cs:=(j5.relabel (f:=Cl id S.length true)).rekey fun j=>by simp[Cl]
     have hrow2:D4 (G.relabel (Cl id S.length true)) w (.ocell S.length) arr' (cs.take (k*(E.C.ty e).size)++ys.flatten):=
      hrow.append hle hflat.1 (fun j x v a b=>by obtain⟨q1,q2⟩:=hcell j x v a b;exact⟨q1.mono hLe,q2⟩) (by simp only[arr'];rw[D1 hfit];omega)
       (fun j hj=>by rw[hget,if_neg (by omega)]) (fun j hj=>by rw[hget,if_pos (by omega)];congr 1;omega)
     have hsl:(S.set id .dead).length=S.length:=by simp
     have hLe2:(G.relabel (Cl id S.length true)).Le ((G.relabel (Cl id S.length true)).obj (S.set id .dead).length b):=⟨fun _ _ _ e=>e,fun i b' e=>by
      have:=(hrf.rel.rho i b' e).1
      show (if i=(S.set id .dead).length then some b else G.rho i)=some b'
      rw[if_neg (Nat.ne_of_lt this)];exact e,fun _=>Nat.le_refl _⟩
     have hc3:Chg (fun _=>False) (G.relabel (Cl id S.length true)) (w.setRow b arr') ((G.relabel (Cl id S.length true)).obj (S.set id .dead).length b) (w.setRow b arr'):=⟨hLe2,Nat.le_refl _,fun _ _ _=>⟨rfl,rfl,fun _=>rfl⟩⟩
     have hfin:=hrf.addObj (b:=b) (by simpa using (h.rel.rho id b hrho).2) (.cells (cs.take (k*(E.C.ty e).size)++ys.flatten) 0)
      ⟨b,arr',e',by simp[Gh.obj],by show (G.relabel (Cl id S.length true)).role b=_;rw[hrole,hsl],setRow_heap w b arr arr' e' _ j4,((hrow2.chg hc (by simp)).chg hc3 (by simp)).rekey fun j=>(by rw[hsl]),fun e=>(e rfl).elim⟩
     refine⟨_,_,_,hrun,hfin,fun _=>.ext,.of_cell1 (.rs b _ 0 _ cap _ (by simp[Gh.obj]) (by omega) ?_) rfl⟩
     show 0+cap*_≤G.len b
     exact hlen
    ·
     have hlt:cap < k+ys.length:=by omega
     obtain⟨f1,f2⟩:=fits hbytes hlim hlt
     let olds:List Value:=arr.toList.take (k*(E.C.ty e).size)
     have hol:olds.length=k*(E.C.ty e).size:=by simp[olds];omega
     have hfo:∀w':World,w'.heap=w.heap→(Builtin.firstCells (E.C.ty e).size k (.slice (some ⟨b,0,none⟩) k cap)).run E.P w'= .ok olds.toArray w':=fun w' hh=>by
      have:=Hy (P:=E.P) (w:=w) (w':=w') hh (ad:=⟨b,0,none⟩) (cs:=olds) (fun j u hj=>by
       rw[Addr.add_lit,KC j4,Nat.zero_add];simp only[olds,List.getElem?_take] at hj;split at hj
       ·simpa using hj
       ·cases hj)
      rw[hol] at this;simpa[Builtin.firstCells] using this
     have hrun:=GI (P:=E.P) (w:=w) (ty:=ty) hul hdu hni h1 h4 hlt (n2 E.P w) (by rw[h2];exact n3 E.P w.drew rfl) (by rw[h2];exact hfo w.drew rfl) f1 (by rw[h3];exact f2)
     have hge:=grownCap_ge w (k+ys.length) cap e;have hk':=h.drew.kill id S.length false;have hLe:G.Le (G.relabel (Cl id S.length false)):=⟨fun _ _ _ e=>e,fun _ _ e=>e,fun _=>Nat.le_refl _⟩
     have hsl:(S.set id .dead).length=S.length:=by simp
     have hrow0:D4 (G.relabel (Cl id S.length false)) w (.ocell S.length) arr cs:=(j5.relabel (f:=Cl id S.length false)).rekey fun j=>by simp[Cl]
     have hrow:D4 (G.relabel (Cl id S.length false)) w.drew (.ocell S.length) arr cs:=D4.chg (K:=fun _=>False) (G:=G.relabel (Cl id S.length false)) (w:=w) (G':=G.relabel (Cl id S.length false)) (w':=w.drew)
      ⟨.refl _,Nat.le_refl _,fun _ _ _=>⟨rfl,rfl,fun _=>rfl⟩⟩ (by simp) hrow0
     have hsize:(olds.toArray++news.toArray++Builtin.zeroCells z.cells (grownCap w (k+ys.length) cap e - (k+ys.length))).size=grownCap w (k+ys.length) cap e*(E.C.ty e).size:=by
      simp only[Array.size_append,List.size_toArray,size_zeroCells,h8,hol,n1.len,←Nat.add_mul];congr 1;omega
     have hgm:(k+ys.length)*(E.C.ty e).size≤grownCap w (k+ys.length) cap e*(E.C.ty e).size:=Nat.mul_le_mul_right _ hge;rw[Nat.add_mul] at hgm;have hrow2:D4 (G.relabel (Cl id S.length false)) w.drew (.ocell S.length) (olds.toArray++news.toArray++Builtin.zeroCells z.cells (grownCap w (k+ys.length) cap e - (k+ys.length))) (cs.take (k*(E.C.ty e).size)++ys.flatten):=
      hrow.append hle hflat.1 (fun j x v a b=>by obtain⟨q1,q2⟩:=hcell j x v a b;exact⟨q1.mono hLe,q2⟩) (by rw[hsize,n1.len];omega)
       (fun j hj=>by
        rw[Array.getElem?_append_left (by simp[hol];omega),Array.getElem?_append_left (by simp[hol];omega)]
        simp[olds,hj])
       (fun j hj=>by
        rw[Array.getElem?_append_left (by simp[hol];omega),Array.getElem?_append_right (by simp[hol])]
        simp[hol])
     obtain⟨G',r1,r2⟩:=hk'.newObj' (e:=e) (len:=k+ys.length) (cap:=grownCap w (k+ys.length) cap e) (sz:=(E.C.ty e).size) (hrow2.rekey fun j=>by rw[hsl]) hge (by rw[hsize];exact Nat.le_refl _)
     rw[hsl] at r2;exact⟨_,_,G',hrun,r1,_,r2 κ (fun _=>.ext)⟩
  ·cases happ
variable {E:Env} {f n:Nat} {Gs G:Gh} {ws w:World} {S:St} {a:Act} {fr:Fr} {before:List Oper}
theorem Rt.strip_strip(r:Rt):r.strip.strip=r.strip:=by cases r<;>rfl
theorem AV.strip1_strip1(a:AV):a.strip1.strip1=a.strip1:=by
 cases a<;>try rfl
 rename_i sz es r;simp[AV.strip1,Rt.strip_strip]
theorem AV.strip_strip{a:AV}(h:a.free=true):a.strip.strip=a.strip:=by
 rcases AV.free_cases h with ⟨h1,h2⟩|⟨cs,rfl,h1⟩
 ·rw[AV.strip_of_free1 h1,AV.strip_of_free1 (by rw[AV.free1_strip1];exact h1),AV.strip1_strip1]
 ·simp only[AV.strip,AV.strip2,List.map_map];congr 1;apply List.map_congr_left;intro x _;exact AV.strip1_strip1 x
theorem V2{as bs:List AV}(h:OV as=some bs):bs.length=as.length∧∀(i:Nat) (x:AV),bs[i]? =some x→∃y,as[i]? =some y∧y.free=true∧x=y.strip:=by
 unfold OV at h;split at h
 ·rename_i hf;cases h;refine⟨by simp,fun i x hx=>?_⟩
  rw[List.getElem?_map,Option.map_eq_some_iff] at hx;obtain⟨y,hy,rfl⟩:=hx;exact⟨y,hy,(List.all_eq_true.1 hf) y (List.mem_of_getElem? hy),rfl⟩
 ·cases h
def Key.isObj:Key→Prop
 | .obj _| .ocell _ _=>True
 |_=>False
def Mx:Key→Key
 | .obj id=>.obj id
 | .ocell id j=>.ocell id j
 |_=>.ext
def Key.local:Key→Bool
 | .ext| .obj _| .ocell _ _=>false
 |_=>true
def backTo(d:Nat):Key→Key
 | .ret=>.slot d
 | .retc i=>.slotc d i
 |κ=>κ
theorem RF.called(h:RF E f n Gs ws G w S a fr before){g:Nat}{as:List AV}{Q:AV→St→Prop}(hc:AN E g as S Q){args':Array Value}(hl:args'.size=as.length)
  (hargs:∀(i:Nat) (x:AV) (v:Value),as[i]? =some x→args'[i]? =some v→VR G v x∧x.free=true∧x.strip=x) {o:Oper} (hd:∀d,o.dst=some d→d < n∧E.C.loc f d=false)
  (hop:BF E.C (fun y=>AD E.C f y before) o.op=none):
  Calls E.P g args' w fun e w'=>∃v r S' G',e= .returned v∧Q r S'∧RF E f n Gs ws G' w' S' (a.put o.dst v) (fr.put o.dst r) (o::before):=by
 obtain⟨_,hc⟩:=hc;have hLe:G.Le (G.relabel Mx):=⟨fun _ _ _ e=>e,fun _ _ e=>e,fun _=>Nat.le_refl _⟩
 have hrel:Rel E (G.relabel Mx) w S:=h.rel.relabel rfl (fun κ id e=>by cases κ<;>simp[Mx] at e;subst e;rfl) (fun κ t e=>by cases κ<;>simp[Mx] at e) (fun _=>rfl) (fun _ _=>rfl)
 refine(hc (G.relabel Mx) w hrel (fun b=>?_) args' hl fun i x v hx hv=>?_).mono fun e w'=>?_
 ·cases hr:G.role b<;>simp[Gh.relabel,hr,Mx]
 ·obtain⟨h1,h2,h3⟩:=hargs i x v hx hv;exact⟨h1.mono hLe,h2,h3⟩
 rintro⟨v,r,S',G2,rfl,hq,hrel2,hval,hkept,hroles⟩
 let d:=o.dst.getD 0
 let G3:Gh:={G2 with role:=fun b=>if b < w.heap.size∧(G.role b).local=true then G.role b else backTo d (G2.role b)}
 have hext:∀b,b < w.heap.size→(G.role b).local=true∨G.role b= .ext→w'.heap[b]? =w.heap[b]?∧G2.role b= .ext∧∀j,G2.imm b j=G.imm b j:=by
  intro b hb hr;have h0:(G.relabel Mx).role b= .ext:=by
   rcases hr with hr|hr
   ·cases hk:G.role b<;>simp[hk,Key.local] at hr<;>simp[Gh.relabel,hk,Mx]
   ·simp[Gh.relabel,hr,Mx]
  obtain⟨k1,k2,k3⟩:=hkept.keep b hb (by simp[h0])
  exact⟨k1,k2.trans h0,k3⟩
 have hnotloc:∀b κ,G2.role b=κ→κ≠ .ext→G3.role b=backTo d κ:=by
  intro b κ hr hne
  show (if b < w.heap.size∧(G.role b).local=true then G.role b else backTo d (G2.role b))=_
  rw[if_neg ?_,hr];rintro⟨hb,hlc⟩;exact hne (by rw[←hr];exact(hext b hb (.inl hlc)).2.1)
 have hLe3:G.Le G3:=⟨fun b o v e=>hkept.le.imm b o v e,fun i b e=>hkept.le.rho i b e,fun b=>hkept.le.len b⟩
 have hchg:Chg Key.isObj G w G3 w':=⟨hLe3,hkept.size,fun b hb hk=>by
  by_cases hlc:(G.role b).local=true
  ·obtain⟨k1,k2,k3⟩:=hext b hb (.inl hlc);exact⟨k1,by show (if _ then _ else _)=_;rw[if_pos ⟨hb,hlc⟩],k3⟩
  ·have he:G.role b= .ext:=by cases hr:G.role b<;>simp[hr,Key.local,Key.isObj] at hlc hk<;>rfl
   obtain⟨k1,k2,k3⟩:=hext b hb (.inr he);refine⟨k1,?_,k3⟩
   show (if _ then _ else _)=_
   rw[if_neg (fun hh=>hlc hh.2),k2,he];rfl⟩
 have htail:∀{κ:Key} {v:Value} {x:AV},κ≠ .ext→Tail G2 w' κ v x→Tail G3 w' (backTo d κ) v x:=by
  intro κ v x hne ht ho;obtain⟨b,o,len,cap,hv,sz,es,tt,ha,hl,hh⟩:=ht ho;obtain⟨q1,q2,q3⟩:=hh;exact⟨b,o,len,cap,hv,sz,es,tt,ha,hl,hnotloc b κ q1 hne,q2,q3⟩
 have hLe23:G2.Le G3:=⟨fun _ _ _ e=>e,fun _ _ e=>e,fun _=>Nat.le_refl _⟩
 have hrel3:Rel E G3 w' S':=by
  refine⟨hrel2.os,hrel2.tape,hrel2.output,hrel2.size,fun b hb=>⟨(hrel2.old b hb).1,?_⟩,hrel2.imm,fun b hb=>?_,fun b hb j=>?_,hrel2.rho,hrel2.len,fun id ob hob=>?_⟩
  ·have:=(h.rel.old b hb).2
   show (if _ then _ else _)=_
   rw[if_neg (by simp[this,Key.local]),(hrel2.old b hb).2];rfl
  ·show (if _ then _ else _)=_
   rw[if_neg (fun hh=>by have:=hkept.size;omega),hrel2.role b hb];rfl
  ·by_cases hlc:b < w.heap.size∧(G.role b).local=true
   ·have hr3:G3.role b=G.role b:=by show (if _ then _ else _)=_;rw[if_pos hlc]
    rw[hr3] at hb;have:=h.rel.noimm b hb j;rw[←this];exact(hext b hlc.1 (.inl hlc.2)).2.2 j
   ·have hr3:G3.role b=backTo d (G2.role b):=by show (if _ then _ else _)=_;rw[if_neg hlc]
    rw[hr3] at hb;refine hrel2.noimm b ?_ j;rcases hb with ⟨id,hb⟩|⟨t,hb⟩
    ·refine .inl ⟨id,?_⟩;cases hr:G2.role b<;>simp[hr,backTo] at hb<;>simp[hb]
    ·refine .inr ⟨t,?_⟩;cases hr:G2.role b<;>simp[hr,backTo] at hb<;>simp[hb]
  ·have:=hrel2.obj id ob hob;cases ob with
   |cells cs tg=>
    obtain⟨b,arr,e,q1,q2,q3,q4,q5⟩:=this;exact⟨b,arr,e,q1,hnotloc b _ q2 (by simp),q3,⟨q4.1,fun j x v hx hv=>by
     obtain⟨c1,c2,c3⟩:=q4.2 j x v hx hv;exact⟨c1.mono hLe23,c2,htail (κ:=.ocell id j) (by simp) c3⟩⟩,q5⟩
   |map m=>
    obtain⟨b,es,clk,q1,q2,q3,q4,q5⟩:=this;exact⟨b,es,clk,q1,hnotloc b _ q2 (by simp),q3,q4,fun i e p e1 e2=>(q5 i e p e1 e2).mono hLe23⟩
   |bld T e l=>
    refine Sz.keep (G:=G2) (w:=w') (fun b hb=>hb) (fun b hb hlt=>⟨?_,rfl,fun _=>rfl⟩) this
    rcases hb with hb|hb
    ·rw[hnotloc b _ hb (by simp),hb];rfl
    ·rw[hnotloc b _ hb (by simp),hb];rfl
   |dead=>trivial
 have hrf:RF E f n Gs ws G3 w' S' a fr before:=⟨hrel3,h.frr.chg hchg (by simp[Key.isObj]) (by simp[Key.isObj]) (by simp[Key.isObj]) (by simp[Key.isObj]),h.kept.chg hchg (by simp[Key.isObj]),h.pr⟩
 refine⟨v,r,S',G3,rfl,hq,hrf.put hd (fun d' e=>?_) (fun d' e b off hx=>by rw[hop] at hx;cases hx)⟩
 have hdd:d=d':=by simp[d,e]
 rw[←hdd];exact⟨hval.vr.mono hLe23,htail (κ:=.ret) (by simp) hval.tail,hval.agg,fun cs vs e1 e2 i x u hx hu=>htail (κ:=.retc i) (by simp) (hval.comp cs vs e1 e2 i x u hx hu),hval.comp2⟩
def PZ(t i d:Nat):Key→Key:=fun κ=>if κ= .slotc t i then .slot d else κ
theorem RF.takeComp(h:RF E f n Gs ws G w S a fr before)(t i d:Nat){x:AV}(hx:Ah (fr.v t) i=some x):
  ∃G' v,RF E f n Gs ws G' w S a (fr.set t (AQ (fr.v t) i)) before∧(Instr.extract (Act.at a t) i).run E.P w= .ok v w∧Bw G' w (.slot d) (.slotc d) v x:=by
 unfold Ah at hx;split at hx
 case h_2=>cases hx
 rename_i cs hcs;have hslot:=h.frr.slot t;rw[hcs] at hslot;have hinv:∃vs:Array Value,Act.at a t= .tuple vs∧vs.size=cs.length:=by
  have:=hslot.vr;generalize Act.at a t=v at this;cases this with
  |tup _ vs hl _=>exact⟨vs,rfl,hl⟩
 obtain⟨vs,hvs,hlen⟩:=hinv;have hlt:i < vs.size:=by rw[hlen];exact(List.getElem?_eq_some_iff.1 hx).1
 have hvi:vs[i]? =some vs[i]:=by simp[hlt]
 have hvr:∀(j:Nat) (y:AV) (u:Value),cs[j]? =some y→vs[j]? =some u→VR G u y:=by
  have:=hslot.vr;rw[hvs] at this;cases this with
  |tup _ _ _ hh=>exact hh
 let g:=PZ t i d
 have gfix:∀κ,κ≠ .slotc t i→g κ=κ:=fun κ hne=>by simp[g,PZ,hne]
 have hLe:G.Le (G.relabel g):=⟨fun _ _ _ e=>e,fun _ _ e=>e,fun _=>Nat.le_refl _⟩
 have hcomp2:=hslot.comp2 cs rfl;have hx2:=hcomp2 x (List.mem_of_getElem? hx);refine⟨G.relabel g,vs[i],⟨h.rel.relabel (gfix _ (by simp)) (fun κ id e=>?_) (fun κ id e=>?_) (fun _=>gfix _ (by simp)) (fun _ _=>gfix _ (by simp)),⟨h.frr.defers,h.frr.size,fun t'=>?_,fun t' cs' hb=>?_⟩,h.kept.relabel (gfix _ (by simp)),h.pr⟩,?_,?_⟩
 ·simp only[g,PZ] at e;split at e<;>simp_all
 ·simp only[g,PZ] at e;split at e<;>simp_all
 ·simp only[Fr.set]
  by_cases e:t'=t
  ·subst e;simp only[if_true,hcs,AQ,hvs];have hmod:∀(j:Nat) (y:AV),(cs.modify i AV.strip2)[j]? =some y→∃y0,cs[j]? =some y0∧y=if j=i then y0.strip2 else y0:=by
    intro j y hy;rw[List.getElem?_modify] at hy;cases hc:cs[j]? with
    |none=>rw[hc] at hy;simp at hy
    |some y0=>
     rw[hc] at hy
     by_cases e:i=j
     ·subst e;simp at hy;exact⟨y0,rfl,by simp[hy]⟩
     ·simp[e] at hy;exact⟨y0,rfl,by simp[Ne.symm e,hy]⟩
   refine⟨.tup _ vs (by simpa using hlen) fun j y u hy hu=>?_,.of_not rfl,by simp,?_,?_⟩
   ·obtain⟨y0,hy0,rfl⟩:=hmod j y hy;have:=(hvr j y0 u hy0 hu).mono hLe;split
    ·exact this.strip2
    ·exact this
   ·intro cs1 vs1 e1 e2 j y u hy hu;cases e1;cases e2;obtain⟨y0,hy0,rfl⟩:=hmod j y hy;split
    ·refine .of_not ?_;have hn:=(hcomp2 y0 (List.mem_of_getElem? hy0)).2;cases y0 with
     |vs sz es r=>exact AV.own_strip1 (.vs sz es r)
     |tup ds=>exact(hn ds rfl).elim
     |_=>rfl
    ·rename_i hne;have:=(hslot.comp cs vs rfl hvs j y0 u hy0 hu).relabel (f:=g)
     rwa [gfix _ (by simpa using hne)] at this
   ·intro cs1 e1 y hy;cases e1;obtain⟨j,hj⟩:=List.getElem?_of_mem hy;obtain⟨y0,hy0,rfl⟩:=hmod j y hj;have h0:=hcomp2 y0 (List.mem_of_getElem? hy0);split
    ·cases y0 with
     |tup ds=>exact(h0.2 ds rfl).elim
     |agg ds=>
      refine⟨fun es hes c hc=>?_,by simp[AV.strip2]⟩
      simp only[AV.strip2,AV.agg.injEq] at hes;subst hes;simp only[List.mem_map] at hc;obtain⟨z,_,rfl⟩:=hc;exact AV.own_strip1 z
     |_=>exact⟨by simp[AV.strip2,AV.strip1],by simp[AV.strip2,AV.strip1]⟩
    ·exact h0
  ·simp only[e,if_false];exact((h.frr.slot t').relabel (f:=g)).rekey (gfix _ (by simp)) (fun j=>gfix _ (by simp[e]))
 ·obtain⟨h1,b,arr,e,h2,h3,h4,h5⟩:=h.frr.box t' cs' hb;exact⟨h1,b,arr,e,h2,by simp only[Gh.relabel,h3];exact gfix _ (by simp),h4,h5.relabel.rekey fun j=>gfix _ (by simp)⟩
 ·rw[hvs];simp[Instr.extract,hlt]
 ·have ht:=(hslot.comp cs vs rfl hvs i x _ hx hvi).relabel (f:=g);have e1:g (.slotc t i)= .slot d:=by simp[g,PZ]
  rw[e1] at ht;exact⟨(hvr i x _ hx hvi).mono hLe,ht,hx2.1,fun cs' _ e=>(hx2.2 cs' e).elim,fun cs' e=>(hx2.2 cs' e).elim⟩
variable {E:Env} {f n:Nat} {Gs G:Gh} {ws w:World} {S:St} {a:Act} {fr:Fr} {before:List Oper}
def HH(E:Env)(Ca:Nat→List AV→St→(AV→St→Prop)→Prop):Prop:=∀g as S Q,Ca g as S Q→AN E g as S Q
theorem RF.resolved(h:RF E f n Gs ws G w S a fr before){x:Operand}{b off:Nat}(hr:resolve E.C f before x=some (b,off)):E4 a fr b off (a.eval x):=by
 cases x with
 |tmp x=>exact h.pr x b off hr
 |_=>simp[resolve] at hr
section
variable {o:Oper} {Q:Exit→Act→World→Prop} {next:Act→World→Prop}
theorem AL{v:Value}{w':World}(hr:(execOp a.eval o).run E.P w= .ok (.value v) w')(h:next (a.put o.dst v) w'):o.wp E.P a w next Q:=by
 unfold Oper.wp;rw[hr];exact h
theorem L8{w':World}(hr:(execOp a.eval o).run E.P w= .ok .skip w')(h:next (a.put o.dst undef) w'):o.wp E.P a w next Q:=by
 unfold Oper.wp;rw[hr];exact h
theorem Kj{g:Nat}{args:Array Value}{w':World}(hr:(execOp a.eval o).run E.P w= .ok (.enter g args) w')(h:Calls E.P g args w' fun e w''=>∃v,e= .returned v∧next (a.put o.dst v) w''):o.wp E.P a w next Q:=by
 unfold Oper.wp;rw[hr];refine h.mono fun e w''=>?_
 rintro⟨v,rfl,hn⟩;exact hn
end
theorem AF{α:Type}{x:Option α}{k:α→Prop}(h:AA x k):∃y,x=some y∧k y:=by
 cases x with
 |none=>exact h.elim
 |some y=>exact⟨y,rfl,h⟩
theorem Xy{C:Ctx}{f:Nat}{o:Oper}(h:Mf C f o=true)(h1:∀t,o.op≠ .alloc t)(h2:∀t x,o.op≠ .box t x):∀d,o.dst=some d→C.loc f d=false:=by
 intro d hd
 revert h
 unfold Mf;rw[hd];cases hop:o.op with
 |alloc t=>exact(h1 t hop).elim
 |box t x=>exact(h2 t x hop).elim
 |_=>
  intro h;simp only at h;cases hl:C.loc f d with
  |false=>rfl
  |true=>rw[hl] at h;cases h
theorem PV{G:Gh}{C:Ctx}(hv:∀t x,VR G (a.eval x) (opd C fr t x)):∀{ts:List Nat} {xs:List Operand},ts.length=xs.length→
  ((ts.zip xs).map fun p=>opd C fr p.1 p.2).length=xs.length∧∀(i:Nat) (y:AV) (v:Value),((ts.zip xs).map fun p=>opd C fr p.1 p.2)[i]? =some y→(xs.map a.eval)[i]? =some v→VR G v y:=by
 intro ts xs hl;refine⟨by simp[hl],fun i y v hy hv'=>?_⟩
 simp only[List.getElem?_map,Option.map_eq_some_iff] at hy hv';obtain⟨p,hp,rfl⟩:=hy;obtain⟨x,hx,rfl⟩:=hv';rw[List.getElem?_zip_eq_some] at hp;rw[hx] at hp;simp only[Option.some.injEq] at hp;rw[←hp.2];exact hv _ _
theorem JG{P:Program}{w:World}{g:Nat}(h:∃fn,P.funcs[g]? =some fn∧fn.body.isNone=false∧(fn.name== "runtime.NumGoroutine")=false) (args:Array Value):(callFunc g args).run P w= .ok (.enter g args) w:=by
 obtain⟨fn,h1,h2,h3⟩:=h;simp only[callFunc,Sem.run_bind,run_program,Result.andThen_ok,h1];rw[if_neg (by rw[h3];simp),if_neg (by rw[h2];simp)]
 rfl
theorem Sp{G:Gh}{as bs:List AV}(hb:OV as=some bs){vs:Array Value}(hl:vs.size=as.length)(hv:∀(i:Nat) (y:AV) (v:Value),as[i]? =some y→vs[i]? =some v→VR G v y):
  vs.size=bs.length∧∀(i:Nat) (x:AV) (v:Value),bs[i]? =some x→vs[i]? =some v→VR G v x∧x.free=true∧x.strip=x:=by
 obtain⟨h1,h2⟩:=V2 hb;refine⟨by omega,fun i x v hx hv'=>?_⟩
 obtain⟨y,hy,hf,rfl⟩:=h2 i x hx;exact⟨(hv i y v hy hv').strip,AV.strip_free hf,AV.strip_strip hf⟩
theorem MA{G:Gh}{xs ys:List AV}{us vs:Array Value}(h1:us.size=xs.length)(h2:∀(i:Nat) (x:AV) (v:Value),xs[i]? =some x→us[i]? =some v→VR G v x)
  (h4:∀(i:Nat) (x:AV) (v:Value),ys[i]? =some x→vs[i]? =some v→VR G v x):∀(i:Nat) (x:AV) (v:Value),(xs++ys)[i]? =some x→(us++vs)[i]? =some v→VR G v x:=by
 intro i x v hx hv
 by_cases e:i < xs.length
 ·rw[List.getElem?_append_left e] at hx;rw[Array.getElem?_append_left (by omega)] at hv
  exact h2 i x v hx hv
 ·rw[List.getElem?_append_right (by omega)] at hx
  rw[Array.getElem?_append_right (by omega),h1] at hv
  exact h4 _ x v hx hv
theorem Or{C:Ctx}{o:Oper}{c:Call}{b:Builtin}(ho:o.op= .call c)(hg:c.callee= .builtin b):∀t∈c.argTypes.toList,∀t'∈Ct C t,t'∈CL C o:=by
 intro t ht t' ht';obtain⟨callee,args,argTypes⟩:=c;simp only at hg;subst hg;unfold CL;rw[ho];exact List.mem_flatMap.2 ⟨t,ht,ht'⟩
theorem CE(C:Ctx)(t:Nat):t∈Ct C t:=by simp[Ct]
theorem Dx{C:Ctx}{t e:Nat}(h:(C.ty t).kind= .slice e):e∈Ct C t:=by simp[Ct,h]
theorem IL{C:Ctx}{t n e:Nat}(h:(C.ty t).kind= .array n e):e∈Ct C t:=by simp[Ct,h]
theorem It{C:Ctx}{t k e:Nat}(h:(C.ty t).kind= .map k e):k∈Ct C t∧e∈Ct C t:=by simp[Ct,h]
theorem SY{C:Ctx}{t:Nat}{fs:List (Nat×Nat×Nat)}(h:(C.ty t).kind= .struct fs){i:Nat}{p:Nat×Nat×Nat}(hp:fs[i]? =some p):p.2.1∈Ct C t:=by
 simp only[Ct,h];exact List.mem_cons_of_mem _ (List.mem_map.2 ⟨p,List.mem_of_getElem? hp,rfl⟩)
theorem TN{P:Program}{w:World}{ρ:Operand→Value}{o:Oper}{c:Call}{b:Builtin}(ho:o.op= .call c)(hg:c.callee= .builtin b):
  ∃cs,(execOp ρ o).run P w=(builtin b c.argTypes o.type cs (c.args.map ρ)).run P w:=
 ⟨c.args.map fun| .const _=>true|_=>false,by simp only[execOp,ho,Go.resolve,hg,Sem.run_bind,Sem.run_pure,Result.andThen_ok,invoke];rfl⟩
theorem GJ{α:Type}{xs:Array α}{l:List α}(h:xs.toList=l):xs=l.toArray:=by rw[←h]
def QI(d:Nat):Key→Key
 | .ret=>.slot d
 | .retc i=>.slotc d i
 |κ=>κ
theorem RF.fromRet(h:RF E f n Gs ws G w S a fr before)(d:Nat){v:Value}{x:AV}(hv:Bw G w .ret .retc v x):
  RF E f n Gs ws (G.relabel (QI d)) w S a fr before∧Bw (G.relabel (QI d)) w (.slot d) (.slotc d) v x:=by
 refine⟨⟨h.rel.relabel rfl (fun κ id e=>by cases κ<;>simp[QI] at e<;>simp[e]) (fun κ t e=>by cases κ<;>simp[QI] at e<;>simp[e]) (fun _=>rfl) (fun _ _=>rfl),
  ⟨h.frr.defers,h.frr.size,fun t=>((h.frr.slot t).relabel (f:=QI d)).rekey rfl (fun _=>rfl),fun t cs hb=>?_⟩,h.kept.relabel rfl,h.pr⟩,(hv.relabel (f:=QI d)).rekey rfl (fun _=>rfl)⟩
 obtain⟨h1,b,arr,e,h2,h3,h4,h5⟩:=h.frr.box t cs hb;exact⟨h1,b,arr,e,h2,by simp[Gh.relabel,h3,QI],h4,h5.relabel.rekey fun j=>rfl⟩
theorem RF.done(h:RF E f n Gs ws G w S a fr before){o:Oper}(hd:∀d,o.dst=some d→d < n∧E.C.loc f d=false)(hop:BF E.C (fun y=>AD E.C f y before) o.op=none){v:Value}{x:AV}
  (hv:∀κ κc,Bw G w κ κc v x) {K:Fr→St→Prop} {next:Act→World→Prop} (hk:K (fr.put o.dst x) S)
  (hnext:∀G' w' S' a' fr',RF E f n Gs ws G' w' S' a' fr' (o::before)→K fr' S'→next a' w'):next (a.put o.dst v) w:=
 hnext _ _ _ _ _ (h.put (v:=v) (x:=x) hd (fun d _=>hv _ _) (fun d _ b off hx=>by rw[hop] at hx;cases hx)) hk
theorem Uc(A:Agree E){Ca:Nat→List AV→St→(AV→St→Prop)→Prop}(hCa:HH E Ca)(h:RF E f n Gs ws G w S a fr before){o:Oper}{c:Call}(ho:o.op= .call c)(hd:∀d,o.dst=some d→d < n∧E.C.loc f d=false)
  (hT:∀t∈CL E.C o,E.C.has t=true) {K:Fr→St→Prop} (hw:FQ E.C Ca c o.type o.dst fr S K) {Q:Exit→Act→World→Prop} {next:Act→World→Prop}
  (hnext:∀G' w' S' a' fr',RF E f n Gs ws G' w' S' a' fr' (o::before)→K fr' S'→next a' w'):o.wp E.P a w next Q:=by
 have hop:BF E.C (fun y=>AD E.C f y before) o.op=none:=by rw[ho];rfl
 have hv:=h.frr.opdV;unfold FQ at hw;split at hw
 ·
  rename_i g hg;split at hw
  case h_2=>exact hw.elim
  rename_i hsz;have hsz':c.argTypes.toList.length=c.args.toList.length:=by simpa using Nat.eq_of_beq_eq_true hsz
  obtain⟨bs,hbs,hw⟩:=AF hw;obtain⟨z1,z2⟩:=PV (G:=G) (C:=E.C) hv hsz';have hcs:=hCa _ _ _ _ hw;obtain⟨k1,k2⟩:=Sp (vs:=c.args.map a.eval) hbs (by rw[z1];simp) (fun i y v hy hv'=>z2 i y v hy (by simpa using hv'))
  refine Kj (g:=g) (args:=c.args.map a.eval) (w':=w) ?_ ((h.called hcs k1 k2 hd hop).mono fun e w'=>?_)
  ·simp only[execOp,ho,Go.resolve,hg,Act.eval,Deferred.ofValue,Sem.run_bind,Sem.run_pure,Result.andThen_ok,invoke];rw[JG hcs.1];simp
  ·rintro⟨v,r,S',G',rfl,hq,hrf⟩;exact⟨v,rfl,hnext _ _ _ _ _ hrf hq⟩
 ·
  rename_i g hgn hg;split at hw
  case h_2=>exact hw.elim
  rename_i hsz;have hsz':c.argTypes.toList.length=c.args.toList.length:=by simpa using Nat.eq_of_beq_eq_true hsz
  obtain⟨p,hp,hw⟩:=AF hw;obtain⟨z1,z2⟩:=PV (G:=G) (C:=E.C) hv hsz';have hgv:=hv 0 g;unfold Wc at hp;split at hp
  case h_2=>cases hp
  rename_i gi first cap hfn
  rw[hfn] at hgv;rw[Option.map_eq_some_iff] at hp;obtain⟨bs,hbs,rfl⟩:=hp;generalize hge:a.eval g=gv at hgv;cases hgv with
  |fn _ _ _ first' cap' q1 q2 q3 q4=>
   have hcs:=hCa _ _ _ _ hw;obtain⟨k1,k2⟩:=Sp (vs:=first'++c.args.map a.eval++cap') hbs (by simp[q1,q2,z1])
    (MA (by simp[q1,z1]) (MA q1 q3 (fun i y v hy hv'=>z2 i y v hy (by simpa using hv'))) q4)
   refine Kj (g:=gi) (args:=first'++c.args.map a.eval++cap') (w':=w) ?_ ((h.called hcs k1 k2 hd hop).mono fun e w'=>?_)
   ·simp only[execOp,ho,Go.resolve,hg,hge,Deferred.ofValue,Sem.run_bind,Sem.run_pure,Result.andThen_ok,invoke];rw[JG hcs.1]
   ·rintro⟨v,r,S',G',rfl,hq,hrf⟩;exact⟨v,rfl,hnext _ _ _ _ _ hrf hq⟩
 ·
  rename_i r m hg;split at hw
  case h_2=>exact hw.elim
  rename_i hsz;have hsz':c.argTypes.toList.length=c.args.toList.length:=by simpa using Nat.eq_of_beq_eq_true hsz
  obtain⟨p,hp,hw⟩:=AF hw;obtain⟨z1,z2⟩:=PV (G:=G) (C:=E.C) hv hsz';have hgv:=hv 0 r;unfold WK at hp;split at hp
  case h_2=>cases hp
  rename_i t x hfn;rw[hfn] at hgv;rw[Option.bind_eq_some_iff] at hp;obtain⟨gi,hgi,hp⟩:=hp;rw[Option.map_eq_some_iff] at hp;obtain⟨bs,hbs,rfl⟩:=hp;generalize hge:a.eval r=gv at hgv;cases hgv with
  |ifc _ u _ hu=>
   have hcs:=hCa _ _ _ _ hw;obtain⟨k1,k2⟩:=Sp (vs:=#[u]++c.args.map a.eval) hbs (by simp[z1];omega)
    (MA (xs:=[x]) (us:=#[u]) rfl (fun i y v hy hv'=>by
     cases i with
     |zero=>simp at hy hv';subst hy hv';exact hu
     |succ i=>simp at hy) (fun i y v hy hv'=>z2 i y v hy (by simpa using hv')))
   refine Kj (g:=gi) (args:=#[u]++c.args.map a.eval) (w':=w) ?_ ((h.called hcs k1 k2 hd hop).mono fun e w'=>?_)
   ·have hm:=A.meth t m gi hgi u w;have hx:(#[Value.iface t u]++c.args.map a.eval).extract 1 (#[Value.iface t u]++c.args.map a.eval).size=c.args.map a.eval:=by
     apply Array.ext';simp[List.take_of_length_le]
    have h0:(#[Value.iface t u]++c.args.map a.eval)[0]? =some (Value.iface t u):=by rw[Array.getElem?_append_left (by simp)];rfl
    simp only[execOp,ho,Go.resolve,hg,hge,Sem.run_bind,Sem.run_pure,Result.andThen_ok,invoke,h0,hx,callMethod,run_program,hm];rw[JG hcs.1]
   ·rintro⟨v,r,S',G',rfl,hq,hrf⟩;exact⟨v,rfl,hnext _ _ _ _ _ hrf hq⟩
 ·
  rename_i b hg;obtain⟨cns,hexec⟩:=TN (P:=E.P) (w:=w) (ρ:=a.eval) ho hg;have hTy:=Or (C:=E.C) ho hg;split at hw
  ·
   rename_i t x hts hxs;have ht:E.C.has t=true:=hT _ (hTy t (by rw[hts];simp) t (CE _ _))
   have e1:=GJ hts;have e2:=GJ hxs;rw[e1,e2] at hexec;simp only[List.map_toArray,List.map_cons,List.map_nil] at hexec;split at hw
   ·split at hw
    ·rename_i hk;obtain⟨r,hr,hw⟩:=AF hw;obtain⟨z,q1,q2,q3⟩:=VP (w:=w) (ty:=o.type) A ht hk (hv t x) hr;refine AL (v:=z) (w':=w) ?_ (h.done hd hop (fun κ κc=>.of_cell1 q2 q3) hw hnext)
     rw[hexec];simp only[builtin,Sem.run_bind,q1,Result.andThen_ok,Sem.run_pure]
    ·rename_i e hk;obtain⟨r,hr,hw⟩:=AF hw;obtain⟨z,q1,q2,q3⟩:=XI (w:=w) (ty:=o.type) A ht hk (hv t x) hr;refine AL (v:=z) (w':=w) ?_ (h.done hd hop (fun κ κc=>.of_cell1 q2 q3) hw hnext)
     rw[hexec];simp only[builtin,Sem.run_bind,q1,Result.andThen_ok,Sem.run_pure]
    ·rename_i k e hk;obtain⟨r,hr,hw⟩:=AF hw;obtain⟨z,q1,q2,q3⟩:=VZ (ty:=o.type) A h.rel ht hk (hv t x) hr;refine AL (v:=z) (w':=w) ?_ (h.done hd hop (fun κ κc=>.of_cell1 q2 q3) hw hnext)
     rw[hexec];simp only[builtin,Sem.run_bind,q1,Result.andThen_ok,Sem.run_pure]
    ·exact hw.elim
   ·exact hw.elim
  ·
   rename_i t u x y hts hxs;have ht:E.C.has t=true:=hT _ (hTy t (by rw[hts];simp) t (CE _ _))
   have hu:E.C.has u=true:=hT _ (hTy u (by rw[hts];simp) u (CE _ _))
   have hand:∀t'∈Ct E.C t,E.C.has t'=true:=fun t' ht'=>hT _ (hTy t (by rw[hts];simp) t' ht')
   have e1:=GJ hts;have e2:=GJ hxs;rw[e1,e2] at hexec;simp only[List.map_toArray,List.map_cons,List.map_nil] at hexec;split at hw
   ·obtain⟨r,hr,hw⟩:=AF hw;obtain⟨z,q1,q2,q3⟩:=Zk (E:=E) (w:=w) (ats:=#[t,u]) (ty:=o.type) (hv t x) (hv u y) hr;refine AL (v:=z) (w':=w) ?_ (h.done hd hop (fun κ κc=>.of_cell1 q2 q3) hw hnext)
    rw[hexec];simp only[builtin,Sem.run_bind,q1,Result.andThen_ok,Sem.run_pure]
   ·obtain⟨r,hr,hw⟩:=AF hw;obtain⟨z,q1,q2,q3⟩:=ZP (E:=E) (w:=w) (ats:=#[t,u]) (ty:=o.type) (hv t x) (hv u y) hr;refine AL (v:=z) (w':=w) ?_ (h.done hd hop (fun κ κc=>.of_cell1 q2 q3) hw hnext)
    rw[hexec];simp only[builtin,Sem.run_bind,q1,Result.andThen_ok,Sem.run_pure]
   ·
    split at hw
    case h_2=>exact hw.elim
    rename_i e hk hku;have he:E.C.has e=true:=hand e (Dx hk);split at hw
    ·obtain⟨p,hp,hw⟩:=AF hw;obtain⟨G1,k1,k2,k3⟩:=h.takeTo x t (o.dst.getD 0);obtain⟨v',w',G',q1,q2,κc,q3⟩:=k1.appendR (u:=u) (ty:=o.type) A ht hu he hk hku k3 ((hv u y).mono k2) hp;refine AL (v:=v') (w':=w') (by rw[hexec];simp only[builtin,Sem.run_bind,q1,Result.andThen_ok,Sem.run_pure]) ?_
     refine hnext _ _ _ _ _ (q2.put (v:=v') (x:=p.1) hd (fun d e=>?_) (fun d _ b off hx=>by rw[hop] at hx;cases hx)) hw
     have hnt:∀cs,p.1≠ .tup cs:=by
      intro cs hcs;rw[hcs] at q3;have hvr:=q3.vr;unfold Av.appendR at hp;rw[Option.bind_eq_some_iff] at hp;obtain⟨ys,_,hp⟩:=hp;split at hp
      ·split at hp
       ·rename_i heq;simp only[Option.some.injEq] at hp;subst hp;rw[heq] at hcs;cases hcs
       ·rename_i heq;simp only[Option.some.injEq] at hp;subst hp;rw[heq] at hcs;cases hcs
       ·cases hp
      ·split at hp
       ·split at hp
        ·cases hp;cases hcs
        ·cases hp
       ·rw[Option.bind_eq_some_iff] at hp;obtain⟨_,_,hp⟩:=hp;split at hp
        ·cases hp;cases hcs
        ·cases hp
       ·cases hp
     have hd0:o.dst.getD 0=d:=by rw[e];rfl
     rw[hd0] at q3;exact⟨q3.vr,q3.tail,q3.agg,fun cs _ e=>(hnt cs e).elim,fun cs e=>(hnt cs e).elim⟩
    ·obtain⟨r,hr,hw⟩:=AF hw;obtain⟨G1,κc,k1,k2,k3,_⟩:=h.giveTo x t (κ:=.ret) (by simp) (by simp)
     obtain⟨v',w',G',q1,q2,q3⟩:=k1.append (u:=u) (ty:=o.type) A ht hu he hk hku k3 ((hv u y).mono k2) hr;refine AL (v:=v') (w':=w') (by rw[hexec];simp only[builtin,Sem.run_bind,q1,Result.andThen_ok,Sem.run_pure]) ?_
     obtain⟨r1,r2⟩:=q2.fromRet (o.dst.getD 0) (q3 (fun i=>.retc i))
     refine hnext _ _ _ _ _ (r1.put (v:=v') (x:=r) hd (fun d e=>?_) (fun d _ b off hx=>by rw[hop] at hx;cases hx)) hw
     have hd0:o.dst.getD 0=d:=by rw[e];rfl
     exact r2.rekey (by rw[hd0]) (fun i=>by rw[hd0])
   ·
    split at hw
    case h_2=>exact hw.elim
    rename_i e hk;have he:E.C.has e=true:=hand e (Dx hk);obtain⟨p,hp,hw⟩:=AF hw;obtain⟨v',w',q1,q2,q3,q4⟩:=h.copy (u:=u) (ty:=o.type) A ht he hk (hv t x) (hv u y) hp;refine AL (v:=v') (w':=w') (by rw[hexec];simp only[builtin,Sem.run_bind,q1,Result.andThen_ok,Sem.run_pure]) (q2.done hd hop (fun κ κc=>.of_cell1 q3 q4) hw hnext)
   ·
    split at hw
    case h_2=>exact hw.elim
    rename_i k e hk;split at hw
    case h_2=>exact hw.elim
    rename_i g hg2;have hkk:E.C.has k=true:=hand k (It hk).1;obtain⟨S',hS,hw⟩:=AF hw;obtain⟨w',q1,q2⟩:=h.delete (ty:=o.type) (u2:=u) A ht hkk hk hg2 (hv t x) (hv u y) hS;refine AL (v:=.tuple #[]) (w':=w') (by rw[hexec];simp only[builtin,Sem.run_bind,q1,Result.andThen_ok,Sem.run_pure]) (q2.done hd hop (fun κ κc=>.undef _) hw hnext)
   ·exact hw.elim
  ·
   rename_i t u t3 x y z hts hxs;have e1:=GJ hts;have e2:=GJ hxs;rw[e1,e2] at hexec;simp only[List.map_toArray,List.map_cons,List.map_nil] at hexec;split at hw
   ·obtain⟨r,hr,hw⟩:=AF hw;obtain⟨zz,q1,q2,q3⟩:=YX (E:=E) (w:=w) (ats:=#[t,u,t3]) (ty:=o.type) (hv t x) (hv u y) (hv t z) hr;refine AL (v:=zz) (w':=w) ?_ (h.done hd hop (fun κ κc=>.of_cell1 q2 q3) hw hnext)
    rw[hexec];simp only[builtin,Sem.run_bind,q1,Result.andThen_ok,Sem.run_pure]
   ·exact hw.elim
  ·exact hw.elim
variable {E:Env} {f n:Nat} {Gs G:Gh} {ws w:World} {S:St} {a:Act} {fr:Fr} {before:List Oper}
theorem RF.donePtr(h:RF E f n Gs ws G w S a fr before){o:Oper}(hd:∀d,o.dst=some d→d < n∧E.C.loc f d=false){v:Value}{x:AV}(hv:∀κ κc,Bw G w κ κc v x)
  (hp:∀b off,BF E.C (fun y=>AD E.C f y before) o.op=some (b,off)→E4 a fr b off v) {K:Fr→St→Prop} {next:Act→World→Prop} (hk:K (fr.put o.dst x) S)
  (hnext:∀G' w' S' a' fr',RF E f n Gs ws G' w' S' a' fr' (o::before)→K fr' S'→next a' w'):next (a.put o.dst v) w:=
 hnext _ _ _ _ _ (h.put (v:=v) (x:=x) hd (fun d _=>hv _ _) (fun d _=>hp)) hk
theorem E4.off{b off k:Nat}{v:Value}(h:E4 a fr b off v){cs:List AV}(hcs:fr.b b=some cs):∃blk,Act.at a b= .pointer (some ⟨blk,0,none⟩)∧v= .pointer (some ⟨blk,off,none⟩):=h cs hcs
theorem Rm{G:Gh}{C:Ctx}{t:Nat}(hv:∀t x,VR G (a.eval x) (opd C fr t x))(g:Nat→Nat)(parts:Array (Nat×Operand)):
  (parts.toList.map fun p=>(p.1,opd C fr (g p.1) p.2)).length=(parts.map fun (i,x)=>(i,a.eval x)).size∧
  ∀(i:Nat) (p:Nat×AV) (q:Nat×Value),(parts.toList.map fun p=>(p.1,opd C fr (g p.1) p.2))[i]? =some p→(parts.map fun (i,x)=>(i,a.eval x))[i]? =some q→p.1=q.1∧VR G q.2 p.2:=by
 refine⟨by simp,fun i p q hp hq=>?_⟩
 rw[List.getElem?_map,Option.map_eq_some_iff] at hp;rw[Array.getElem?_map,Option.map_eq_some_iff] at hq;obtain⟨y,hy,rfl⟩:=hp;obtain⟨y',hy',rfl⟩:=hq;have hy2:parts[i]? =some y:=by simpa using hy
 rw[hy2] at hy';cases hy';exact⟨rfl,hv _ _⟩
theorem KX{G:Gh}{C:Ctx}{t:Nat}(hv:∀t x,VR G (a.eval x) (opd C fr t x))(x:Option Operand):Mr G (x.map a.eval) (x.map (opd C fr t)):=by
 cases x with
 |none=>trivial
 |some x=>exact hv t x
theorem R0{G:Gh}{C:Ctx}(hv:∀t x,VR G (a.eval x) (opd C fr t x))(xs:Array Operand):
  (xs.map a.eval).size=((xs.toList.map (opd C fr 0)).map AV.strip).length∧∀(i:Nat) (x:AV) (v:Value),((xs.toList.map (opd C fr 0)).map AV.strip)[i]? =some x→(xs.map a.eval)[i]? =some v→VR G v x:=by
 refine⟨by simp,fun i x v hx hv'=>?_⟩
 rw[List.getElem?_map,Option.map_eq_some_iff] at hx;obtain⟨y,hy,rfl⟩:=hx;rw[List.getElem?_map,Option.map_eq_some_iff] at hy;obtain⟨z,hz,rfl⟩:=hy;rw[Array.getElem?_map,Option.map_eq_some_iff] at hv';obtain⟨z',hz',rfl⟩:=hv';have:xs[i]? =some z:=by simpa using hz
 rw[this] at hz';cases hz';exact(hv _ _).strip
theorem Uo{P:Program}{w:World}{c:Value}{b:Bool}(hc:c= .bool b)(u v:Value):(do pure (.value (if ←asBool c then u else v)):Sem Next).run P w= .ok (.value (if b then u else v)) w:=by
 subst hc;rfl
theorem RD{A:Agree E}{e:Nat}(he:E.C.has e=true){g:KK}{x key:AV}{p:AV×Bool}(hp:NC g (E.C.ty e) S x key=some p)(hr:Rel E G w S):∀ds,p.1≠ .tup ds:=by
 have hz:∀ds,Jg (E.C.ty e)≠ .tup ds:=by
  intro ds;have hc:=(A.ty e he).cell;unfold Jg;split
  ·simp
  ·cases hz:(E.C.ty e).zero with
   |nil=>simp[List.headD]
   |cons y l=>
    rw[hz] at hc;have:=hc y (by simp)
    intro e1;simp[List.headD] at e1;rw[e1] at this;simp[AV.cell1,AV.free1] at this
 intro ds hds;unfold NC at hp;split at hp
 case isFalse=>cases hp
 split at hp
 ·cases hp;exact hz ds hds
 ·rw[Option.bind_eq_some_iff] at hp;obtain⟨m,hm,hp⟩:=hp;rw[Option.map_eq_some_iff] at hp;obtain⟨r,hfind,rfl⟩:=hp;cases r with
  |none=>exact hz ds hds
  |some q=>
   obtain⟨i,v⟩:=q;obtain⟨pp,_,h2,_,h4⟩:=JP hfind;obtain⟨b,es,clk,_,_,_,_,q5,q6⟩:=hr.mapOf hm;have hi:i < es.size:=by rw[q5];exact(List.getElem?_eq_some_iff.1 h2).1
   have:=(q6 _ es[i] pp (by simp[hi]) h2).2.2.2.1
   rw[h4] at this;simp only at hds;rw[hds] at this;simp[AV.free,AV.free1] at this
 ·cases hp
theorem RF.stripBoxCell(h:RF E f n Gs ws G w S a fr before){b:Nat}{cs:List AV}(hb:fr.b b=some cs)(off:Nat):RF E f n Gs ws G w S a (fr.setB b (C7 (fr.b b) off)) before:=by
 refine⟨h.rel,⟨h.frr.defers,h.frr.size,h.frr.slot,fun t cs' hb'=>?_⟩,h.kept,fun x b' off' hr=>(h.pr x b' off' hr).of_isSome fun ds hds=>?_⟩
 ·by_cases e:t=b
  ·subst e;simp only[Fr.setB,if_true,C7,hb,Option.map_some,Option.some.injEq] at hb';subst hb';obtain⟨h1,blk,arr,e,h2,h3,h4,h5⟩:=h.frr.box t cs hb;exact⟨h1,blk,arr,e,h2,h3,h4,h5.strip off fun _ _=>rfl⟩
  ·simp only[Fr.setB,e,if_false] at hb';exact h.frr.box t cs' hb'
 ·by_cases e:b'=b
  ·subst e;exact⟨cs,hb⟩
  ·simp only[Fr.setB,e,if_false] at hds;exact⟨ds,hds⟩
theorem RF.stripMem(h:RF E f n Gs ws G w S a fr before)(p:AV):RF E f n Gs ws G w (stripMem S p) a fr before:=by
 unfold Av.stripMem;split
 ·rename_i id off;split
  ·rename_i cs hcs;obtain⟨b,arr,e,k1,k2,k3,k4,k5,k6⟩:=h.rel.cells hcs;refine⟨⟨h.rel.os,h.rel.tape,h.rel.output,h.rel.size,h.rel.old,h.rel.imm,h.rel.role,h.rel.noimm,fun i b hb=>by simpa using h.rel.rho i b hb,h.rel.len,fun i o ho=>?_⟩,h.frr,h.kept,h.pr⟩
   rw[List.getElem?_set] at ho
   by_cases e1:id=i
   ·subst e1;have hlt:id < S.length:=(List.getElem?_eq_some_iff.1 k1).1;simp only[if_true,hlt,Option.some.injEq] at ho;subst ho;exact⟨b,arr,e,k2,k3,k4,k5.strip off fun _ _=>rfl,fun ht0=>⟨(k6 ht0).1,by rw[(k6 ht0).2];simp⟩⟩
   ·simp only[e1,if_false] at ho;exact h.rel.obj i o ho
  ·exact h
 ·exact h
set_option maxHeartbeats 1000000 in
theorem Rf(A:Agree E){Ca:Nat→List AV→St→(AV→St→Prop)→Prop}(hCa:HH E Ca)(h:RF E f n Gs ws G w S a fr before){o:Oper}(tk:Bool)(hdn:∀d,o.dst=some d→d < n)(hok:Mf E.C f o=true)
  (hT:∀t∈CL E.C o,E.C.has t=true) {K:Fr→St→Prop} (hw:opW E.C Ca f before tk o fr S K) {Q:Exit→Act→World→Prop} {next:Act→World→Prop}
  (hnext:∀G' w' S' a' fr',RF E f n Gs ws G' w' S' a' fr' (o::before)→K fr' S'→next a' w'):o.wp E.P a w next Q:=by
 have hv:=h.frr.opdV;have hdd:(∀t,o.op≠ .alloc t)→(∀t x,o.op≠ .box t x)→∀d,o.dst=some d→d < n∧E.C.loc f d=false:=fun h1 h2 d e=>⟨hdn d e,Xy hok h1 h2 d e⟩
 have exv:∀{s:Sem Value} {v:Value} {w':World},s.run E.P w= .ok v w'→(do pure (.value (←s)):Sem Next).run E.P w= .ok (.value v) w':=fun hs=>by
  rw[Sem.run_bind,hs];rfl
 have exu:∀{s:Sem Unit} {w':World},s.run E.P w= .ok () w'→(do s;pure .skip:Sem Next).run E.P w= .ok .skip w':=fun hs=>by
  rw[Sem.run_bind,hs];rfl
 unfold opW at hw;split at hw
 ·
  rename_i x ho;have hd:=hdd (by rw[ho];simp) (by rw[ho];simp)
  have hex:(execOp a.eval o).run E.P w= .ok (.value (a.eval x)) w:=by simp only[execOp,ho];rfl
  refine AL hex ?_;have hpv:∀b off,BF E.C (fun y=>AD E.C f y before) o.op=some (b,off)→E4 a fr b off (a.eval x):=fun b off hr=>by
   rw[ho] at hr;cases x with
   |tmp y=>exact h.pr y b off hr
   |_=>simp[BF] at hr
  split at hw
  ·exact h.donePtr hd (fun κ κc=>.undef _) hpv hw hnext
  ·split at hw
   ·obtain⟨G',k1,k2,k3⟩:=h.takeTo x o.type (o.dst.getD 0);refine hnext _ _ _ _ _ (k1.put (v:=a.eval x) (x:=opd E.C fr o.type x) hd (fun d e=>?_) (fun d _ b off hr cs hcs=>?_)) hw
    ·have hd0:o.dst.getD 0=d:=by rw[e];rfl
     rw[hd0] at k3;exact k3
    ·rw[FrR.stripAt_b] at hcs;exact hpv b off hr cs hcs
   ·exact h.donePtr hd (fun κ κc=>h.frr.opdStrip _ _) hpv hw hnext
 ·
  rename_i x ho;have hd:=hdd (by rw[ho];simp) (by rw[ho];simp)
  have hex:(execOp a.eval o).run E.P w= .ok (.value (a.eval x)) w:=by simp only[execOp,ho];rfl
  refine AL hex ?_;have hop:BF E.C (fun y=>AD E.C f y before) o.op=none:=by rw[ho];rfl
  split at hw
  ·exact hw.elim
  ·obtain⟨G',k1,k2,k3⟩:=h.takeTo x o.type (o.dst.getD 0);refine hnext _ _ _ _ _ (k1.put (v:=a.eval x) (x:=opd E.C fr o.type x) hd (fun d e=>?_) (fun d _ b off hr=>by rw[hop] at hr;cases hr)) hw
   have hd0:o.dst.getD 0=d:=by rw[e];rfl
   rw[hd0] at k3;exact k3
 ·
  rename_i c x y ho;have hd:=hdd (by rw[ho];simp) (by rw[ho];simp)
  have hop:BF E.C (fun y=>AD E.C f y before) o.op=none:=by rw[ho];rfl
  obtain⟨r,hr,hw⟩:=AF hw;have hcv:=hv 4 c;unfold AS at hr;split at hr
  ·rename_i hb;cases hr;rw[hb] at hcv;refine AL (v:=a.eval x) (w':=w) ?_ (h.done hd hop (fun κ κc=>h.frr.opdStrip _ _) hw hnext)
   simp only[execOp,ho];rw[Uo hcv.bool_inv];rfl
  ·rename_i hb;cases hr;rw[hb] at hcv;refine AL (v:=a.eval y) (w':=w) ?_ (h.done hd hop (fun κ κc=>h.frr.opdStrip _ _) hw hnext)
   simp only[execOp,ho];rw[Uo hcv.bool_inv];rfl
  ·cases hr
 ·
  rename_i t ho;have ht:E.C.has t=true:=hT t (by unfold CL;rw[ho];simp[Ct])
  have hop:BF E.C (fun y=>AD E.C f y before) o.op=none:=by rw[ho];rfl
  split at hw
  case h_2=>exact hw.elim
  rename_i d hod;split at hw
  ·rename_i hloc;obtain⟨v,w',G',q1,q2⟩:=h.allocLoc A hod (hdn d hod) hloc ht;exact AL (by simp only[execOp,ho];exact exv q1) (hnext _ _ _ _ _ q2 hw)
  ·rename_i hloc;obtain⟨v,w',G',q1,q2⟩:=h.allocObj A hod (hdn d hod) hloc ht hop;exact AL (by simp only[execOp,ho];exact exv q1) (hnext _ _ _ _ _ q2 hw)
 ·
  rename_i t x ho;have hop:BF E.C (fun y=>AD E.C f y before) o.op=none:=by rw[ho];rfl
  obtain⟨cs,hcs,hw⟩:=AF hw;split at hw
  case h_2=>exact hw.elim
  rename_i d hod;split at hw
  ·rename_i hloc;obtain⟨v,w',G',q1,q2⟩:=h.boxLoc x hod (hdn d hod) hloc hcs;exact AL (by simp only[execOp,ho];exact exv q1) (hnext _ _ _ _ _ q2 hw)
  ·rename_i hloc;obtain⟨v,w',G',q1,q2⟩:=h.boxObj x hod (hdn d hod) hloc hop hcs;exact AL (by simp only[execOp,ho];exact exv q1) (hnext _ _ _ _ _ q2 hw)
 ·
  rename_i t parts ho;have hd:=hdd (by rw[ho];simp) (by rw[ho];simp)
  have hop:BF E.C (fun y=>AD E.C f y before) o.op=none:=by rw[ho];rfl
  have hty:∀t'∈Ct E.C t,E.C.has t'=true:=fun t' ht'=>hT t' (by unfold CL;rw[ho];simp[ht'])
  obtain⟨r,hr,hw⟩:=AF hw;obtain⟨p1,p2⟩:=Rm (t:=0) hv (TM E.C t) parts;obtain⟨v,q1,q2⟩:=VM (w:=w) A (hty t (CE _ _)) (fun n e hk=>⟨hty e (IL hk),by rw[hk]⟩) p1 p2 hr
  exact AL (by simp only[execOp,ho];exact exv q1) (h.done hd hop q2 hw hnext)
 ·
  rename_i t len parts ho;have hd:=hdd (by rw[ho];simp) (by rw[ho];simp)
  have hop:BF E.C (fun y=>AD E.C f y before) o.op=none:=by rw[ho];rfl
  have hty:∀t'∈Ct E.C t,E.C.has t'=true:=fun t' ht'=>hT t' (by unfold CL;rw[ho];simp[ht'])
  split at hw
  case h_2=>exact hw.elim
  rename_i e hk hrange hlen;obtain⟨es,hes,hw⟩:=AF hw;obtain⟨p1,p2⟩:=Rm (t:=0) hv (fun _=>e) parts
  obtain⟨v,w',G',q1,q2,q3⟩:=run_buildSlice (len:=len) A (hty t (CE _ _)) (hty e (Dx hk)) hk h p1 p2 (by rw[List.map_map];exact of_decide_eq_true hrange) (of_decide_eq_true hlen) (es:=es) (by rw[List.map_map];exact hes)
  exact AL (by simp only[execOp,ho];exact exv q1) (q2.done hd hop q3 hw hnext)
 ·
  rename_i t x ho;have hd:=hdd (by rw[ho];simp) (by rw[ho];simp)
  have hop:BF E.C (fun y=>AD E.C f y before) o.op=none:=by rw[ho];rfl
  have ht:E.C.has t=true:=hT t (by unfold CL;rw[ho];simp[Ct])
  split at hw
  ·rename_i b off hres;obtain⟨r,hr,hw⟩:=AF hw;obtain⟨v,q1,q2,q3⟩:=h.loadBox A ht (h.resolved hres) hr;refine AL (v:=v) (w':=w) (by simp only[execOp,ho];exact exv q1) ?_
   split at hw
   ·rcases q3 with ⟨ds,rfl⟩|⟨hf,cs,blk,arr,e,c1,c2,c3,c4,c5⟩
    ·have hrf:RF E f n Gs ws G w S a (fr.setB b (C7 (fr.b b) off)) before:=by
      cases hbb:fr.b b with
      |none=>rw[AB,hbb] at hr;cases hr
      |some cs=>
       have:=h.stripBoxCell hbb off
       rwa [hbb] at this
     exact hrf.done hd hop (fun κ κc=>.strip0_of q2 (.inl ⟨ds,rfl⟩)) hw hnext
    ·obtain⟨G',r1,r2⟩:=h.takeBox (o.dst.getD 0) c1 c2 c3 c4 c5;refine hnext _ _ _ _ _ (r1.put (v:=v) (x:=r.strip0) hd (fun d e=>?_) (fun d _ b off hx=>by rw[hop] at hx;cases hx)) hw
     have hd0:o.dst.getD 0=d:=by rw[e];rfl
     rw[hd0] at r2;exact r2
   ·exact h.done hd hop (fun κ κc=>.loaded q2 (q3.elim .inr fun q=>.inl q.1)) hw hnext
  ·obtain⟨r,hr,hw⟩:=AF hw;obtain⟨v,q1,q2,q3⟩:=XY A h.rel ht (hv 0 x) hr;refine AL (v:=v) (w':=w) (by simp only[execOp,ho];exact exv q1) ?_
   split at hw
   ·rcases q3 with q3|q3|⟨id,off,cs,b,arr,e,c0,c1,c2,c3,c4,c5,c6,c7⟩
    ·exact(h.stripMem _).done hd hop (fun κ κc=>.strip0_of q2 (.inl q3)) hw hnext
    ·exact(h.stripMem _).done hd hop (fun κ κc=>.strip0_of q2 (.inr q3)) hw hnext
    ·obtain⟨G',r1,r2⟩:=h.takeObj (o.dst.getD 0) c1 c2 c3 c4 c5 c6 c7;rw[c0] at hw;refine hnext _ _ _ _ _ (r1.put (v:=v) (x:=r.strip0) hd (fun d e=>?_) (fun d _ b off hx=>by rw[hop] at hx;cases hx)) hw
     have hd0:o.dst.getD 0=d:=by rw[e];rfl
     rw[hd0] at r2;exact r2
   ·refine h.done hd hop (fun κ κc=>.loaded q2 ?_) hw hnext
    rcases q3 with q3|q3|⟨id,off,cs,b,arr,e,_,_,c2,_,_,_,c6,c7⟩
    ·exact .inr q3
    ·exact .inl (AV.cell1.free1 q3)
    ·exact .inl (c6.2 off r v c2 c7).free
 ·
  rename_i t x y ho;have hd:=hdd (by rw[ho];simp) (by rw[ho];simp)
  have hop:BF E.C (fun y=>AD E.C f y before) o.op=none:=by rw[ho];rfl
  have ht:E.C.has t=true:=hT t (by unfold CL;rw[ho];simp[Ct])
  split at hw
  ·rename_i b off hres;obtain⟨cs,hcs,hw⟩:=AF hw;obtain⟨G',w',q1,q2⟩:=h.storeBox A ht (h.resolved hres) y hcs;exact L8 (by simp only[execOp,ho];exact exu q1) (q2.done hd hop (fun κ κc=>.undef _) hw hnext)
  ·obtain⟨S',hS,hw⟩:=AF hw;obtain⟨G',w',q1,q2⟩:=h.storeObj A ht (hv 0 x) y hS;exact L8 (by simp only[execOp,ho];exact exu q1) (q2.done hd hop (fun κ κc=>.undef _) hw hnext)
 ·
  rename_i x ho;have hd:=hdd (by rw[ho];simp) (by rw[ho];simp)
  split at hw
  ·rename_i p hres;obtain⟨cs,hcs,hw⟩:=AF hw;have hopp:∀b' off',BF E.C (fun y=>AD E.C f y before) o.op=some (b',off')→E4 a fr b' off' (a.eval x):=fun b' off' hx=>by
    rw[ho] at hx;cases x with
    |tmp y=>exact h.pr y b' off' hx
    |_=>simp[BF] at hx
   obtain⟨blk,_,hval⟩:=h.resolved (b:=p.1) (off:=p.2) hres cs hcs;have hex:(execOp a.eval o).run E.P w= .ok (.value (a.eval x)) w:=by simp only[execOp,ho,hval];rfl
   exact AL hex (h.donePtr hd (fun κ κc=>.undef _) hopp hw hnext)
  ·rename_i hres;obtain⟨r,hr,hw⟩:=AF hw;have hop:BF E.C (fun y=>AD E.C f y before) o.op=none:=by
    rw[ho];cases x with
    |tmp y=>exact hres
    |_=>rfl
   have hxv:=hv 0 x;unfold Lr at hr;have hex:∀ad,a.eval x= .pointer (some ad)→(execOp a.eval o).run E.P w= .ok (.value (a.eval x)) w:=fun ad hval=>by simp only[execOp,ho,hval];rfl
   split at hr
   ·rename_i id off hx;cases hr;rw[hx] at hxv;generalize hval:a.eval x=vv at hxv;cases hxv with
    |ptr _ _ b hb=>
     exact AL (hex _ hval) (h.done hd hop (fun κ κc=>.of_cell1 (by rw[hval];exact .ptr _ _ b hb) rfl) hw hnext)
   ·rename_i cs off hx;cases hr;rw[hx] at hxv;generalize hval:a.eval x=vv at hxv;cases hxv with
    |ep _ b o' _ g c1 c2 c3=>
     exact AL (hex _ hval) (h.done hd hop (fun κ κc=>.of_cell1 (by rw[hval];exact .ep _ b o' _ g c1 c2 c3) rfl) hw hnext)
   ·cases hr
 ·
  rename_i op t x y u ho;have hd:=hdd (by rw[ho];simp) (by rw[ho];simp)
  have hop:BF E.C (fun y=>AD E.C f y before) o.op=none:=by rw[ho];rfl
  have ht:(op= .eql∨op= .neq)→E.C.has t=true:=fun hoo=>hT t (by unfold CL;rw[ho];rcases hoo with rfl|rfl<;>simp[Ct])
  split at hw
  ·obtain⟨r,hr,hw⟩:=AF hw;obtain⟨z,q1,q2,q3⟩:=YU (E:=E) (w:=w) (t:=t) (x':=x) (y':=y) (hv t x) (hv u y) hr;exact AL (by simp only[execOp,ho];exact exv q1) (h.done hd hop (fun κ κc=>.of_cell1 q2 q3) hw hnext)
  ·exact hw.elim
  ·rename_i hk;obtain⟨r,hr,hw⟩:=AF hw;have hoo:op= .eql∨op= .neq:=by unfold Zt at hr;split at hr;exact .inl rfl;exact .inr rfl;cases hr
   obtain⟨z,q1,q2,q3⟩:=YK (w:=w) A h.rel (ht hoo) (x':=x) (y':=y) hk (hv t x) (hv u y) hr;exact AL (by simp only[execOp,ho];exact exv q1) (h.done hd hop (fun κ κc=>.of_cell1 q2 q3) hw hnext)
  ·rename_i k hk1 hk2 hk3;obtain⟨r,hr,hw⟩:=AF hw;have hoo:op= .eql∨op= .neq:=by unfold GC at hr;split at hr;exact .inl rfl;exact .inr rfl;cases hr
   obtain⟨z,q1,q2,q3⟩:=YE (w:=w) A (ht hoo) (x':=x) (y':=y) rfl (hv t x) (hv u y) hr;exact AL (by simp only[execOp,ho];exact exv q1) (h.done hd hop (fun κ κc=>.of_cell1 q2 q3) hw hnext)
 ·
  rename_i op t x ho;have hd:=hdd (by rw[ho];simp) (by rw[ho];simp)
  have hop:BF E.C (fun y=>AD E.C f y before) o.op=none:=by rw[ho];rfl
  obtain⟨r,hr,hw⟩:=AF hw;obtain⟨z,q1,q2,q3⟩:=ZS (E:=E) (w:=w) (hv t x) hr;exact AL (by simp only[execOp,ho];exact exv q1) (h.done hd hop (fun κ κc=>.of_cell1 q2 q3) hw hnext)
 ·
  rename_i src dst x ho;have hd:=hdd (by rw[ho];simp) (by rw[ho];simp)
  have hop:BF E.C (fun y=>AD E.C f y before) o.op=none:=by rw[ho];rfl
  have hs:E.C.has src=true:=hT src (by unfold CL;rw[ho];simp[Ct])
  have hty:∀t'∈Ct E.C src,E.C.has t'=true:=fun t' ht'=>hT t' (by unfold CL;rw[ho];simp[ht'])
  have hdt:E.C.has dst=true:=hT dst (by unfold CL;rw[ho];simp[Ct])
  split at hw
  ·rename_i k hk;obtain⟨r,hr,hw⟩:=AF hw;obtain⟨z,q1,q2,q3⟩:=UE (w:=w) A hs hdt hk (hv src x) hr;exact AL (by simp only[execOp,ho];exact exv q1) (h.done hd hop (fun κ κc=>.of_cell1 q2 q3) hw hnext)
  ·rename_i hk;split at hw
   ·rename_i hk';obtain⟨r,hr,hw⟩:=AF hw;obtain⟨z,q1,q2,q3⟩:=UH (w:=w) A hs hdt hk hk' (hv src x) hr;exact AL (by simp only[execOp,ho];exact exv q1) (h.done hd hop (fun κ κc=>.of_cell1 q2 q3) hw hnext)
   ·rename_i e hk';split at hw
    ·rename_i hk2;obtain⟨r,hr,hw⟩:=AF hw;obtain⟨z,q1,q2,q3⟩:=Pa A h.rel hs hdt (hty e (Dx hk')) hk hk' hk2 (hv src x) hr;exact AL (by simp only[execOp,ho];exact exv q1) (h.done hd hop (fun κ κc=>.of_cell1 q2 q3) hw hnext)
    ·exact hw.elim
   ·exact hw.elim
  ·exact hw.elim
 ·
  rename_i t x ho;have hd:=hdd (by rw[ho];simp) (by rw[ho];simp)
  have hop:BF E.C (fun y=>AD E.C f y before) o.op=none:=by rw[ho];rfl
  have ht:E.C.has t=true:=hT t (by unfold CL;rw[ho];simp[Ct])
  obtain⟨r,hr,hw⟩:=AF hw;unfold YY at hr;split at hr
  case isFalse=>cases hr
  rename_i hc;obtain⟨hni,hf⟩:=hc;cases hr;obtain⟨dd,hdd1,hkd⟩:=(A.ty t ht).kindU;have hrun:(Instr.makeInterface t (a.eval x)).run E.P w= .ok (.iface t (a.eval x)) w:=by
   cases dd<;>first
    |(simp[Instr.makeInterface,run_underlying hdd1];done)
    |(exfalso;cases hkk:(E.C.ty t).kind<;>rw[hkk] at hkd hni<;>simp[kindOk,UZ] at hkd hni)
  exact AL (by simp only[execOp,ho];exact exv hrun) (h.done hd hop (fun κ κc=>.of_cell1 (.ifc t _ _ (hv t x).strip) rfl) hw hnext)
 ·
  rename_i g first cap ho
  have hd:=hdd (by rw[ho];simp) (by rw[ho];simp)
  have hop:BF E.C (fun y=>AD E.C f y before) o.op=none:=by rw[ho];rfl
  obtain⟨r,hr,hw⟩:=AF hw;unfold aP at hr;split at hr
  case isFalse=>cases hr
  cases hr;obtain⟨f1,f2⟩:=R0 hv first
  obtain⟨c1,c2⟩:=R0 hv cap;exact AL (v:=.func (.func g) (first.map a.eval) (cap.map a.eval)) (w':=w) (by simp only[execOp,ho,Instr.makeFunc];rfl)
   (h.done hd hop (fun κ κc=>.of_cell1 (.fn g _ _ _ _ f1 c1 f2 c2) rfl) hw hnext)
 ·
  rename_i t ho;have hd:=hdd (by rw[ho];simp) (by rw[ho];simp)
  have hop:BF E.C (fun y=>AD E.C f y before) o.op=none:=by rw[ho];rfl
  have hrf:=h.alloc (.map #[] 0) (fun _=>none) (.obj S.length) (fun j v hj=>by cases hj) (fun _ _=>rfl)
  have hrf2:=hrf.addObj (b:=w.heap.size) (by simp) (.map []) ⟨w.heap.size,#[],0,by simp[Gh.obj],by simp[Gh.obj,Gh.new],World.alloc_new w _,rfl,fun i e p hi=>by simp at hi⟩
  exact AL (v:=.map (some w.heap.size)) (by simp only[execOp,ho,Instr.makeMap,Option.map_none];rfl) (hrf2.done hd hop (fun κ κc=>.of_cell1 (.map _ _ (by simp[Gh.obj])) rfl) hw hnext)
 ·
  rename_i t l c ho;have hd:=hdd (by rw[ho];simp) (by rw[ho];simp)
  have hop:BF E.C (fun y=>AD E.C f y before) o.op=none:=by rw[ho];rfl
  have hty:∀t'∈Ct E.C t,E.C.has t'=true:=fun t' ht'=>hT t' (by unfold CL;rw[ho];simp[ht'])
  split at hw
  case h_2=>exact hw.elim
  rename_i e hk;obtain⟨p,hp,hw⟩:=AF hw;obtain⟨v,w',G',q1,q2,κc,q3⟩:=h.makeSlice A (hty t (CE _ _)) (hty e (Dx hk)) hk (hv 3 l) (hv 3 c) hp (.slot (o.dst.getD 0)) ⟨by simp,by simp⟩
  refine AL (by simp only[execOp,ho];exact exv q1) (hnext _ _ _ _ _ (q2.put (v:=v) (x:=p.1) hd (fun d e=>?_) (fun d _ b off hr=>by rw[hop] at hr;cases hr)) hw)
  have hd0:o.dst.getD 0=d:=by rw[e];rfl
  rw[hd0] at q3;have hnt:∀cs,p.1≠ .tup cs:=by
   intro cs hcs;unfold JK at hp;split at hp
   ·split at hp
    ·split at hp<;>(cases hp;cases hcs)
    ·cases hp
   ·cases hp
  exact⟨q3.vr,q3.tail,q3.agg,fun cs _ e=>(hnt cs e).elim,fun cs e=>(hnt cs e).elim⟩
 ·
  rename_i t x lo hi mx ho;have hd:=hdd (by rw[ho];simp) (by rw[ho];simp)
  have hop:BF E.C (fun y=>AD E.C f y before) o.op=none:=by rw[ho];rfl
  have hty:∀t'∈Ct E.C t,E.C.has t'=true:=fun t' ht'=>hT t' (by unfold CL;rw[ho];simp[ht'])
  split at hw
  ·rename_i hk;split at hw
   case h_2=>exact hw.elim
   obtain⟨r,hr,hw⟩:=AF hw;obtain⟨z,q1,q2,q3⟩:=V5 (w:=w) A (hty t (CE _ _)) hk (hv t x) (KX hv lo) (KX hv hi) hr;exact AL (by simp only[execOp,ho];exact exv q1) (h.done hd hop (fun κ κc=>.of_cell1 q2 q3) hw hnext)
  ·rename_i e hk;obtain⟨r,hr,hw⟩:=AF hw;cases mx with
   |some m=>
    obtain⟨c1,c2,c3⟩:=XF hr;obtain⟨z,q1,q2⟩:=WU (w:=w) (κ:=.ext) (κc:=fun _=>.ext) A (hty t (CE _ _)) (hty e (Dx hk)) hk (.of_cell1 (hv t x).strip1 c1) (KX hv lo) (KX hv hi) (KX hv (some m)) c2
    exact AL (by simp only[execOp,ho];exact exv q1) (h.done hd hop (fun κ κc=>.of_cell1 q2.vr c3) hw hnext)
   |none=>
   obtain⟨G',k1,k2,k3⟩:=h.takeTo x t (o.dst.getD 0);have hvm:∀t x,VR G' (a.eval x) (opd E.C fr t x):=fun t x=>(hv t x).mono k2
   obtain⟨z,q1,q2⟩:=WU (w:=w) A (hty t (CE _ _)) (hty e (Dx hk)) hk k3 (KX hvm lo) (KX hvm hi) (KX hvm none) hr;refine AL (by simp only[execOp,ho];exact exv q1) (hnext _ _ _ _ _ (k1.put (v:=z) (x:=r) hd (fun d e=>?_) (fun d _ b off hr=>by rw[hop] at hr;cases hr)) hw)
   have hd0:o.dst.getD 0=d:=by rw[e];rfl
   rw[hd0] at q2;exact q2
  ·exact hw.elim
 ·
  rename_i t x i ho;have hd:=hdd (by rw[ho];simp) (by rw[ho];simp)
  have ht:E.C.has t=true:=hT t (by unfold CL;rw[ho];simp[Ct])
  split at hw
  case h_1=>exact hw.elim
  rename_i fo hfo;split at hw
  ·rename_i p hres;obtain⟨cs,hcs,hw⟩:=AF hw;obtain⟨blk,hblk,hval⟩:=h.resolved (b:=p.1) (off:=p.2) hres cs hcs;have hrun:=OL (w:=w) A ht hfo blk p.2;rw[←hval] at hrun;refine AL (by simp only[execOp,ho];exact exv hrun) (h.donePtr hd (fun κ κc=>.undef _) (fun b off hr=>?_) hw hnext)
   rw[ho] at hr;cases x with
   |tmp y=>
    have hres':AD E.C f y before=some p:=hres;obtain⟨p1,p2⟩:=p;simp only[BF,hres',hfo,Option.some.injEq,Prod.mk.injEq] at hr;obtain⟨rfl,rfl⟩:=hr;intro cs' hcs';exact⟨blk,hblk,rfl⟩
   |_=>simp[BF] at hr
  ·rename_i hres;obtain⟨r,hr,hw⟩:=AF hw;obtain⟨b,o',hval,q2,q3⟩:=Mk (hv 0 x) hr;have hrun:=OL (w:=w) A ht hfo b o';rw[←hval] at hrun;have hop:BF E.C (fun y=>AD E.C f y before) o.op=none:=by
    rw[ho];cases x with
    |tmp y=>simp only[BF,show AD E.C f y before=none from hres]
    |_=>rfl
   exact AL (by simp only[execOp,ho];exact exv hrun) (h.done hd hop (fun κ κc=>.of_cell1 q2 q3) hw hnext)
 ·
  rename_i t x i ho;have hd:=hdd (by rw[ho];simp) (by rw[ho];simp)
  have hop:BF E.C (fun y=>AD E.C f y before) o.op=none:=by rw[ho];rfl
  have hty:∀t'∈Ct E.C t,E.C.has t'=true:=fun t' ht'=>hT t' (by unfold CL;rw[ho];simp[ht'])
  split at hw
  case h_2=>exact hw.elim
  rename_i fs hk;split at hw
  case h_2=>exact hw.elim
  rename_i p hp;obtain⟨r,hr,hw⟩:=AF hw;obtain⟨z,q1,q2,q3⟩:=XM (w:=w) A (hty t (CE _ _)) hk hp (hty _ (SY hk hp)) (hv t x) hr;exact AL (by simp only[execOp,ho];exact exv q1) (h.done hd hop (fun κ κc=>.mkstrip q2 fun ds hds=>(q3 ds hds).elim) hw hnext)
 ·
  rename_i t x i ho;have hd:=hdd (by rw[ho];simp) (by rw[ho];simp)
  have hty:∀t'∈Ct E.C t,E.C.has t'=true:=fun t' ht'=>hT t' (by unfold CL;rw[ho];simp[ht'])
  split at hw
  ·rename_i e hk;obtain⟨r,hr,hw⟩:=AF hw;obtain⟨z,q1,q2,q3⟩:=Lm (w:=w) A (hty t (CE _ _)) (hty e (Dx hk)) hk (hv t x) (hv 3 i) hr;refine AL (by simp only[execOp,ho];exact exv q1) (h.donePtr hd (fun κ κc=>.of_cell1 q2 q3) (fun b off hx=>?_) hw hnext)
   rw[ho] at hx;unfold BF at hx;split at hx<;>(try (rename_i heq;cases heq))<;>(try (cases hx;done))
   ·rw[hk] at hx;split at hx
    ·rename_i h1 h2;cases h2
    ·cases hx
  ·rename_i m e hk;split at hw
   ·rename_i p hres;split at hw
    case h_2=>exact hw.elim
    rename_i ki im;split at hw
    case h_2=>exact hw.elim
    rename_i hdec;obtain⟨cs,hcs,hw⟩:=AF hw;obtain⟨blk,hblk,hval⟩:=h.resolved (b:=p.1) (off:=p.2) hres cs hcs;have hrun:=Hm (w:=w) A (hty t (CE _ _)) (hty e (IL hk)) hk (b:=blk) (o:=p.2) (k:=ki) (of_decide_eq_true hdec);rw[←hval] at hrun;refine AL (v:=.pointer (some ⟨blk,p.2+im.toNat*(E.C.ty e).size,none⟩)) (w':=w) (by simp only[execOp,ho];exact exv hrun) (h.donePtr hd (fun κ κc=>.undef _) (fun b off hr=>?_) hw hnext)
    rw[ho] at hr;cases x with
    |tmp y=>
     have hres':AD E.C f y before=some p:=hres;obtain⟨p1,p2⟩:=p;simp only[BF,hres',hk,hdec,Option.some.injEq,Prod.mk.injEq] at hr;obtain⟨rfl,rfl⟩:=hr;intro cs' hcs';exact⟨blk,hblk,rfl⟩
    |_=>simp[BF] at hr
   ·rename_i hres;obtain⟨r,hr,hw⟩:=AF hw;have hop:BF E.C (fun y=>AD E.C f y before) o.op=none:=by
     rw[ho];unfold BF;split<;>(try rfl)
     ·rename_i heq;cases heq
     ·rename_i heq;cases heq;simp only[show AD E.C f _ before=none from hres]
     ·rename_i heq;cases heq
     ·rename_i heq;cases heq
    unfold X5 at hr;split at hr
    case h_2=>cases hr
    rename_i ki im hi;split at hr
    case isFalse=>cases hr
    rename_i hin;obtain⟨b,o',hval,q2,q3⟩:=Mk (hv t x) hr;have hiv:=hv 3 i;rw[hi] at hiv;have hrun:=Hm (w:=w) A (hty t (CE _ _)) (hty e (IL hk)) hk (b:=b) (o:=o') (k:=ki) hin;rw[←hval,←hiv.int_inv] at hrun;exact AL (by simp only[execOp,ho];exact exv hrun) (h.done hd hop (fun κ κc=>.of_cell1 q2 q3) hw hnext)
  ·exact hw.elim
 ·
  rename_i t x i ho;have hd:=hdd (by rw[ho];simp) (by rw[ho];simp)
  have hop:BF E.C (fun y=>AD E.C f y before) o.op=none:=by rw[ho];rfl
  have hty:∀t'∈Ct E.C t,E.C.has t'=true:=fun t' ht'=>hT t' (by unfold CL;rw[ho];simp[ht'])
  split at hw
  ·rename_i hk;obtain⟨r,hr,hw⟩:=AF hw;obtain⟨z,q1,q2,q3⟩:=Qh (w:=w) A (hty t (CE _ _)) hk (hv t x) (hv 3 i) hr;exact AL (by simp only[execOp,ho];exact exv q1) (h.done hd hop (fun κ κc=>.of_cell1 q2 q3) hw hnext)
  ·rename_i m e hk;obtain⟨r,hr,hw⟩:=AF hw;obtain⟨z,q1,q2,q3⟩:=Oq (w:=w) A (hty t (CE _ _)) (hty e (IL hk)) hk (hv t x) (hv 3 i) hr;exact AL (by simp only[execOp,ho];exact exv q1) (h.done hd hop (fun κ κc=>.mkstrip q2 fun ds hds=>(q3 ds hds).elim) hw hnext)
  ·exact hw.elim
 ·
  rename_i t x i ok ho;have hd:=hdd (by rw[ho];simp) (by rw[ho];simp)
  have hop:BF E.C (fun y=>AD E.C f y before) o.op=none:=by rw[ho];rfl
  have hty:∀t'∈Ct E.C t,E.C.has t'=true:=fun t' ht'=>hT t' (by unfold CL;rw[ho];simp[ht'])
  split at hw
  case h_2=>exact hw.elim
  rename_i k e hk;split at hw
  case h_2=>exact hw.elim
  rename_i g hg;obtain⟨p,hp,hw⟩:=AF hw;obtain⟨z,q1,q2⟩:=U6 A h.rel (hty t (CE _ _)) (hty k (It hk).1) (hty e (It hk).2) hk hg (hv t x) (hv k i) hp ok;split at hw
  ·refine AL (by simp only[execOp,ho];exact exv q1) (h.done hd hop (fun κ κc=>?_) hw hnext)
   have hq:=q2 .ext (fun _=>.ext)
   refine⟨.tup _ #[z,.bool p.2] rfl fun j y u hy hu=>?_,.of_not rfl,by simp,fun cs vs e1 e2 j y u hy hu=>?_,fun cs e1 y hy=>?_⟩
   ·match j with
    |0=>simp at hy hu;subst hy hu;exact hq.vr
    |1=>simp at hy hu;subst hy hu;exact .bool _
    |j+2=>simp at hy
   ·cases e1;cases e2
    match j with
    |0=>simp at hy hu;subst hy hu;exact(q2 (κc 0) κc).tail
    |1=>simp at hy hu;subst hy hu;exact .of_not rfl
    |j+2=>simp at hy
   ·cases e1;simp only[List.mem_cons,List.not_mem_nil,or_false] at hy;rcases hy with rfl|rfl
    ·refine⟨fun ds e2=>hq.agg ds e2,fun ds e2=>?_⟩
     exact RD (A:=A) (hty e (It hk).2) hp h.rel ds e2
    ·exact⟨by simp,by simp⟩
  ·exact AL (by simp only[execOp,ho];exact exv q1) (h.done hd hop q2 hw hnext)
 ·
  rename_i t m k x ho;have hd:=hdd (by rw[ho];simp) (by rw[ho];simp)
  have hop:BF E.C (fun y=>AD E.C f y before) o.op=none:=by rw[ho];rfl
  have hty:∀t'∈Ct E.C t,E.C.has t'=true:=fun t' ht'=>hT t' (by unfold CL;rw[ho];simp[ht'])
  split at hw
  case h_2=>exact hw.elim
  rename_i kt et hk;split at hw
  case h_2=>exact hw.elim
  rename_i g hg;obtain⟨S',hS,hw⟩:=AF hw;obtain⟨w',q1,q2⟩:=h.mapUpdate A (hty t (CE _ _)) (hty kt (It hk).1) hk hg (hv t m) (hv kt k) (hv et x) hS;exact L8 (by simp only[execOp,ho];exact exu q1) (q2.done hd hop (fun κ κc=>.undef _) hw hnext)
 ·
  rename_i t i ho;have hd:=hdd (by rw[ho];simp) (by rw[ho];simp)
  have hop:BF E.C (fun y=>AD E.C f y before) o.op=none:=by rw[ho];rfl
  obtain⟨r,hr,hw⟩:=AF hw;obtain⟨G',v,k1,k2,k3⟩:=h.takeComp t i (o.dst.getD 0) hr;refine AL (v:=v) (w':=w) (by simp only[execOp,ho];exact exv k2) (hnext _ _ _ _ _ (k1.put (v:=v) (x:=r) hd (fun d e=>?_) (fun d _ b off hr=>by rw[hop] at hr;cases hr)) hw)
  have hd0:o.dst.getD 0=d:=by rw[e];rfl
  rw[hd0] at k3;exact k3
 ·
  rename_i c ho;exact Uc A hCa h ho (hdd (by rw[ho];simp) (by rw[ho];simp)) hT hw hnext
 ·exact hw.elim
def Agr(ws bs:List Nat)(fr fr':Fr):Prop:=(∀t,t ∉ ws→fr'.v t=fr.v t)∧∀t,t ∉ bs→fr'.b t=fr.b t
theorem Agr.refl(ws bs:List Nat)(fr:Fr):Agr ws bs fr fr:=⟨fun _ _=>rfl,fun _ _=>rfl⟩
theorem Agr.trans{ws bs ws' bs':List Nat}{a b c:Fr}(h:Agr ws bs a b)(k:Agr ws' bs' b c):Agr (ws++ws') (bs++bs') a c:=
  ⟨fun t ht=>(k.1 t (fun e=>ht (List.mem_append_right _ e))).trans (h.1 t (fun e=>ht (List.mem_append_left _ e))),
   fun t ht=>(k.2 t (fun e=>ht (List.mem_append_right _ e))).trans (h.2 t (fun e=>ht (List.mem_append_left _ e)))⟩
theorem Agr.mono{ws bs ws' bs':List Nat}{a b:Fr}(h:Agr ws bs a b)(h1:∀t∈ws,t∈ws')(h2:∀t∈bs,t∈bs'):Agr ws' bs' a b:=
 ⟨fun t ht=>h.1 t (fun e=>ht (h1 t e)),fun t ht=>h.2 t (fun e=>ht (h2 t e))⟩
theorem Agr.put{ws bs:List Nat}{a b:Fr}(h:Agr ws bs a b){d:Option Nat}(x:AV)(hd:∀t,d=some t→t∈ws):Agr ws bs a (b.put d x):=by
 refine⟨fun t ht=>?_,fun t ht=>?_⟩
 ·rw[Fr.v_put,if_neg (fun e=>ht (hd t e))];exact h.1 t ht
 ·rw[Fr.b_put];exact h.2 t ht
theorem Agr.stripAt{ws bs:List Nat}{a b:Fr}(h:Agr ws bs a b)(x:Operand)(hx:∀t∈BL x,t∈ws):Agr ws bs a (b.stripAt x):=by
 cases x with
 |tmp y=>
  refine⟨fun t ht=>?_,fun t ht=>h.2 t ht⟩
  have:t≠y:=fun e=>ht (hx t (by rw[e];simp[BL]))
  simp only[Fr.stripAt,Fr.set,this,if_false];exact h.1 t ht
 |_=>exact h
theorem Agr.setB{ws bs:List Nat}{a b:Fr}(h:Agr ws bs a b)(d:Nat)(c:Option (List AV))(hd:d∈bs):Agr ws bs a (b.setB d c):=
 ⟨h.1,fun t ht=>by have:t≠d:=fun e=>ht (e ▸ hd);simp only[Fr.setB,this,if_false];exact h.2 t ht⟩
theorem Agr.set{ws bs:List Nat}{a b:Fr}(h:Agr ws bs a b)(d:Nat)(x:AV)(hd:d∈ws):Agr ws bs a (b.set d x):=
 ⟨fun t ht=>by have:t≠d:=fun e=>ht (e ▸ hd);simp only[Fr.set,this,if_false];exact h.1 t ht,h.2⟩
theorem Ag{α:Type}{o:Option α}{k k':α→Prop}(h:AA o k)(hk:∀x,k x→k' x):AA o k':=by
 cases o with
 |none=>exact h
 |some x=>exact hk x h
def CX(Ca:Nat→List AV→St→(AV→St→Prop)→Prop):Prop:=∀g as S (Q Q':AV→St→Prop),Ca g as S Q→(∀r S',Q r S'→Q' r S')→Ca g as S Q'
section
variable {C:Ctx} {Ca:Nat→List AV→St→(AV→St→Prop)→Prop} {f:Nat} {fr:Fr} {S:St} {K K':Fr→St→Prop} (hCa:CX Ca)
include hCa
theorem V1{c:Call}{t:Nat}{dst:Option Nat}{ws bs:List Nat}(hd:∀d,dst=some d→d∈ws)(ha:c.callee= .builtin .append→∀t∈BL (c.args.toList.headD (.func 0)),t∈ws)(hK:∀fr' S',Agr ws bs fr fr'→K fr' S'→K' fr' S')
  (h:FQ C Ca c t dst fr S K):FQ C Ca c t dst fr S K':=by
 have hput:∀x S',K (fr.put dst x) S'→K' (fr.put dst x) S':=fun x S'=>hK _ _ ((Agr.refl ws bs fr).put x hd)
 unfold FQ at h ⊢;split at h
 ·split at h
  ·exact Ag h fun as hh=>hCa _ _ _ _ _ hh fun r S'=>hput r S'
  ·exact h
 ·split at h
  ·exact Ag h fun p hh=>hCa _ _ _ _ _ hh fun r S'=>hput r S'
  ·exact h
 ·split at h
  ·exact Ag h fun p hh=>hCa _ _ _ _ _ hh fun r S'=>hput r S'
  ·exact h
 ·rename_i b hcal;split at h
  ·split at h
   ·split at h
    ·exact Ag h fun v=>hput v S
    ·exact Ag h fun v=>hput v S
    ·exact Ag h fun v=>hput v S
    ·exact h
   ·exact h
  ·rename_i x y hts hxs;split at h
   ·exact Ag h fun v=>hput v S
   ·exact Ag h fun v=>hput v S
   ·have hst:∀z,Agr ws bs fr ((fr.stripAt x).put dst z):=fun z=>((Agr.refl ws bs fr).stripAt x (fun t ht=>ha hcal t (by rw[hxs];exact ht))).put z hd
    split at h
    ·split at h
     ·exact Ag h fun p=>hK _ _ (hst _)
     ·exact Ag h fun p=>hK _ _ (hst _)
    ·exact h
   ·split at h
    ·exact Ag h fun p=>hput p.1 p.2
    ·exact h
   ·split at h
    ·split at h
     ·exact Ag h fun S'=>hput _ S'
     ·exact h
    ·exact h
   ·exact h
  ·split at h
   ·exact Ag h fun v=>hput v S
   ·exact h
  ·exact h
theorem UW{before:List Oper}{tk:Bool}{o:Oper}(hK:∀fr' S',Agr (Al C tk o) (DB C f before o) fr fr'→K fr' S'→K' fr' S')(h:opW C Ca f before tk o fr S K):opW C Ca f before tk o fr S K':=by
 have hd:∀d,o.dst=some d→d∈Al C tk o:=fun d e=>by unfold Al;rw[e];simp
 have hput:∀x S',K (fr.put o.dst x) S'→K' (fr.put o.dst x) S':=fun x S'=>hK _ _ ((Agr.refl _ _ fr).put x hd)
 have hst:∀y,(∀t∈BL y,t∈Al C tk o)→∀z S',K ((fr.stripAt y).put o.dst z) S'→K' ((fr.stripAt y).put o.dst z) S':=fun y hy z S'=>hK _ _ (((Agr.refl _ _ fr).stripAt y hy).put z hd)
 unfold opW at h ⊢;split at h
 ·rename_i x ho;split at h
  ·exact hput _ _ h
  ·split at h
   ·rename_i htk;exact hst x (fun t ht=>by unfold Al;rw[ho];simp only[htk];exact List.mem_append_right _ ht) _ _ h
   ·exact hput _ _ h
 ·rename_i x ho;split at h
  ·exact h
  ·exact hst x (fun t ht=>by unfold Al;rw[ho];exact List.mem_append_right _ ht) _ _ h
 ·exact Ag h fun v=>hput _ _
 ·rename_i e ho;split at h
  ·rename_i d hod;have hb:d∈DB C f before o:=by unfold DB;rw[ho,hod];simp
   split at h
   ·exact hK _ _ (((Agr.refl _ _ fr).setB d _ hb).set d _ (hd d hod)) h
   ·exact hK _ _ ((Agr.refl _ _ fr).set d _ (hd d hod)) h
  ·exact h
 ·rename_i e x ho;have hx:∀t∈BL x,t∈Al C tk o:=fun t ht=>by unfold Al;rw[ho];exact List.mem_append_right _ ht
  refine Ag h fun cs h=>?_
  split at h
  ·rename_i d hod;have hb:d∈DB C f before o:=by unfold DB;rw[ho,hod];simp
   split at h
   ·exact hK _ _ ((((Agr.refl _ _ fr).stripAt x hx).setB d _ hb).set d _ (hd d hod)) h
   ·exact hK _ _ (((Agr.refl _ _ fr).stripAt x hx).set d _ (hd d hod)) h
  ·exact h
 ·exact Ag h fun v=>hput _ _
 ·split at h
  ·exact Ag h fun v=>hput _ _
  ·exact h
 ·rename_i t x ho;split at h
  ·rename_i b off hres;have hb:b∈DB C f before o:=by unfold DB;rw[ho];simp only[hres];simp
   refine Ag h fun v h=>?_
   split at h
   ·exact hK _ _ (((Agr.refl _ _ fr).setB b _ hb).put _ hd) h
   ·exact hput _ _ h
  ·refine Ag h fun v h=>?_
   split at h
   ·exact hput _ _ h
   ·exact hput _ _ h
 ·rename_i t x y ho;have hy:∀t∈BL y,t∈Al C tk o:=fun t ht=>by unfold Al;rw[ho];exact List.mem_append_right _ ht
  split at h
  ·rename_i b off hres;have hb:b∈DB C f before o:=by unfold DB;rw[ho];simp only[hres];simp
   exact Ag h fun cs=>hK _ _ ((((Agr.refl _ _ fr).stripAt y hy).setB b _ hb).put _ hd)
  ·exact Ag h fun S'=>hst y hy _ _
 ·split at h
  ·exact Ag h fun _=>hput _ _
  ·exact Ag h fun v=>hput _ _
 ·split at h
  ·exact Ag h fun v=>hput _ _
  ·exact h
  ·exact Ag h fun v=>hput _ _
  ·exact Ag h fun v=>hput _ _
 ·exact Ag h fun v=>hput _ _
 ·split at h
  ·exact Ag h fun v=>hput _ _
  ·split at h
   ·exact Ag h fun v=>hput _ _
   ·split at h
    ·exact Ag h fun v=>hput _ _
    ·exact h
   ·exact h
  ·exact h
 ·exact Ag h fun v=>hput _ _
 ·exact Ag h fun v=>hput _ _
 ·exact hput _ _ h
 ·split at h
  ·exact Ag h fun v=>hput _ _
  ·exact h
 ·rename_i t x lo hi mx ho;split at h
  ·split at h
   ·exact Ag h fun v=>hput _ _
   ·exact h
  ·cases mx with
   |none=>
    have hx:∀t∈BL x,t∈Al C tk o:=fun t ht=>by unfold Al;rw[ho];exact List.mem_append_right _ ht
    exact Ag h fun v=>hst x hx _ _
   |some m=>exact Ag h fun v=>hput _ _
  ·exact h
 ·split at h
  ·exact h
  ·split at h
   ·exact Ag h fun _=>hput _ _
   ·exact Ag h fun v=>hput _ _
 ·split at h
  ·split at h
   ·exact Ag h fun v=>hput _ _
   ·exact h
  ·exact h
 ·split at h
  ·exact Ag h fun v=>hput _ _
  ·split at h
   ·split at h
    ·split at h
     ·exact Ag h fun _=>hput _ _
     ·exact h
    ·exact h
   ·exact Ag h fun v=>hput _ _
  ·exact h
 ·split at h
  ·exact Ag h fun v=>hput _ _
  ·exact Ag h fun v=>hput _ _
  ·exact h
 ·split at h
  ·split at h
   ·refine Ag h fun p h=>?_
    split at h
    ·exact hput _ _ h
    ·exact hput _ _ h
   ·exact h
  ·exact h
 ·split at h
  ·split at h
   ·exact Ag h fun S'=>hput _ _
   ·exact h
  ·exact h
 ·rename_i t i ho;have ht:t∈Al C tk o:=by unfold Al;rw[ho];simp[BL]
  exact Ag h fun v=>hK _ _ (((Agr.refl _ _ fr).set t _ ht).put _ hd)
 ·rename_i c ho;refine V1 hCa (ws:=Al C tk o) (bs:=DB C f before o) hd (fun hc t ht=>?_) hK h
  obtain⟨callee,args,argTypes⟩:=c;simp only at hc;subst hc;unfold Al;rw[ho];exact List.mem_append_right _ ht
 ·exact h
end
inductive Ahead:List Oper→List Oper→Prop
 |nil:Ahead [] []
 |same (o:Oper) {l l':List Oper}:Ahead l l'→Ahead (o::l) (o::l')
 |skip (o:Oper) {l l':List Oper}:Ahead l l'→Ahead ({o with op:=.ready 0}::l) (o::l')
theorem Ys{C:Ctx}{r r':Nat→Option (Nat×Nat)}(h:∀y p,r y=some p→r' y=some p){op:Op}{p:Nat×Nat}(hr:BF C r op=some p):BF C r' op=some p:=by
 unfold BF at hr ⊢;split at hr
 ·split at hr
  ·rename_i h1 h2;simp only[h _ _ h1,h2];exact hr
  ·cases hr
 ·split at hr
  ·rename_i h1 h2;simp only[h _ _ h1,h2];exact hr
  ·cases hr
 ·exact h _ _ hr
 ·exact h _ _ hr
 ·cases hr
theorem Nt{C:Ctx}{f:Nat}{l l':List Oper}(ha:Ahead l l'):∀{x:Nat} {p:Nat×Nat},AD C f x l=some p→AD C f x l'=some p:=by
 induction ha with
 |nil=>exact fun h=>h
 |same o _ ih=>
  intro x p h;simp only[AD] at h ⊢;cases hl:C.loc f x with
  |true=>rw[hl] at h;exact h
  |false=>
   rw[hl] at h;simp only at h ⊢;cases hd:C6 o x with
   |true=>rw[hd] at h;exact Ys (fun y p=>ih) h
   |false=>
    rw[hd] at h;simp only at h ⊢;split at h
    ·rename_i e3;rw[ih e3];exact h
    ·cases h
 |skip o _ ih=>
  intro x p h;have hde:∀y,C6 ({o with op:=.ready 0}:Oper) y=C6 o y:=fun _=>rfl
  simp only[AD,hde] at h ⊢;cases hl:C.loc f x with
  |true=>rw[hl] at h;exact h
  |false=>
   rw[hl] at h;simp only at h ⊢;cases hd:C6 o x with
   |true=>rw[hd] at h;simp[BF] at h
   |false=>
    rw[hd] at h;simp only at h ⊢;split at h
    ·rename_i e3;rw[ih e3];exact h
    ·cases h
theorem RC{C:Ctx}{f:Nat}{l l':List Oper}(ha:Ahead l l')(o:Oper):∀t∈DB C f l o,t∈DB C f l' o:=by
 intro t ht;have hres:∀x p,resolve C f l x=some p→resolve C f l' x=some p:=fun x p h=>by
  cases x with
  |tmp y=>exact Nt ha h
  |_=>simp[resolve] at h
 unfold DB at ht ⊢;split at ht
 ·exact ht
 ·exact ht
 ·rename_i x _ _;rcases List.mem_append.1 ht with ht|ht
  ·exact List.mem_append_left _ ht
  ·refine List.mem_append_right _ ?_;split at ht
   ·rename_i h1;rw[hres _ _ h1];exact ht
   ·cases ht
 ·rename_i x _;rcases List.mem_append.1 ht with ht|ht
  ·exact List.mem_append_left _ ht
  ·refine List.mem_append_right _ ?_;split at ht
   ·rename_i h1;rw[hres _ _ h1];exact ht
   ·cases ht
 ·exact ht
theorem ZU{c:AV}{A B Z A' B' Z':Prop}(h:gK c A B Z)(h1:A→A')(h2:B→B')(h3:Z→Z'):gK c A' B' Z':=by
 unfold gK at h ⊢;split at h
 ·exact h1 h
 ·exact h2 h
 ·exact h3 h
 ·exact h
theorem H7{g:Option (Nat×Bool)}{c:AV}{A B Z A' B' Z':Prop}(h:gG g c A B Z)(h1:A→A')(h2:B→B')(h3:Z→Z'):gG g c A' B' Z':=by
 unfold gG at h ⊢;split at h
 ·unfold ifK at h ⊢;split at h
  ·exact h1 h
  ·exact h2 h
  ·exact h
 ·exact ZU h h1 h2 h3
theorem Gk{g:Option (Nat×Bool)}{c:AV}{A B Z:Prop}(h:gG g c A B Z):(c= .bool true∧A)∨(c= .bool false∧B)∨(c= .tup []∧g.isSome=true∧Z):=by
 unfold gG at h;split at h
 ·unfold ifK at h;split at h
  ·exact .inl ⟨rfl,h⟩
  ·exact .inr (.inl ⟨rfl,h⟩)
  ·exact h.elim
 ·unfold gK at h;split at h
  ·exact .inl ⟨rfl,h⟩
  ·exact .inr (.inl ⟨rfl,h⟩)
  ·exact .inr (.inr ⟨rfl,rfl,h⟩)
  ·exact h.elim
theorem O7{g:Option (Nat×Bool)}{A B Z:Prop}(h:A):gG g (.bool true) A B Z:=by cases g<;>exact h
theorem NH{g:Option (Nat×Bool)}{A B Z:Prop}(h:B):gG g (.bool false) A B Z:=by cases g<;>exact h
theorem Yu{g:Option (Nat×Bool)}{A B Z:Prop}(hg:g.isSome=true)(h:Z):gG g (.tup []) A B Z:=by
 cases g with
 |none=>cases hg
 |some _=>exact h
section
variable {C:Ctx} {Ca:Nat→List AV→St→(AV→St→Prop)→Prop} {f:Nat} (hCa:CX Ca)
include hCa
omit hCa in
theorem cE{o:Oper}{d:Nat}(e:o.dst=some d)(hl:C.loc f d=true)(before:List Oper):d∈DB C f before o:=by
 unfold DB;split<;>simp[e,hl]
theorem Km{ops:Array Oper}{all:List Oper}{K K':Fr→St→Prop}:∀{l:List Oper} {dec:List (Nat×Option Bool)} {before before':List Oper} {fr:Fr} {S:St},Ahead before before'→
  (∀fr' S',Agr (l.flatMap fun o=>Al C (Ek C f all o.dst) o) (KL C f before' l) fr fr'→K fr' S'→K' fr' S')→Jy C Ca f ops all K dec before l fr S→Jy C Ca f ops all K' dec before l fr S
 |[],dec,before,before',fr,S,ha,hK,h=>hK fr S (Agr.refl _ _ _) h
 |o::l,dec,before,before',fr,S,ha,hK,h=>by
  have hrun:∀dec',(match Mf C f o with
   |true=>opW C Ca f before (Ek C f all o.dst) o fr S (Jy C Ca f ops all K (GU ops o dec') (o::before) l)
   |false=>False)→(match Mf C f o with
   |true=>opW C Ca f before (Ek C f all o.dst) o fr S (Jy C Ca f ops all K' (GU ops o dec') (o::before) l)
   |false=>False):=by
   intro dec' h;split at h
   ·refine UW hCa (fun fr1 S1 hagr hh=>?_) h
    refine Km (.same o ha) (fun fr' S' hagr'=>hK fr' S' ?_) hh
    have:=(hagr.mono (fun t ht=>ht) (RC ha o)).trans hagr'
    simpa[KL] using this
   ·exact h
  have hskip:∀dec',Jy C Ca f ops all K (GU ops o dec') ({o with op:=.ready 0}::before) l (fr.skip C f o.dst) S→Jy C Ca f ops all K' (GU ops o dec') ({o with op:=.ready 0}::before) l (fr.skip C f o.dst) S:=by
   intro dec' h;refine Km (.skip o ha) (fun fr' S' hagr'=>hK fr' S' ?_) h
   have hs:Agr (Al C (Ek C f all o.dst) o) (DB C f before' o) fr (fr.skip C f o.dst):=by
    unfold Fr.skip;split
    ·rename_i d e;have hd:d∈Al C (Ek C f all o.dst) o:=by unfold Al;rw[e];simp
     split
     ·rename_i hl;exact((Agr.refl _ _ fr).setB d _ (cE e hl before')).set d _ hd
     ·exact(Agr.refl _ _ fr).set d _ hd
    ·exact Agr.refl _ _ _
   have:=hs.trans hagr';simpa[KL] using this
  unfold Jy at h ⊢;dsimp only at h ⊢ hskip;generalize ({dst:=o.dst,op:=Op.ready 0,type:=o.type,pos:=o.pos,after:=o.after,guard:=o.guard}::before:List Oper)=bs at hskip h ⊢;cases hg:o.guard with
  |none=>rw[hg] at h;exact hrun _ h
  |some p=>
   obtain⟨j,want⟩:=p;rw[hg] at h;dsimp only at h ⊢;cases hdec:decided j dec with
   |some q=>
    rw[hdec] at h;cases q with
    |none=>exact hskip _ h
    |some b=>cases b<;>cases want<;>first|exact hrun _ h|exact hskip _ h
   |none=>
    rw[hdec] at h;cases want with
    |true=>
     dsimp only at h ⊢;exact H7 h (hrun _) (hskip _) (hskip _)
    |false=>
     dsimp only at h ⊢;exact H7 h (hskip _) (hrun _) (hskip _)
end
def graft(U UB:List Nat)(g fr:Fr):Fr:={v:=fun t=>if t∈U then g.v t else fr.v t,b:=fun t=>if t∈UB then g.b t else fr.b t}
theorem Fr.ext'{a b:Fr}(h1:∀t,a.v t=b.v t)(h2:∀t,a.b t=b.b t):a=b:=by
 cases a;cases b;simp only[Fr.mk.injEq];exact⟨funext h1,funext h2⟩
section
variable {U UB:List Nat} {g fr:Fr}
theorem Fi{t:Nat}(h:t ∉ U):(graft U UB g fr).v t=fr.v t:=by simp[graft,h]
theorem E2{t:Nat}(h:t ∉ UB):(graft U UB g fr).b t=fr.b t:=by simp[graft,h]
theorem F5{d:Nat}{x:AV}(h:d ∉ U):(graft U UB g fr).set d x=graft U UB g (fr.set d x):=by
 refine Fr.ext' (fun t=>?_) (fun t=>rfl)
 simp only[Fr.set,graft]
 by_cases e:t=d
 ·subst e;simp[h]
 ·simp[e]
theorem Hq{d:Nat}{x:Option (List AV)}(h:d ∉ UB):(graft U UB g fr).setB d x=graft U UB g (fr.setB d x):=by
 refine Fr.ext' (fun t=>rfl) (fun t=>?_)
 simp only[Fr.setB,graft]
 by_cases e:t=d
 ·subst e;simp[h]
 ·simp[e]
theorem NX{d:Option Nat}{x:AV}(h:∀t,d=some t→t ∉ U):(graft U UB g fr).put d x=graft U UB g (fr.put d x):=by
 cases d with
 |none=>rfl
 |some t=>exact F5 (h t rfl)
theorem ER{x:Operand}(h:∀t∈BL x,t ∉ U):(graft U UB g fr).stripAt x=graft U UB g (fr.stripAt x):=by
 cases x with
 |tmp y=>
  have hy:y ∉ U:=h y (by simp[BL])
  simp only[Fr.stripAt,Fi hy];exact F5 hy
 |_=>rfl
theorem Ao{C:Ctx}{t:Nat}{x:Operand}(h:∀t∈BL x,t ∉ U):opd C (graft U UB g fr) t x=opd C fr t x:=by
 cases x with
 |tmp y=>exact Fi (h y (by simp[BL]))
 |_=>rfl
end
section
variable {C:Ctx} {Ca:Nat→List AV→St→(AV→St→Prop)→Prop} {f:Nat} {fr g:Fr} {S:St} {U UB:List Nat} {K:Fr→St→Prop}
theorem Qv{l:List (Nat×Operand)}(h:∀p∈l,∀t∈BL p.2,t ∉ U)(ty:Nat→Nat):l.map (fun p=>opd C (graft U UB g fr) (ty p.1) p.2)=l.map (fun p=>opd C fr (ty p.1) p.2):=
 List.map_congr_left fun p hp=>Ao (h p hp)
theorem Ph{l:List (Nat×Operand)}(h:∀p∈l,∀t∈BL p.2,t ∉ U)(ty:Nat→Nat):l.map (fun p=>(p.1,opd C (graft U UB g fr) (ty p.1) p.2))=l.map (fun p=>(p.1,opd C fr (ty p.1) p.2)):=
 List.map_congr_left fun p hp=>by rw[Ao (h p hp)]
theorem KV{l:List Operand}(h:∀p∈l,∀t∈BL p,t ∉ U)(t:Nat):l.map (opd C (graft U UB g fr) t)=l.map (opd C fr t):=
 List.map_congr_left fun p hp=>Ao (h p hp)
theorem IX{x:Option Operand}(h:∀y,x=some y→∀t∈BL y,t ∉ U)(t:Nat):x.map (opd C (graft U UB g fr) t)=x.map (opd C fr t):=by
 cases x with
 |none=>rfl
 |some y=>simp only[Option.map_some,Ao (h y rfl)]
theorem Tg{c:Call}{t:Nat}{dst:Option Nat}(hR:∀x∈c.operands.toList,∀t∈BL x,t ∉ U)(hd:∀d,dst=some d→d ∉ U)
  (h:FQ C Ca c t dst fr S (fun fr' S'=>K (graft U UB g fr') S')):FQ C Ca c t dst (graft U UB g fr) S K:=by
 have P:∀v,(graft U UB g fr).put dst v=graft U UB g (fr.put dst v):=fun v=>NX hd
 have hargs:∀x∈c.args.toList,∀t∈BL x,t ∉ U:=fun x hx=>hR x (by simp only[Call.operands,Array.toList_append];exact List.mem_append_right _ hx)
 have hz:(c.argTypes.toList.zip c.args.toList).map (fun p=>opd C (graft U UB g fr) p.1 p.2)=(c.argTypes.toList.zip c.args.toList).map (fun p=>opd C fr p.1 p.2):=
  List.map_congr_left fun p hp=>Ao (hargs p.2 (List.of_mem_zip hp).2)
 unfold FQ at h ⊢;simp only[hz];obtain⟨callee,args,argTypes⟩:=c;cases callee with
 |value x=>
  have hx:∀t∈BL x,t ∉ U:=hR x (by simp[Call.operands])
  have hx2:=fun t=>Ao (C:=C) (UB:=UB) (g:=g) (fr:=fr) (t:=t) hx
  cases x<;>simp only[hx2,P] at h ⊢<;>exact h
 |invoke x m=>
  have hx:∀t∈BL x,t ∉ U:=hR x (by simp[Call.operands])
  simp only[Ao hx,P] at h ⊢;exact h
 |builtin b=>
  simp only at h hargs ⊢;generalize argTypes.toList=ts at h ⊢;generalize args.toList=xs at h hargs ⊢
  match ts,xs with
  |[t],[x]=>
   have hx:=hargs x (by simp)
   simp only[Ao hx,P] at h ⊢;exact h
  |[t,u],[x,y]=>
   have hx:=hargs x (by simp)
   have hy:=hargs y (by simp)
   have P2:∀v,((graft U UB g fr).stripAt x).put dst v=graft U UB g ((fr.stripAt x).put dst v):=fun v=>by rw[ER hx,NX hd]
   simp only[Ao hx,Ao hy,P,P2] at h ⊢;exact h
  |[t,u,v],[x,y,z]=>
   have hx:=hargs x (by simp)
   have hy:=hargs y (by simp)
   have hz:=hargs z (by simp)
   simp only[Ao hx,Ao hy,Ao hz,P] at h ⊢;exact h
  |[],_=>exact h
  |[_],[]=>exact h
  |[_],_::_::_=>exact h
  |[_,_],[]=>exact h
  |[_,_],[_]=>exact h
  |[_,_],_::_::_::_=>exact h
  |[_,_,_],[]=>exact h
  |[_,_,_],[_]=>exact h
  |[_,_,_],[_,_]=>exact h
  |[_,_,_],_::_::_::_::_=>exact h
  |_::_::_::_::_,_=>exact h
theorem Wv{B B2:List Oper}{tk:Bool}{o:Oper}(hR:∀x∈o.op.operands.toList,∀t∈BL x,t ∉ U)(hB:∀x∈o.op.operands.toList,∀b off,resolve C f B x=some (b,off)→b ∉ UB)
  (hd:∀d,o.dst=some d→d ∉ U∧d ∉ UB) (hres:∀x∈o.op.operands.toList,resolve C f B2 x=resolve C f B x)
  (h:opW C Ca f B tk o fr S (fun fr' S'=>K (graft U UB g fr') S')):opW C Ca f B2 tk o (graft U UB g fr) S K:=by
 have P:∀v fr,(graft U UB g fr).put o.dst v=graft U UB g (fr.put o.dst v):=fun v fr=>NX fun d e=>(hd d e).1
 obtain⟨dst,op,ty,pos,after,guard⟩:=o;simp only at hR hB hd hres P;cases op<;>simp only[opW,Op.operands,Call.operands] at h hR hB hres ⊢<;>try exact h
 case move x=>
  have hx:=hR x (by simp)
  rw[hres x (by simp)]
  simp only[Ao hx,ER hx,P];exact h
 case assign x=>
  have hx:=hR x (by simp)
  rw[hres x (by simp)]
  simp only[Ao hx,ER hx,P];exact h
 case pick c a b=>
  simp only[Ao (hR c (by simp)),Ao (hR a (by simp)),Ao (hR b (by simp)),P]
  exact h
 case alloc e=>
  cases dst with
  |none=>exact h
  |some d=>
   simp only[Hq (hd d rfl).2,F5 (hd d rfl).1] at h ⊢;exact h
 case box e x=>
  have hx:=hR x (by simp)
  simp only[Ao hx];cases dst with
  |none=>exact h
  |some d=>
   simp only[ER hx,Hq (hd d rfl).2,F5 (hd d rfl).1] at h ⊢;exact h
 case build t ps=>
  have hps:∀p∈ps.toList,∀t∈BL p.2,t ∉ U:=fun p hp=>hR p.2 (by simp;exact⟨p.1,by simpa using hp⟩)
  simp only[Ph hps (TM C t),P];exact h
 case buildSlice t n ps=>
  have hps:∀p∈ps.toList,∀t∈BL p.2,t ∉ U:=fun p hp=>hR p.2 (by simp;exact⟨p.1,by simpa using hp⟩)
  have:=fun e=>Qv (C:=C) (g:=g) (UB:=UB) (fr:=fr) hps (fun _=>e)
  simp only[this,P];exact h
 case load t x=>
  have hx:=hR x (by simp)
  rw[hres x (by simp)]
  have hb:=hB x (by simp)
  cases hr:resolve C f B x with
  |none=>
   rw[hr] at h;simp only[Ao hx,P] at h ⊢;exact h
  |some p=>
   obtain⟨b,off⟩:=p;rw[hr] at h;have hb':=hb b off hr;simp only[E2 hb',Hq hb',P] at h ⊢;exact h
 case store t x y=>
  have hx:=hR x (by simp)
  have hy:=hR y (by simp)
  rw[hres x (by simp)]
  have hb:=hB x (by simp)
  cases hr:resolve C f B x with
  |none=>
   rw[hr] at h;simp only[Ao hx,Ao hy,ER hy,P] at h ⊢;exact h
  |some p=>
   obtain⟨b,off⟩:=p;rw[hr] at h;have hb':=hb b off hr;simp only[Ao hy,E2 hb',ER hy,Hq hb',P] at h ⊢;exact h
 case nilCheck x=>
  have hx:=hR x (by simp)
  rw[hres x (by simp)]
  have hb:=hB x (by simp)
  cases hr:resolve C f B x with
  |none=>
   rw[hr] at h;simp only[Ao hx,P] at h ⊢;exact h
  |some p=>
   rw[hr] at h;have hb':=hb p.1 p.2 hr;simp only[E2 hb',P] at h ⊢;exact h
 case binOp op t x y u=>
  simp only[Ao (hR x (by simp)),Ao (hR y (by simp)),P]
  exact h
 case unOp op t x=>
  simp only[Ao (hR x (by simp)),P]
  exact h
 case convert s d x=>
  simp only[Ao (hR x (by simp)),P]
  exact h
 case makeInterface t x=>
  simp only[Ao (hR x (by simp)),P]
  exact h
 case makeFunc fn first cap=>
  have h1:∀p∈first.toList,∀t∈BL p,t ∉ U:=fun p hp=>hR p (by simp;left;simpa using hp)
  have h2:∀p∈cap.toList,∀t∈BL p,t ∉ U:=fun p hp=>hR p (by simp;right;simpa using hp)
  cases fn<;>simp only[KV h1,KV h2,P] at h ⊢<;>exact h
 case makeMap t r=>
  cases r<;>simp only[P] at h ⊢<;>exact h
 case makeSlice t l c=>
  simp only[Ao (hR l (by simp)),Ao (hR c (by simp)),P]
  exact h
 case slice t x lo hi mx=>
  have hx:=hR x (by simp)
  have hlo:∀y,lo=some y→∀t∈BL y,t ∉ U:=fun y e=>hR y (by subst e;simp)
  have hhi:∀y,hi=some y→∀t∈BL y,t ∉ U:=fun y e=>hR y (by subst e;simp)
  have hmx:∀y,mx=some y→∀t∈BL y,t ∉ U:=fun y e=>hR y (by subst e;simp)
  simp only[Ao hx,ER hx,IX hlo,IX hhi,IX hmx,P];exact h
 case fieldAddr t x i=>
  have hx:=hR x (by simp)
  rw[hres x (by simp)]
  have hb:=hB x (by simp)
  cases hr:resolve C f B x with
  |none=>
   rw[hr] at h;simp only[Ao hx,P] at h ⊢;exact h
  |some p=>
   rw[hr] at h;have hb':=hb p.1 p.2 hr;simp only[E2 hb',P] at h ⊢;exact h
 case field t x i=>
  simp only[Ao (hR x (by simp)),P]
  exact h
 case indexAddr t x i=>
  have hx:=hR x (by simp)
  have hi:=hR i (by simp)
  rw[hres x (by simp)]
  have hb:=hB x (by simp)
  cases hr:resolve C f B x with
  |none=>
   rw[hr] at h;simp only[Ao hx,Ao hi,P] at h ⊢;exact h
  |some p=>
   rw[hr] at h;have hb':=hb p.1 p.2 hr;simp only[Ao hx,Ao hi,E2 hb',P] at h ⊢;exact h
 case index t x i=>
  simp only[Ao (hR x (by simp)),Ao (hR i (by simp)),P]
  exact h
 case lookup t x i ok=>
  simp only[Ao (hR x (by simp)),Ao (hR i (by simp)),P]
  exact h
 case mapUpdate t m k v=>
  simp only[Ao (hR m (by simp)),Ao (hR k (by simp)),Ao (hR v (by simp)),P]
  exact h
 case extract x i=>
  cases x with
  |tmp t=>
   have ht:t ∉ U:=hR (.tmp t) (by simp) t (by simp[BL])
   simp only[Fi ht,F5 ht,P];exact h
  |_=>exact h
 case call c=>
  exact Tg hR (fun d e=>(hd d e).1) h
end
def upd(L:List (Nat×AV))(LB:List (Nat×Option (List AV)))(fr:Fr):Fr:=L.foldl (fun fr p=>fr.set p.1 p.2) (LB.foldl (fun fr p=>fr.setB p.1 p.2) fr)
theorem Sg(LB:List (Nat×Option (List AV))):∀(fr:Fr) (t:Nat),(LB.foldl (fun fr p=>fr.setB p.1 p.2) fr).v t=fr.v t:=by
 induction LB with
 |nil=>intro fr t;rfl
 |cons p l ih=>intro fr t;exact ih _ t
theorem Sk(L:List (Nat×AV)):∀(fr:Fr) (t:Nat),(L.foldl (fun fr p=>fr.set p.1 p.2) fr).b t=fr.b t:=by
 induction L with
 |nil=>intro fr t;rfl
 |cons p l ih=>intro fr t;exact ih _ t
theorem Wq(L:List (Nat×AV)):∀(fr:Fr) (t:Nat),t ∉ L.map (·.1)→(L.foldl (fun fr p=>fr.set p.1 p.2) fr).v t=fr.v t:=by
 induction L with
 |nil=>intro fr t _;rfl
 |cons p l ih=>
  intro fr t h;simp only[List.map_cons,List.mem_cons,not_or] at h;rw[List.foldl_cons,ih _ t h.2];simp[Fr.set,h.1]
theorem VJ(L:List (Nat×AV)):∀(fr fr2:Fr) (t:Nat),(t∈L.map (·.1)∨fr.v t=fr2.v t)→(L.foldl (fun fr p=>fr.set p.1 p.2) fr).v t=(L.foldl (fun fr p=>fr.set p.1 p.2) fr2).v t:=by
 induction L with
 |nil=>intro fr fr2 t h;simpa using h
 |cons p l ih=>
  intro fr fr2 t h;rw[List.foldl_cons,List.foldl_cons];refine ih _ _ t ?_
  by_cases e:t=p.1
  ·right;simp[Fr.set,e]
  ·simp only[List.map_cons,List.mem_cons,e,false_or] at h;exact h.imp id fun h=>by simp[Fr.set,e,h]
theorem W9(L:List (Nat×Option (List AV))):∀(fr:Fr) (t:Nat),t ∉ L.map (·.1)→(L.foldl (fun fr p=>fr.setB p.1 p.2) fr).b t=fr.b t:=by
 induction L with
 |nil=>intro fr t _;rfl
 |cons p l ih=>
  intro fr t h;simp only[List.map_cons,List.mem_cons,not_or] at h;rw[List.foldl_cons,ih _ t h.2];simp[Fr.setB,h.1]
theorem Vo(L:List (Nat×Option (List AV))):∀(fr fr2:Fr) (t:Nat),(t∈L.map (·.1)∨fr.b t=fr2.b t)→(L.foldl (fun fr p=>fr.setB p.1 p.2) fr).b t=(L.foldl (fun fr p=>fr.setB p.1 p.2) fr2).b t:=by
 induction L with
 |nil=>intro fr fr2 t h;simpa using h
 |cons p l ih=>
  intro fr fr2 t h;rw[List.foldl_cons,List.foldl_cons];refine ih _ _ t ?_
  by_cases e:t=p.1
  ·right;simp[Fr.setB,e]
  ·simp only[List.map_cons,List.mem_cons,e,false_or] at h;exact h.imp id fun h=>by simp[Fr.setB,e,h]
section
variable {L:List (Nat×AV)} {LB:List (Nat×Option (List AV))} {fr fr2:Fr} {t:Nat}
theorem F7(h:t ∉ L.map (·.1)):(upd L LB fr).v t=fr.v t:=by rw[upd,Wq _ _ _ h,Sg]
theorem FE(h:t ∉ LB.map (·.1)):(upd L LB fr).b t=fr.b t:=by rw[upd,Sk,W9 _ _ _ h]
theorem Lt(h:t∈L.map (·.1)∨fr.v t=fr2.v t):(upd L LB fr).v t=(upd L LB fr2).v t:=by
 unfold upd;exact VJ _ _ _ _ (h.imp id fun h=>by rw[Sg,Sg];exact h)
theorem Ly(h:t∈LB.map (·.1)∨fr.b t=fr2.b t):(upd L LB fr).b t=(upd L LB fr2).b t:=by
 unfold upd;rw[Sk,Sk];exact Vo _ _ _ _ h
end
section
variable (C:Ctx) (f:Nat) (all:List Oper) (tk:Bool) (o:Oper)
def isD:Bool:=
 match o.op with
 | .store _ x _=>(F9 C f all x).isSome
 | .load _ x=>(F9 C f all x).isSome||!tk
 | .alloc _| .box _ _=>(match o.dst with|some d=>C.loc f d|none=>false)
 | .makeMap _ _| .makeSlice _ _ _| .mapUpdate _ _ _ _=>false
 | .call c=>(match c.callee with
  | .builtin b=>(match b with
   | .len| .min| .max=>true
   | .append=>(match c.argTypes.toList with
    |t::_=>(match (C.ty t).kind with| .slice e=>!C.byref e|_=>false)
    |[]=>false)
   |_=>false)
  |_=>false)
 |_=>true
def Hc:Bool:=
 match o.op with
 | .load _ x=>!(F9 C f all x).isSome
 | .lookup _ _ _ _=>true
 | .convert s d _=>(match (C.ty d).kind,(C.ty s).kind with| .str,.slice _=>true|_,_=>false)
 | .binOp _ t x y _=>(match JR C t (isLit x||isLit y) with| .ptr2=>true|_=>false)
 | .call c=>(match c.callee with
  | .builtin b=>(match b with
   | .len=>(match c.argTypes.toList with|t::_=>(match (C.ty t).kind with| .map _ _=>true|_=>false)|[]=>false)
   | .append=>true
   |_=>false)
  |_=>true)
 | .store _ _ _| .mapUpdate _ _ _ _| .makeSlice _ _ _=>true
 |_=>false
def addrOf:Op→Option Operand
 | .store _ x _| .load _ x=>some x
 |_=>none
def bu(B:List Oper)(b:Nat):Prop:=
 (o.dst=some b∧C.loc f b=true)∨(match o.op with
  | .store _ x _=>∃off,resolve C f B x=some (b,off)
  | .load _ x=>tk=true∧∃off,resolve C f B x=some (b,off)
  |_=>False)
end
section
variable {C:Ctx} {Ca:Nat→List AV→St→(AV→St→Prop)→Prop} {f:Nat} {all:List Oper} {tk:Bool} {o:Oper} {fr:Fr} {S:St} {K:Fr→St→Prop} {B:List Oper}
def Jp(d:Option Nat)(v:AV):List (Nat×AV):=match d with|some d=>[(d,v)]|none=>[]
def stripL(fr:Fr)(x:Operand):List (Nat×AV):=match x with| .tmp x=>[(x,(fr.v x).strip)]|_=>[]
theorem PA(d:Option Nat)(v:AV)(LB:List (Nat×Option (List AV)))(fr:Fr):upd (Jp d v) LB fr=(upd [] LB fr).put d v:=by cases d<;>rfl
theorem Lk(x:Operand)(d:Option Nat)(v:AV)(fr fr':Fr)(h:∀t∈BL x,fr'.v t=fr.v t):upd (stripL fr x++Jp d v) [] fr'=(fr'.stripAt x).put d v:=by
 cases x with
 |tmp y=>
  have:=h y (by simp[BL])
  cases d<;>simp only[stripL,Jp,upd,List.foldl,List.cons_append,List.nil_append,Fr.stripAt,Fr.put,this]
 |_=>cases d<;>rfl
theorem AO{fr fr2:Fr}{t:Nat}{x:Operand}(h:∀t∈BL x,fr2.v t=fr.v t):opd C fr2 t x=opd C fr t x:=by
 cases x with
 |tmp y=>exact h y (by simp[BL])
 |_=>rfl
theorem Qx{fr fr2:Fr}{l:List (Nat×Operand)}(h:∀p∈l,∀t∈BL p.2,fr2.v t=fr.v t)(ty:Nat→Nat):l.map (fun p=>(p.1,opd C fr2 (ty p.1) p.2))=l.map (fun p=>(p.1,opd C fr (ty p.1) p.2)):=
 List.map_congr_left fun p hp=>by rw[AO (h p hp)]
theorem PF{fr fr2:Fr}{l:List (Nat×Operand)}(h:∀p∈l,∀t∈BL p.2,fr2.v t=fr.v t)(e:Nat):l.map (fun p=>opd C fr2 e p.2)=l.map (fun p=>opd C fr e p.2):=
 List.map_congr_left fun p hp=>AO (h p hp)
theorem J7{fr fr2:Fr}{l:List Operand}(h:∀p∈l,∀t∈BL p,fr2.v t=fr.v t)(t:Nat):l.map (opd C fr2 t)=l.map (opd C fr t):=
 List.map_congr_left fun p hp=>AO (h p hp)
theorem DJ{fr fr2:Fr}{x:Option Operand}(h:∀y,x=some y→∀t∈BL y,fr2.v t=fr.v t)(t:Nat):x.map (opd C fr2 t)=x.map (opd C fr t):=by
 cases x with
 |none=>rfl
 |some y=>simp only[Option.map_some,AO (h y rfl)]
def Det(C:Ctx)(f:Nat)(B:List Oper)(tk:Bool)(o:Oper)(rs:Bool)(fr:Fr)(S:St)(K:Fr→St→Prop)(W:List Oper→Fr→St→(Fr→St→Prop)→Prop):Prop:=
 ∃L LB,(∀p∈L,p.1∈Al C tk o)∧(∀d,o.dst=some d→d∈L.map (·.1))∧(∀p∈LB,bu C f tk o B p.1)∧K (upd L LB fr) S∧
  ∀B2 fr2 S2 K2,(∀x∈o.op.operands.toList,∀t∈BL x,fr2.v t=fr.v t)→(∀x∈o.op.operands.toList,∀b off,resolve C f B x=some (b,off)→fr2.b b=fr.b b)→
   (∀x∈o.op.operands.toList,resolve C f B2 x=resolve C f B x)→(rs=true→S2=S)→K2 (upd L LB fr2) S2→W B2 fr2 S2 K2
theorem BX{W:List Oper→Fr→St→(Fr→St→Prop)→Prop}{rs:Bool}(v:AV)(h:K (fr.put o.dst v) S)
  (hw:∀B2 fr2 S2 K2,(∀x∈o.op.operands.toList,∀t∈BL x,fr2.v t=fr.v t)→(∀x∈o.op.operands.toList,∀b off,resolve C f B x=some (b,off)→fr2.b b=fr.b b)→
   (∀x∈o.op.operands.toList,resolve C f B2 x=resolve C f B x)→(rs=true→S2=S)→K2 (fr2.put o.dst v) S2→W B2 fr2 S2 K2):Det C f B tk o rs fr S K W:=by
 refine⟨Jp o.dst v,[],fun p hp=>?_,fun d e=>by rw[e];simp[Jp],by simp,by rw[PA];exact h,fun B2 fr2 S2 K2 h1 h2 h3 h4 h5=>hw B2 fr2 S2 K2 h1 h2 h3 h4 (by rw[PA] at h5;exact h5)⟩
 unfold Jp at hp;split at hp
 ·rename_i d e;simp only[List.mem_singleton] at hp;subst hp;unfold Al;rw[e];simp
 ·simp at hp
theorem Kw{W:List Oper→Fr→St→(Fr→St→Prop)→Prop}{rs:Bool}(x:Operand)(hx:x∈o.op.operands.toList)(hxw:∀t∈BL x,t∈Al C tk o)(v:AV)(h:K ((fr.stripAt x).put o.dst v) S)
  (hw:∀B2 fr2 S2 K2,(∀x∈o.op.operands.toList,∀t∈BL x,fr2.v t=fr.v t)→(∀x∈o.op.operands.toList,∀b off,resolve C f B x=some (b,off)→fr2.b b=fr.b b)→
   (∀x∈o.op.operands.toList,resolve C f B2 x=resolve C f B x)→(rs=true→S2=S)→K2 ((fr2.stripAt x).put o.dst v) S2→W B2 fr2 S2 K2):Det C f B tk o rs fr S K W:=by
 refine⟨stripL fr x++Jp o.dst v,[],fun p hp=>?_,fun d e=>by rw[e];simp[Jp],by simp,by rw[Lk _ _ _ _ _ fun _ _=>rfl];exact h,
  fun B2 fr2 S2 K2 h1 h2 h3 h4 h5=>hw B2 fr2 S2 K2 h1 h2 h3 h4 (by rw[Lk _ _ _ _ _ (h1 x hx)] at h5;exact h5)⟩
 rcases List.mem_append.1 hp with hp|hp
 ·unfold stripL at hp;split at hp
  ·simp only[List.mem_singleton] at hp;subst hp;exact hxw _ (by simp[BL])
  ·simp at hp
 ·unfold Jp at hp;split at hp
  ·rename_i d e;simp only[List.mem_singleton] at hp;subst hp;unfold Al;rw[e];simp
  ·simp at hp
theorem W3{c:Call}(ho:o.op= .call c)(hD:isD C f all tk o=true)(h:FQ C Ca c o.type o.dst fr S K):
  Det C f B tk o (Hc C f all o) fr S K (fun B2 fr2 S2 K2=>FQ C Ca c o.type o.dst fr2 S2 K2):=by
 have hops:o.op.operands=c.operands:=by rw[ho];rfl
 obtain⟨callee,args,argTypes⟩:=c;unfold isD at hD;rw[ho] at hD;cases callee with
 |value x=>simp at hD
 |invoke x m=>simp at hD
 |builtin b=>
  have hargs:∀x∈args.toList,x∈o.op.operands.toList:=fun x hx=>by rw[hops];simp[Call.operands];simpa using hx
  unfold FQ at h;simp only at h hD;have hz:∀fr2:Fr,(∀x∈o.op.operands.toList,∀t∈BL x,fr2.v t=fr.v t)→(argTypes.toList.zip args.toList).map (fun p=>opd C fr2 p.1 p.2)=(argTypes.toList.zip args.toList).map (fun p=>opd C fr p.1 p.2):=fun fr2 hh=>
   List.map_congr_left fun p hp=>AO (hh p.2 (hargs _ (List.of_mem_zip hp).2))
  split at h
  ·
   rename_i t x hts hxs;have hx:x∈o.op.operands.toList:=hargs x (by rw[hxs];simp)
   cases b<;>simp only at h hD<;>first|exact h.elim|skip
   case len=>
    split at h
    ·rename_i hk;obtain⟨v,hv,h⟩:=AF h;refine BX v h fun B2 fr2 S2 K2 h1 h2 h3 h4 h5=>?_
     unfold FQ;simp only[hts,hxs,hk,AO (h1 x hx),hv];exact h5
    ·rename_i hk;obtain⟨v,hv,h⟩:=AF h;refine BX v h fun B2 fr2 S2 K2 h1 h2 h3 h4 h5=>?_
     unfold FQ;simp only[hts,hxs,hk,AO (h1 x hx),hv];exact h5
    ·rename_i hk;obtain⟨v,hv,h⟩:=AF h;refine BX v h fun B2 fr2 S2 K2 h1 h2 h3 h4 h5=>?_
     have:S2=S:=h4 (by unfold Hc;rw[ho];simp[hts,hk])
     subst this;unfold FQ;simp only[hts,hxs,hk,AO (h1 x hx),hv];exact h5
    ·exact h.elim
  ·rename_i t u x y hts hxs;have hx:x∈o.op.operands.toList:=hargs x (by rw[hxs];simp)
   have hy:y∈o.op.operands.toList:=hargs y (by rw[hxs];simp)
   cases b<;>simp only at h hD<;>first|exact h.elim|(cases hD;done)|skip
   case min=>
    obtain⟨v,hv,h⟩:=AF h;refine BX v h fun B2 fr2 S2 K2 h1 h2 h3 h4 h5=>?_
    unfold FQ;simp only[hts,hxs,AO (h1 x hx),AO (h1 y hy),hv];exact h5
   case max=>
    obtain⟨v,hv,h⟩:=AF h;refine BX v h fun B2 fr2 S2 K2 h1 h2 h3 h4 h5=>?_
    unfold FQ;simp only[hts,hxs,AO (h1 x hx),AO (h1 y hy),hv];exact h5
   case append=>
    rw[hts] at hD;simp only at hD;split at h
    ·rename_i e hk hk2;rw[hk] at hD;simp only[Bool.not_eq_true'] at hD;rw[hD] at h;obtain⟨v,hv,h⟩:=AF h;refine Kw x hx (fun t ht=>?_) v h fun B2 fr2 S2 K2 h1 h2 h3 h4 h5=>?_
     ·unfold Al;rw[ho];refine List.mem_append_right _ ?_;simp only[hxs,List.headD_cons];exact ht
     ·have:S2=S:=h4 (by unfold Hc;rw[ho])
      subst this;unfold FQ;simp only[hts,hxs,hk,hk2,hD,AO (h1 x hx),AO (h1 y hy),hv];exact h5
    ·exact h.elim
  ·rename_i t u t2 x y z hts hxs;have hx:x∈o.op.operands.toList:=hargs x (by rw[hxs];simp)
   have hy:y∈o.op.operands.toList:=hargs y (by rw[hxs];simp)
   have hz':z∈o.op.operands.toList:=hargs z (by rw[hxs];simp)
   cases b<;>simp only at h hD<;>first|exact h.elim|skip
   case max=>
    obtain⟨v,hv,h⟩:=AF h;refine BX v h fun B2 fr2 S2 K2 h1 h2 h3 h4 h5=>?_
    unfold FQ;simp only[hts,hxs,AO (h1 x hx),AO (h1 y hy),AO (h1 z hz'),hv];exact h5
  ·exact h.elim
theorem Z6(hD:isD C f all tk o=true)(hag:∀x,addrOf o.op=some x→(resolve C f B x).isSome=(F9 C f all x).isSome)(h:opW C Ca f B tk o fr S K):
  Det C f B tk o (Hc C f all o) fr S K (fun B2 fr2 S2 K2=>opW C Ca f B2 tk o fr2 S2 K2):=by
 have hw0:=h;unfold opW at h;split at h
 ·rename_i x ho;have hx:x∈o.op.operands.toList:=by rw[ho];simp[Op.operands]
  split at h
  ·rename_i p hr;refine BX _ h fun B2 fr2 S2 K2 h1 h2 h3 h4 h5=>?_
   unfold opW;simp only[ho,h3 x hx,hr];exact h5
  ·rename_i hr;split at h
   ·rename_i htk;refine Kw x hx (fun t ht=>?_) _ h fun B2 fr2 S2 K2 h1 h2 h3 h4 h5=>?_
    ·unfold Al;rw[ho];simp only[htk];exact List.mem_append_right _ ht
    ·unfold opW;simp only[ho,h3 x hx,hr,htk,AO (h1 x hx)];exact h5
   ·rename_i htk;refine BX _ h fun B2 fr2 S2 K2 h1 h2 h3 h4 h5=>?_
    unfold opW;simp only[ho,h3 x hx,hr,htk,AO (h1 x hx)];exact h5
 ·rename_i x ho;have hx:x∈o.op.operands.toList:=by rw[ho];simp[Op.operands]
  split at h
  ·exact h.elim
  ·rename_i hr;refine Kw x hx (fun t ht=>?_) _ h fun B2 fr2 S2 K2 h1 h2 h3 h4 h5=>?_
   ·unfold Al;rw[ho];exact List.mem_append_right _ ht
   ·unfold opW;simp only[ho,h3 x hx,hr,AO (h1 x hx)];exact h5
 ·rename_i c a b ho;have hc:c∈o.op.operands.toList:=by rw[ho];simp[Op.operands]
  have ha:a∈o.op.operands.toList:=by rw[ho];simp[Op.operands]
  have hb:b∈o.op.operands.toList:=by rw[ho];simp[Op.operands]
  obtain⟨v,hv,h⟩:=AF h;refine BX _ h fun B2 fr2 S2 K2 h1 h2 h3 h4 h5=>?_
  unfold opW;simp only[ho,AO (h1 c hc),AO (h1 a ha),AO (h1 b hb),hv];exact h5
 ·rename_i e ho;unfold isD at hD;rw[ho] at hD;simp only at hD;split at h
  ·rename_i d hod;rw[hod] at hD;simp only at hD;rw[hD] at h;refine⟨[(d,.undef)],[(d,some (C.ty e).zero)],?_,fun d' e'=>by rw[hod] at e';cases e';simp,?_,h,fun B2 fr2 S2 K2 h1 h2 h3 h4 h5=>?_⟩
   ·simp[Al,hod]
   ·simp only[List.mem_singleton,forall_eq];exact .inl ⟨hod,hD⟩
   ·unfold opW;simp only[ho,hod,hD];exact h5
  ·exact h.elim
 ·rename_i e x ho;have hx:x∈o.op.operands.toList:=by rw[ho];simp[Op.operands]
  have hxw:∀t∈BL x,t∈Al C tk o:=fun t ht=>by unfold Al;rw[ho];exact List.mem_append_right _ ht
  unfold isD at hD;rw[ho] at hD;simp only at hD;obtain⟨cs,hcs,h⟩:=AF h;split at h
  ·rename_i d hod;rw[hod] at hD;simp only at hD;rw[hD] at h;refine⟨stripL fr x++[(d,.undef)],[(d,some cs)],?_,fun d' e'=>by rw[hod] at e';cases e';simp,?_,?_,fun B2 fr2 S2 K2 h1 h2 h3 h4 h5=>?_⟩
   ·intro p hp;rcases List.mem_append.1 hp with hp|hp
    ·unfold stripL at hp;split at hp
     ·simp only[List.mem_singleton] at hp;subst hp;exact hxw _ (by simp[BL])
     ·simp at hp
    ·simp only[List.mem_singleton] at hp;subst hp;simp[Al,hod]
   ·simp only[List.mem_singleton,forall_eq];exact .inl ⟨hod,hD⟩
   ·cases x<;>exact h
   ·unfold opW;simp only[ho,hod,hD,AO (h1 x hx),hcs];cases x with
    |tmp y=>
     have:=h1 _ hx y (by simp[BL])
     simp only[stripL,←this] at h5;exact h5
    |_=>exact h5
  ·exact h.elim
 ·rename_i t ps ho;have hps:∀p∈ps.toList,p.2∈o.op.operands.toList:=fun p hp=>by rw[ho];simp[Op.operands];exact⟨p.1,by simpa using hp⟩
  obtain⟨v,hv,h⟩:=AF h;refine BX _ h fun B2 fr2 S2 K2 h1 h2 h3 h4 h5=>?_
  unfold opW;simp only[ho,Qx (fun p hp=>h1 p.2 (hps p hp)) (TM C t),hv];exact h5
 ·rename_i t n ps ho;have hps:∀p∈ps.toList,p.2∈o.op.operands.toList:=fun p hp=>by rw[ho];simp[Op.operands];exact⟨p.1,by simpa using hp⟩
  split at h
  ·rename_i e hk hk2 hk3;obtain⟨v,hv,h⟩:=AF h;refine BX _ h fun B2 fr2 S2 K2 h1 h2 h3 h4 h5=>?_
   unfold opW;simp only[ho,hk,hk2,hk3,PF (fun p hp=>h1 p.2 (hps p hp)) e,hv];exact h5
  ·exact h.elim
 ·rename_i t x ho;have hx:x∈o.op.operands.toList:=by rw[ho];simp[Op.operands]
  have hag':=hag x (by rw[ho];rfl)
  unfold isD at hD;rw[ho] at hD;simp only at hD;split at h
  ·rename_i b off hr;obtain⟨v,hv,h⟩:=AF h;split at h
   ·refine⟨Jp o.dst v.strip0,[(b,C7 (fr.b b) off)],fun p hp=>?_,fun d e=>by rw[e];simp[Jp],?_,by rw[PA];exact h,fun B2 fr2 S2 K2 h1 h2 h3 h4 h5=>?_⟩
    ·unfold Jp at hp;split at hp
     ·rename_i d e;simp only[List.mem_singleton] at hp;subst hp;simp[Al,e]
     ·simp at hp
    ·simp only[List.mem_singleton,forall_eq];refine .inr ?_;rw[ho];exact⟨rfl,off,hr⟩
    ·have hb:=h2 x hx b off hr;rw[PA] at h5;unfold opW;simp only[ho,h3 x hx,hr,hb,hv];exact h5
   ·refine BX _ h fun B2 fr2 S2 K2 h1 h2 h3 h4 h5=>?_
    have hb:=h2 x hx b off hr;unfold opW;simp only[ho,h3 x hx,hr,hb,hv];exact h5
  ·rename_i hr;rw[hr] at hag';simp only[Option.isSome_none] at hag';obtain⟨v,hv,h⟩:=AF h;split at h
   ·rw[←hag'] at hD;simp at hD
   ·refine BX _ h fun B2 fr2 S2 K2 h1 h2 h3 h4 h5=>?_
    have:S2=S:=h4 (by unfold Hc;rw[ho];simp[←hag'])
    subst this;unfold opW;simp only[ho,h3 x hx,hr,AO (h1 x hx),hv];exact h5
 ·rename_i t x y ho;have hx:x∈o.op.operands.toList:=by rw[ho];simp[Op.operands]
  have hy:y∈o.op.operands.toList:=by rw[ho];simp[Op.operands]
  have hyw:∀t∈BL y,t∈Al C tk o:=fun t ht=>by unfold Al;rw[ho];exact List.mem_append_right _ ht
  have hag':=hag x (by rw[ho];rfl)
  unfold isD at hD;rw[ho] at hD;simp only at hD;split at h
  ·rename_i b off hr;obtain⟨cs,hcs,h⟩:=AF h;refine⟨stripL fr y++Jp o.dst .undef,[(b,some cs)],fun p hp=>?_,fun d e=>by rw[e];simp[Jp],?_,?_,fun B2 fr2 S2 K2 h1 h2 h3 h4 h5=>?_⟩
   ·rcases List.mem_append.1 hp with hp|hp
    ·unfold stripL at hp;split at hp
     ·simp only[List.mem_singleton] at hp;subst hp;exact hyw _ (by simp[BL])
     ·simp at hp
    ·unfold Jp at hp;split at hp
     ·rename_i d e;simp only[List.mem_singleton] at hp;subst hp;simp[Al,e]
     ·simp at hp
   ·simp only[List.mem_singleton,forall_eq];refine .inr ?_;rw[ho];exact⟨off,hr⟩
   ·cases y<;>cases hd:o.dst<;>rw[hd] at h<;>exact h
   ·have hb:=h2 x hx b off hr;unfold opW;simp only[ho,h3 x hx,hr,hb,AO (h1 y hy),hcs];cases y with
    |tmp z=>
     have:=h1 _ hy z (by simp[BL])
     simp only[stripL,←this] at h5;cases hd:o.dst<;>rw[hd] at h5<;>exact h5
    |_=>cases hd:o.dst<;>rw[hd] at h5<;>exact h5
  ·rename_i hr;rw[hr] at hag';rw[←hag'] at hD;cases hD
 ·rename_i x ho;have hx:x∈o.op.operands.toList:=by rw[ho];simp[Op.operands]
  split at h
  ·rename_i p hr;obtain⟨v,hv,h⟩:=AF h;refine BX _ h fun B2 fr2 S2 K2 h1 h2 h3 h4 h5=>?_
   have hb:=h2 x hx p.1 p.2 hr;unfold opW;simp only[ho,h3 x hx,hr,hb,hv];exact h5
  ·rename_i hr;obtain⟨v,hv,h⟩:=AF h;refine BX _ h fun B2 fr2 S2 K2 h1 h2 h3 h4 h5=>?_
   unfold opW;simp only[ho,h3 x hx,hr,AO (h1 x hx),hv];exact h5
 ·rename_i op t x y u ho;have hx:x∈o.op.operands.toList:=by rw[ho];simp[Op.operands]
  have hy:y∈o.op.operands.toList:=by rw[ho];simp[Op.operands]
  split at h
  ·rename_i hk;obtain⟨v,hv,h⟩:=AF h;refine BX _ h fun B2 fr2 S2 K2 h1 h2 h3 h4 h5=>?_
   unfold opW;simp only[ho,hk,AO (h1 x hx),AO (h1 y hy),hv];exact h5
  ·exact h.elim
  ·rename_i hk;obtain⟨v,hv,h⟩:=AF h;refine BX _ h fun B2 fr2 S2 K2 h1 h2 h3 h4 h5=>?_
   have:S2=S:=h4 (by unfold Hc;rw[ho];simp[hk])
   subst this;unfold opW;simp only[ho,hk,AO (h1 x hx),AO (h1 y hy),hv];exact h5
  ·rename_i hk1 hk2 hk3;obtain⟨v,hv,h⟩:=AF h;refine BX _ h fun B2 fr2 S2 K2 h1 h2 h3 h4 h5=>?_
   unfold opW;simp only[ho,AO (h1 x hx),AO (h1 y hy)];generalize hk:JR C t (isLit x||isLit y)=k at hv hk1 hk2 hk3 ⊢;cases k<;>first|exact(hk1 rfl).elim|exact(hk2 rfl).elim|exact(hk3 rfl).elim|(simp only[hv];exact h5)
 ·rename_i op t x ho;have hx:x∈o.op.operands.toList:=by rw[ho];simp[Op.operands]
  obtain⟨v,hv,h⟩:=AF h;refine BX _ h fun B2 fr2 S2 K2 h1 h2 h3 h4 h5=>?_
  unfold opW;simp only[ho,AO (h1 x hx),hv];exact h5
 ·rename_i s d x ho;have hx:x∈o.op.operands.toList:=by rw[ho];simp[Op.operands]
  split at h
  ·rename_i k hk;obtain⟨v,hv,h⟩:=AF h;refine BX _ h fun B2 fr2 S2 K2 h1 h2 h3 h4 h5=>?_
   unfold opW;simp only[ho,hk,AO (h1 x hx),hv];exact h5
  ·rename_i hk;split at h
   ·rename_i hk2;obtain⟨v,hv,h⟩:=AF h;refine BX _ h fun B2 fr2 S2 K2 h1 h2 h3 h4 h5=>?_
    unfold opW;simp only[ho,hk,hk2,AO (h1 x hx),hv];exact h5
   ·rename_i e hk2;split at h
    ·rename_i hk3;obtain⟨v,hv,h⟩:=AF h;refine BX _ h fun B2 fr2 S2 K2 h1 h2 h3 h4 h5=>?_
     have:S2=S:=h4 (by unfold Hc;rw[ho];simp[hk,hk2])
     subst this;unfold opW;simp only[ho,hk,hk2,hk3,AO (h1 x hx),hv];exact h5
    ·exact h.elim
   ·exact h.elim
  ·exact h.elim
 ·rename_i t x ho;have hx:x∈o.op.operands.toList:=by rw[ho];simp[Op.operands]
  obtain⟨v,hv,h⟩:=AF h;refine BX _ h fun B2 fr2 S2 K2 h1 h2 h3 h4 h5=>?_
  unfold opW;simp only[ho,AO (h1 x hx),hv];exact h5
 ·rename_i g first cap ho
  have h1':∀p∈first.toList,p∈o.op.operands.toList:=fun p hp=>by rw[ho];simp[Op.operands];left;simpa using hp
  have h2':∀p∈cap.toList,p∈o.op.operands.toList:=fun p hp=>by rw[ho];simp[Op.operands];right;simpa using hp
  obtain⟨v,hv,h⟩:=AF h;refine BX _ h fun B2 fr2 S2 K2 h1 h2 h3 h4 h5=>?_
  unfold opW;simp only[ho,J7 (fun p hp=>h1 p (h1' p hp)),J7 (fun p hp=>h1 p (h2' p hp)),hv];exact h5
 ·rename_i t ho;unfold isD at hD;rw[ho] at hD;simp at hD
 ·rename_i t l c ho;unfold isD at hD;rw[ho] at hD;simp at hD
 ·rename_i t x lo hi mx ho;have hx:x∈o.op.operands.toList:=by rw[ho];simp[Op.operands]
  have hlo:∀y,lo=some y→y∈o.op.operands.toList:=fun y e=>by rw[ho,e];simp[Op.operands]
  have hhi:∀y,hi=some y→y∈o.op.operands.toList:=fun y e=>by rw[ho,e];simp[Op.operands]
  have hmx:∀y,mx=some y→y∈o.op.operands.toList:=fun y e=>by rw[ho,e];simp[Op.operands]
  split at h
  ·rename_i hk;split at h
   ·rename_i hmn;obtain⟨v,hv,h⟩:=AF h;refine BX _ h fun B2 fr2 S2 K2 h1 h2 h3 h4 h5=>?_
    unfold opW;simp only[ho,hk,AO (h1 x hx),DJ (fun y e=>h1 y (hlo y e)),DJ (fun y e=>h1 y (hhi y e)),hv];exact h5
   ·exact h.elim
  ·rename_i e hk;obtain⟨v,hv,h⟩:=AF h;cases mx with
   |some m=>
    refine BX _ h fun B2 fr2 S2 K2 h1 h2 h3 h4 h5=>?_
    unfold opW;simp only[ho,hk,AO (h1 x hx),DJ (fun y e=>h1 y (hlo y e)),DJ (fun y e=>h1 y (hhi y e)),DJ (fun y e=>h1 y (hmx y e)),hv];exact h5
   |none=>
   refine Kw x hx (fun t ht=>?_) _ h fun B2 fr2 S2 K2 h1 h2 h3 h4 h5=>?_
   ·unfold Al;rw[ho];exact List.mem_append_right _ ht
   ·unfold opW;simp only[ho,hk,AO (h1 x hx),DJ (fun y e=>h1 y (hlo y e)),DJ (fun y e=>h1 y (hhi y e)),DJ (fun y e=>h1 y (hmx y e)),hv];exact h5
  ·exact h.elim
 ·rename_i t x i ho;have hx:x∈o.op.operands.toList:=by rw[ho];simp[Op.operands]
  split at h
  ·exact h.elim
  ·rename_i fo hfo;split at h
   ·rename_i p hr;obtain⟨v,hv,h⟩:=AF h;refine BX _ h fun B2 fr2 S2 K2 h1 h2 h3 h4 h5=>?_
    have hb:=h2 x hx p.1 p.2 hr;unfold opW;simp only[ho,hfo,h3 x hx,hr,hb,hv];exact h5
   ·rename_i hr;obtain⟨v,hv,h⟩:=AF h;refine BX _ h fun B2 fr2 S2 K2 h1 h2 h3 h4 h5=>?_
    unfold opW;simp only[ho,hfo,h3 x hx,hr,AO (h1 x hx),hv];exact h5
 ·rename_i t x i ho;have hx:x∈o.op.operands.toList:=by rw[ho];simp[Op.operands]
  split at h
  ·rename_i fs hk;split at h
   ·rename_i p hp;obtain⟨v,hv,h⟩:=AF h;refine BX _ h fun B2 fr2 S2 K2 h1 h2 h3 h4 h5=>?_
    unfold opW;simp only[ho,hk,hp,AO (h1 x hx),hv];exact h5
   ·exact h.elim
  ·exact h.elim
 ·rename_i t x i ho;have hx:x∈o.op.operands.toList:=by rw[ho];simp[Op.operands]
  have hi:i∈o.op.operands.toList:=by rw[ho];simp[Op.operands]
  split at h
  ·rename_i e hk;obtain⟨v,hv,h⟩:=AF h;refine BX _ h fun B2 fr2 S2 K2 h1 h2 h3 h4 h5=>?_
   unfold opW;simp only[ho,hk,AO (h1 x hx),AO (h1 i hi),hv];exact h5
  ·rename_i n e hk;split at h
   ·rename_i p hr;split at h
    ·rename_i m hi2;split at h
     ·rename_i hm;obtain⟨v,hv,h⟩:=AF h;refine BX _ h fun B2 fr2 S2 K2 h1 h2 h3 h4 h5=>?_
      have hb:=h2 x hx p.1 p.2 hr;unfold opW;simp only[ho,hk,h3 x hx,hr,hb,hm,hv];exact h5
     ·exact h.elim
    ·exact h.elim
   ·rename_i hr;obtain⟨v,hv,h⟩:=AF h;refine BX _ h fun B2 fr2 S2 K2 h1 h2 h3 h4 h5=>?_
    unfold opW;simp only[ho,hk,h3 x hx,hr,AO (h1 x hx),AO (h1 i hi),hv];exact h5
  ·exact h.elim
 ·rename_i t x i ho;have hx:x∈o.op.operands.toList:=by rw[ho];simp[Op.operands]
  have hi:i∈o.op.operands.toList:=by rw[ho];simp[Op.operands]
  split at h
  ·rename_i hk;obtain⟨v,hv,h⟩:=AF h;refine BX _ h fun B2 fr2 S2 K2 h1 h2 h3 h4 h5=>?_
   unfold opW;simp only[ho,hk,AO (h1 x hx),AO (h1 i hi),hv];exact h5
  ·rename_i n e hk;obtain⟨v,hv,h⟩:=AF h;refine BX _ h fun B2 fr2 S2 K2 h1 h2 h3 h4 h5=>?_
   unfold opW;simp only[ho,hk,AO (h1 x hx),AO (h1 i hi),hv];exact h5
  ·exact h.elim
 ·rename_i t x i ok ho;have hx:x∈o.op.operands.toList:=by rw[ho];simp[Op.operands]
  have hi:i∈o.op.operands.toList:=by rw[ho];simp[Op.operands]
  split at h
  ·rename_i k e hk;split at h
   ·rename_i g hg;obtain⟨v,hv,h⟩:=AF h;have hS:∀S2:St,(Hc C f all o=true→S2=S)→S2=S:=fun S2 hh=>hh (by unfold Hc;rw[ho])
    split at h
    ·refine BX _ h fun B2 fr2 S2 K2 h1 h2 h3 h4 h5=>?_
     cases hS S2 h4;unfold opW;simp only[ho,hk,hg,AO (h1 x hx),AO (h1 i hi),hv];exact h5
    ·refine BX _ h fun B2 fr2 S2 K2 h1 h2 h3 h4 h5=>?_
     cases hS S2 h4;unfold opW;simp only[ho,hk,hg,AO (h1 x hx),AO (h1 i hi),hv];exact h5
   ·exact h.elim
  ·exact h.elim
 ·rename_i t m k x ho;unfold isD at hD;rw[ho] at hD;simp at hD
 ·rename_i t i ho;have hx:(Operand.tmp t)∈o.op.operands.toList:=by rw[ho];simp[Op.operands]
  obtain⟨v,hv,h⟩:=AF h;refine⟨[(t,AQ (fr.v t) i)]++Jp o.dst v,[],fun p hp=>?_,fun d e=>by rw[e];simp[Jp],by simp,?_,fun B2 fr2 S2 K2 h1 h2 h3 h4 h5=>?_⟩
  ·rcases List.mem_append.1 hp with hp|hp
   ·simp only[List.mem_singleton] at hp;subst hp;unfold Al;rw[ho];simp[BL]
   ·unfold Jp at hp;split at hp
    ·rename_i d e;simp only[List.mem_singleton] at hp;subst hp;simp[Al,e]
    ·simp at hp
  ·cases hd:o.dst<;>rw[hd] at h<;>exact h
  ·have:=h1 _ hx t (by simp[BL])
   unfold opW;simp only[ho,this,hv];cases hd:o.dst<;>rw[hd] at h5<;>exact h5
 ·rename_i c ho;obtain⟨L,LB,q1,qd,q2,q3,q4⟩:=W3 (B:=B) (all:=all) ho hD h;refine⟨L,LB,q1,qd,q2,q3,fun B2 fr2 S2 K2 h1 h2 h3 h4 h5=>?_⟩
  unfold opW;simp only[ho];exact q4 B2 fr2 S2 K2 h1 h2 h3 h4 h5
 ·exact h.elim
end
end Go.Av
