/- Parts of the proofs of this seat: abstract values over the model, and what the functions of the program do. No condition. -/
import Derived.Test.YtgilicomkelmdaaGreatDoorXDelR
import Derived.Test.YtgilicomkelmdaaGreatDoorD0
set_option linter.all false
set_option maxRecDepth 100000
namespace Go.Av
theorem SM{w:World}{b:Nat}{arr:Array Value}{e:TypeId}{fz:Nat×Nat}(h:w.heap[b]? =some (.cells arr e fz)):w.setRow b arr=w:=by
 have hh:(w.setRow b arr).heap=w.heap:=by
  apply Array.ext_getElem?;intro k
  by_cases c:k=b
  ·subst c;rw[setRow_heap w k arr arr e fz h,h]
  ·rw[setRow_other w b k arr c]
 show ({w with heap:=(w.setRow b arr).heap}:World)=w
 rw[hh]
theorem AO.freeze{E:Env}{f:Nat}{pre post:List AV}{S:St}{Q:AV→St→Prop}{id t sz n:Nat}{es:List (List AV)}(hS:S[id]? =some (.cells es.flatten t))(hes:∀e∈es,e.length=sz∧∀x∈e,x.free1=true)(hn:es.length=n)
  (h:AO E f (pre++ .vs sz (es.map (·.map AV.strip1)) .none::post) (S.set id .dead) Q):AO E f (pre++ .rs sz id 0 n::post) S Q:=by
 refine⟨h.1,fun G w hrel hrole args' hl ha=>?_⟩
 have hlen:(pre++AV.vs sz (es.map (·.map AV.strip1)) .none::post).length=(pre++AV.rs sz id 0 n::post).length:=by simp
 have hp:pre.length < args'.size:=by rw[hl];simp
 have hx:(pre++AV.rs sz id 0 n::post)[pre.length]? =some (.rs sz id 0 n):=by simp
 have h0':=(ha pre.length _ _ hx (Array.getElem?_eq_getElem hp)).1;generalize hv:args'[pre.length]=v at h0';cases h0' with
 |rs b _ _ _ cap _ hrho hcap hlenb=>
  obtain⟨b',arr,e,k1,k2,k3,k4,k5⟩:=hrel.obj id _ hS;rw[hrho] at k1;cases k1;obtain⟨fl1,fl2⟩:=GL (ys:=es) (sz:=sz) fun e he=>(hes e he).1
  have hsz:=k4.1;obtain⟨q1,q2⟩:=hrel.freezeRow k2 (arr:=arr) (arr':=arr) (e:=e) k3 rfl (fun k=>if k < n*sz then arr[k]? else none) (fun k v hv=>by
   split at hv
   ·exact hv
   ·cases hv)
  rw[SM k3] at q1 q2;have hr2:∀b2,(∃id,(G.freeze b fun k=>if k < n*sz then arr[k]? else none).role b2= .obj id)∨(∃id j,(G.freeze b fun k=>if k < n*sz then arr[k]? else none).role b2= .ocell id j)∨(G.freeze b fun k=>if k < n*sz then arr[k]? else none).role b2= .ext:=fun b2=>by
   by_cases hb:b2=b
   ·subst hb;right;right;simp[Gh.freeze]
   ·have:(G.freeze b fun k=>if k < n*sz then arr[k]? else none).role b2=G.role b2:=by simp[Gh.freeze,hb]
    rw[this];exact hrole b2
  have hvs:VR (G.freeze b fun k=>if k < n*sz then arr[k]? else none) (.slice (some ⟨b,0,none⟩) n cap) (.vs sz (es.map (·.map AV.strip1)) .none):=by
   have hcell:∀(p:Nat) (e:List AV) (q:Nat) (x:AV),es[p]? =some e→e[q]? =some x→p*sz+q < n*sz∧es.flatten[p*sz+q]? =some x∧p*sz+q < arr.size:=fun p e q x hp hq=>by
    have h1:p < n:=by rw[←hn];exact(List.getElem?_eq_some_iff.1 hp).1
    have h2:=(hes e (List.mem_of_getElem? hp)).1;have h3:=(List.getElem?_eq_some_iff.1 hq).1;have h4:(p+1)*sz≤n*sz:=Nat.mul_le_mul_right _ h1;rw[Nat.add_mul,Nat.one_mul] at h4;refine⟨by omega,(fl2 p e q hp (by omega)).trans hq,?_⟩
    rw[fl1,hn] at hsz;omega
   have hinv:∀(p:Nat) (e':List AV) (q:Nat) (x':AV),(es.map (·.map AV.strip1))[p]? =some e'→e'[q]? =some x'→∃e x,es[p]? =some e∧e[q]? =some x∧x'=x.strip1:=fun p e' q x' hp hq=>by
    rw[List.getElem?_map,Option.map_eq_some_iff] at hp;obtain⟨e,h1,rfl⟩:=hp;rw[List.getElem?_map,Option.map_eq_some_iff] at hq;obtain⟨x,h2,rfl⟩:=hq;exact⟨e,x,h1,h2,rfl⟩
   have:=VR.vs (G:=G.freeze b fun k=>if k < n*sz then arr[k]? else none) b 0 cap sz (es.map (·.map AV.strip1)) .none (fun p q=>(arr[p*sz+q]?).getD undef) (by simp) (by rw[List.length_map,hn];exact hcap) (by simp)
    (fun e' he'=>by
     obtain⟨e,he,rfl⟩:=List.mem_map.1 he';refine⟨by rw[List.length_map];exact(hes e he).1,fun x' hx'=>?_⟩
     obtain⟨x,hx,rfl⟩:=List.mem_map.1 hx';exact AV.cell1_strip1 ((hes e he).2 x hx))
    (fun p e' q x' hp hq=>by
     obtain⟨e,x,hp2,hq2,rfl⟩:=hinv p e' q x' hp hq;obtain⟨h1,h2,h3⟩:=hcell p e q x hp2 hq2;simp only[Gh.freeze,if_true,Nat.zero_add];rw[if_pos h1,Array.getElem?_eq_getElem h3];rfl)
    (fun p e' q x' hp hq=>by
     obtain⟨e,x,hp2,hq2,rfl⟩:=hinv p e' q x' hp hq;obtain⟨h1,h2,h3⟩:=hcell p e q x hp2 hq2;refine VR.mono q2.le ?_;rw[Array.getElem?_eq_getElem h3];exact(k4.2 _ x _ h2 (Array.getElem?_eq_getElem h3)).vr.strip1)
   rw[List.length_map] at this;rw[hn] at this;exact this
  refine(h.2 _ w q1 hr2 args' (by rw[hl,hlen]) (fun i x u hxi hui=>?_)).mono ?_
  ·by_cases ei:i=pre.length
   ·subst ei;simp at hxi;subst hxi;rw[Array.getElem?_eq_getElem hp,hv] at hui;cases hui;exact⟨hvs,rfl,rfl⟩
   ·have hxi':(pre++AV.rs sz id 0 n::post)[i]? =some x:=by
     by_cases c:i < pre.length
     ·rw[List.getElem?_append_left c] at hxi ⊢;exact hxi
     ·rw[List.getElem?_append_right (by omega)] at hxi ⊢
      obtain⟨m,hm⟩:∃m,i - pre.length=m+1:=⟨i - pre.length - 1,by omega⟩
      rw[hm] at hxi ⊢;exact hxi
    obtain⟨g1,g2,g3⟩:=ha i x u hxi' hui;exact⟨g1.mono q2.le,g2,g3⟩
  ·rintro ex w' ⟨v',r,S',G',g1,g2,g3,g4,g5,g6⟩;exact⟨v',r,S',G',g1,g2,g3,g4,(q2.weaken (by rintro κ rfl;simp)).trans g5,g6⟩
def AV.frz1(a:AV)(sz id n:Nat)(v:AV):AV:=
 match a with
 | .rs s i o m=>if s=sz∧i=id∧o=0∧m=n then v else .rs s i o m
 |a=>a
def AV.frz2(a:AV)(sz id n:Nat)(v:AV):AV:=
 match a with
 | .agg cs=>.agg (cs.map fun c=>c.frz1 sz id n v)
 |a=>a.frz1 sz id n v
def AV.frz3(a:AV)(sz id n:Nat)(v:AV):AV:=
 match a with
 | .tup cs=>.tup (cs.map fun c=>c.frz2 sz id n v)
 |a=>a.frz2 sz id n v
section
variable {sz id n:Nat} {v:AV} {G G':Gh}
theorem To{a:AV}(h:∀s i o m,a≠ .rs s i o m):a.frz1 sz id n v=a:=by
 cases a with
 |rs s i o m=>exact absurd rfl (h s i o m)
 |_=>rfl
theorem QC{a:AV}(h:∀cs,a≠ .agg cs):a.frz2 sz id n v=a.frz1 sz id n v:=by
 cases a with
 |agg cs=>exact absurd rfl (h cs)
 |_=>rfl
theorem Pm{a:AV}(h:∀cs,a≠ .tup cs):a.frz3 sz id n v=a.frz2 sz id n v:=by
 cases a with
 |tup cs=>exact absurd rfl (h cs)
 |_=>rfl
theorem Pi(s i o m:Nat):(AV.rs s i o m).frz1 sz id n v=if s=sz∧i=id∧o=0∧m=n then v else .rs s i o m:=rfl
theorem VR.frz1(hl:G.Le G')(hv:∀u,VR G u (.rs sz id 0 n)→VR G' u v){u:Value}{a:AV}(h:VR G u a):VR G' u (a.frz1 sz id n v):=by
 by_cases hr:∃s i o m,a= .rs s i o m
 ·obtain⟨s,i,o,m,rfl⟩:=hr;rw[Pi]
  by_cases c:s=sz∧i=id∧o=0∧m=n
  ·rw[if_pos c];obtain⟨rfl,rfl,rfl,rfl⟩:=c;exact hv u h
  ·rw[if_neg c];exact h.mono hl
 ·rw[To fun s i o m e=>hr ⟨s,i,o,m,e⟩]
  exact h.mono hl
theorem VR.frz2(hl:G.Le G')(hv:∀u,VR G u (.rs sz id 0 n)→VR G' u v){u:Value}{a:AV}(h:VR G u a):VR G' u (a.frz2 sz id n v):=by
 by_cases hr:∃cs,a= .agg cs
 ·obtain⟨cs,rfl⟩:=hr;cases h with
  |agg _ vs hlen hc=>
   refine .agg _ _ (by rw[List.length_map];exact hlen) fun i x w hx hw=>?_
   rw[List.getElem?_map,Option.map_eq_some_iff] at hx;obtain⟨y,hy,rfl⟩:=hx;exact(hc i y w hy hw).frz1 hl hv
 ·rw[QC fun cs e=>hr ⟨cs,e⟩]
  exact h.frz1 hl hv
theorem VR.frz3(hl:G.Le G')(hv:∀u,VR G u (.rs sz id 0 n)→VR G' u v){u:Value}{a:AV}(h:VR G u a):VR G' u (a.frz3 sz id n v):=by
 by_cases hr:∃cs,a= .tup cs
 ·obtain⟨cs,rfl⟩:=hr;cases h with
  |tup _ vs hlen hc=>
   refine .tup _ _ (by rw[List.length_map];exact hlen) fun i x w hx hw=>?_
   rw[List.getElem?_map,Option.map_eq_some_iff] at hx;obtain⟨y,hy,rfl⟩:=hx;exact(hc i y w hy hw).frz2 hl hv
 ·rw[Pm fun cs e=>hr ⟨cs,e⟩]
  exact h.frz2 hl hv
end
section
variable {sz id n:Nat} {v:AV} (hv:∃es,v= .vs sz es .none)
include hv
theorem Tr(a:AV):(a.frz1 sz id n v).own=a.own:=by
 obtain⟨es,rfl⟩:=hv
 by_cases hr:∃s i o m,a= .rs s i o m
 ·obtain⟨s,i,o,m,rfl⟩:=hr;rw[Pi]
  by_cases c:s=sz∧i=id∧o=0∧m=n
  ·rw[if_pos c];rfl
  ·rw[if_neg c]
 ·rw[To fun s i o m e=>hr ⟨s,i,o,m,e⟩]
theorem Z1(a:AV):(a.frz2 sz id n v).own=a.own:=by
 by_cases hr:∃cs,a= .agg cs
 ·obtain⟨cs,rfl⟩:=hr;rfl
 ·rw[QC fun cs e=>hr ⟨cs,e⟩];exact Tr hv a
theorem jd(a:AV):(a.frz3 sz id n v).own=a.own:=by
 by_cases hr:∃cs,a= .tup cs
 ·obtain⟨cs,rfl⟩:=hr;rfl
 ·rw[Pm fun cs e=>hr ⟨cs,e⟩];exact Z1 hv a
theorem jN{a:AV}{cs:List AV}(h:a.frz1 sz id n v= .agg cs):a= .agg cs:=by
 obtain⟨es,rfl⟩:=hv
 by_cases hr:∃s i o m,a= .rs s i o m
 ·obtain⟨s,i,o,m,rfl⟩:=hr;rw[Pi] at h
  by_cases c:s=sz∧i=id∧o=0∧m=n
  ·rw[if_pos c] at h;cases h
  ·rw[if_neg c] at h;cases h
 ·rwa [To fun s i o m e=>hr ⟨s,i,o,m,e⟩] at h
theorem ic{a:AV}{cs:List AV}(h:a.frz1 sz id n v= .tup cs):a= .tup cs:=by
 obtain⟨es,rfl⟩:=hv
 by_cases hr:∃s i o m,a= .rs s i o m
 ·obtain⟨s,i,o,m,rfl⟩:=hr;rw[Pi] at h
  by_cases c:s=sz∧i=id∧o=0∧m=n
  ·rw[if_pos c] at h;cases h
  ·rw[if_neg c] at h;cases h
 ·rwa [To fun s i o m e=>hr ⟨s,i,o,m,e⟩] at h
theorem aK{a:AV}{cs:List AV}(h:a.frz2 sz id n v= .agg cs):∃ds,a= .agg ds∧cs=ds.map (fun c=>c.frz1 sz id n v):=by
 by_cases hr:∃ds,a= .agg ds
 ·obtain⟨ds,rfl⟩:=hr;cases h;exact⟨ds,rfl,rfl⟩
 ·rw[QC fun cs e=>hr ⟨cs,e⟩] at h
  exact absurd ⟨cs,jN hv h⟩ hr
theorem aJ{a:AV}{cs:List AV}(h:a.frz2 sz id n v= .tup cs):a= .tup cs:=by
 by_cases hr:∃ds,a= .agg ds
 ·obtain⟨ds,rfl⟩:=hr;cases h
 ·rw[QC fun cs e=>hr ⟨cs,e⟩] at h
  exact ic hv h
theorem jY{a:AV}{cs:List AV}(h:a.frz3 sz id n v= .agg cs):∃ds,a= .agg ds∧cs=ds.map (fun c=>c.frz1 sz id n v):=by
 by_cases hr:∃ds,a= .tup ds
 ·obtain⟨ds,rfl⟩:=hr;cases h
 ·rw[Pm fun cs e=>hr ⟨cs,e⟩] at h
  exact aK hv h
theorem aj{a:AV}{cs:List AV}(h:a.frz3 sz id n v= .tup cs):∃ds,a= .tup ds∧cs=ds.map (fun c=>c.frz2 sz id n v):=by
 by_cases hr:∃ds,a= .tup ds
 ·obtain⟨ds,rfl⟩:=hr;cases h;exact⟨ds,rfl,rfl⟩
 ·rw[Pm fun cs e=>hr ⟨cs,e⟩] at h
  exact absurd ⟨cs,aJ hv h⟩ hr
omit hv in
theorem jT{a:AV}(h:a.own=true):∃z es r,a= .vs z es r:=by
 cases a with
 |vs z es r=>exact⟨z,es,r,rfl⟩
 |_=>cases h
theorem fB{G G':Gh}{w w':World}{K:Key→Prop}(c:Chg K G w G' w'){κ:Key}{u:Value}{a:AV}(hk:¬K κ)(h:Tail G w κ u a):Tail G' w' κ u (a.frz2 sz id n v):=by
 by_cases ho:a.own=true
 ·obtain⟨z,es,r,rfl⟩:=jT ho;exact h.chg c hk
 ·exact .of_not (by rw[Z1 hv];simpa using ho)
theorem fT{G G':Gh}{w w':World}{K:Key→Prop}(c:Chg K G w G' w'){κ:Key}{u:Value}{a:AV}(hk:¬K κ)(h:Tail G w κ u a):Tail G' w' κ u (a.frz3 sz id n v):=by
 by_cases ho:a.own=true
 ·obtain⟨z,es,r,rfl⟩:=jT ho;exact h.chg c hk
 ·exact .of_not (by rw[jd hv];simpa using ho)
theorem Bs.frz3{G G':Gh}{w w':World}{K:Key→Prop}(c:Chg K G w G' w'){κ:Key}{κc:Nat→Key}(hk:¬K κ)(hkc:∀i,¬K (κc i))(hr:∀u,VR G u (.rs sz id 0 n)→VR G' u v){u:Value}{a:AV}(h:Bs G w κ κc u a):Bs G' w' κ κc u (a.frz3 sz id n v):=by
 refine⟨h.vr.frz3 c.le hr,fT hv c hk h.tail,fun cs e x hx=>?_,fun cs vs e1 e2 i x y hx hy=>?_,fun cs e x hx=>?_⟩
 ·obtain⟨ds,rfl,rfl⟩:=jY hv e;obtain⟨z,hz,rfl⟩:=List.mem_map.1 hx;rw[Tr hv];exact h.agg ds rfl z hz
 ·obtain⟨ds,rfl,rfl⟩:=aj hv e1;rw[List.getElem?_map,Option.map_eq_some_iff] at hx;obtain⟨z,hz,rfl⟩:=hx;exact fB hv c (hkc i) (h.comp ds vs rfl e2 i z y hz hy)
 ·obtain⟨ds,rfl,rfl⟩:=aj hv e;obtain⟨z,hz,rfl⟩:=List.mem_map.1 hx;obtain⟨h1,h2⟩:=h.comp2 ds rfl z hz;refine⟨fun es he q hq=>?_,fun es he=>h2 es (aJ hv he)⟩
  obtain⟨fs,rfl,rfl⟩:=aK hv he;obtain⟨p,hp,rfl⟩:=List.mem_map.1 hq;rw[Tr hv];exact h1 fs rfl p hp
end
theorem Rel.frozen{E:Env}{G:Gh}{w:World}{S:St}(hrel:Rel E G w S){id t sz n:Nat}{es:List (List AV)}(hS:S[id]? =some (.cells es.flatten t))(hes:∀e∈es,e.length=sz∧∀x∈e,x.free1=true)(hn:es.length=n):
  ∃G',Rel E G' w (S.set id .dead)∧Chg (·= .obj id) G w G' w∧(∀u,VR G u (.rs sz id 0 n)→VR G' u (.vs sz (es.map (·.map AV.strip1)) .none))∧∀b,G'.role b=G.role b∨G'.role b= .ext:=by
 obtain⟨b,arr,e,k1,k2,k3,k4,k5⟩:=hrel.obj id _ hS;obtain⟨fl1,fl2⟩:=GL (ys:=es) (sz:=sz) fun e he=>(hes e he).1
 have hsz:=k4.1;obtain⟨q1,q2⟩:=hrel.freezeRow k2 (arr:=arr) (arr':=arr) (e:=e) k3 rfl (fun k=>if k < n*sz then arr[k]? else none) (fun k v hv=>by
  split at hv
  ·exact hv
  ·cases hv)
 rw[SM k3] at q1 q2;refine⟨_,q1,q2,fun u hu=>?_,fun b2=>?_⟩
 ·cases hu with
  |rs b' _ _ _ cap _ hrho hcap hlenb=>
   rw[hrho] at k1;cases k1;have hcell:∀(p:Nat) (e:List AV) (q:Nat) (x:AV),es[p]? =some e→e[q]? =some x→p*sz+q < n*sz∧es.flatten[p*sz+q]? =some x∧p*sz+q < arr.size:=fun p e q x hp hq=>by
    have h1:p < n:=by rw[←hn];exact(List.getElem?_eq_some_iff.1 hp).1
    have h2:=(hes e (List.mem_of_getElem? hp)).1;have h3:=(List.getElem?_eq_some_iff.1 hq).1;have h4:(p+1)*sz≤n*sz:=Nat.mul_le_mul_right _ h1;rw[Nat.add_mul,Nat.one_mul] at h4;refine⟨by omega,(fl2 p e q hp (by omega)).trans hq,?_⟩
    rw[fl1,hn] at hsz;omega
   have hinv:∀(p:Nat) (e':List AV) (q:Nat) (x':AV),(es.map (·.map AV.strip1))[p]? =some e'→e'[q]? =some x'→∃e x,es[p]? =some e∧e[q]? =some x∧x'=x.strip1:=fun p e' q x' hp hq=>by
    rw[List.getElem?_map,Option.map_eq_some_iff] at hp;obtain⟨e,h1,rfl⟩:=hp;rw[List.getElem?_map,Option.map_eq_some_iff] at hq;obtain⟨x,h2,rfl⟩:=hq;exact⟨e,x,h1,h2,rfl⟩
   have:=VR.vs (G:=G.freeze b fun k=>if k < n*sz then arr[k]? else none) b 0 cap sz (es.map (·.map AV.strip1)) .none (fun p q=>(arr[p*sz+q]?).getD undef) (by simp) (by rw[List.length_map,hn];exact hcap) (by simp)
    (fun e' he'=>by
     obtain⟨e,he,rfl⟩:=List.mem_map.1 he';refine⟨by rw[List.length_map];exact(hes e he).1,fun x' hx'=>?_⟩
     obtain⟨x,hx,rfl⟩:=List.mem_map.1 hx';exact AV.cell1_strip1 ((hes e he).2 x hx))
    (fun p e' q x' hp hq=>by
     obtain⟨e,x,hp2,hq2,rfl⟩:=hinv p e' q x' hp hq;obtain⟨h1,h2,h3⟩:=hcell p e q x hp2 hq2;simp only[Gh.freeze,if_true,Nat.zero_add];rw[if_pos h1,Array.getElem?_eq_getElem h3];rfl)
    (fun p e' q x' hp hq=>by
     obtain⟨e,x,hp2,hq2,rfl⟩:=hinv p e' q x' hp hq;obtain⟨h1,h2,h3⟩:=hcell p e q x hp2 hq2;refine VR.mono q2.le ?_;rw[Array.getElem?_eq_getElem h3];exact(k4.2 _ x _ h2 (Array.getElem?_eq_getElem h3)).vr.strip1)
   rw[List.length_map,hn] at this;exact this
 ·by_cases hb:b2=b
  ·subst hb;right;simp[Gh.freeze]
  ·left;simp[Gh.freeze,hb]
theorem AO.freezeR{E:Env}{f:Nat}{args:List AV}{S:St}{Q:AV→St→Prop}
  (h:AO E f args S fun r S'=>Q r S'∨∃(id t sz n:Nat) (es:List (List AV)),S'[id]? =some (.cells es.flatten t)∧(∀e∈es,e.length=sz∧∀x∈e,x.free1=true)∧es.length=n∧Q (r.frz3 sz id n (.vs sz (es.map (·.map AV.strip1)) .none)) (S'.set id .dead)):AO E f args S Q:=by
 refine⟨h.1,fun G w hrel hrole args' hl ha=>(h.2 G w hrel hrole args' hl ha).mono ?_⟩
 rintro ex w' ⟨v,r,S',G',h1,h2,h3,h4,h5,h6⟩;rcases h2 with h2|⟨id,t,sz,n,es,e1,e2,e3,h2⟩
 ·exact⟨v,r,S',G',h1,h2,h3,h4,h5,h6⟩
 ·obtain⟨G2,q1,q2,q3,q4⟩:=h3.frozen e1 e2 e3;refine⟨v,_,_,G2,h1,h2,q1,h4.frz3 ⟨_,rfl⟩ q2 (by simp) (by simp) q3,h5.trans (q2.weaken (by rintro κ rfl;simp)),fun b=>?_⟩
  rcases q4 b with e|e
  ·rw[e];exact h6 b
  ·exact .inr (.inr (.inl e))
end Go.Av
