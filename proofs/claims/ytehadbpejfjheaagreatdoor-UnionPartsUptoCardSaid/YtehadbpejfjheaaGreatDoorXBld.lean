/- Parts of the proofs of this seat: abstract values over the model, and what the functions of the program do. No condition. -/
import Derived.Test.YtehadbpejfjheaaGreatDoorM8
import Derived.Test.YtehadbpejfjheaaGreatDoorD0
import Derived.Test.YtehadbpejfjheaaGreatDoorM20
import Derived.Test.YtehadbpejfjheaaGreatDoorM11
import Derived.Test.YtehadbpejfjheaaGreatDoorX03
import Derived.Test.YtehadbpejfjheaaGreatDoorY03a
import Derived.Shelf.Lay
import Derived.Shelf.LaySoft
import Derived.Shelf.Strings.Builder1
import Derived.Shelf.Strings.Repeat
set_option linter.all false
set_option maxRecDepth 100000
namespace Go.Proofs
open Go.Shelf Go.Av
shelf_lay Lays.n105 Nm 105 at Tryz as Tryz.lays105
theorem Tryz.Builder_Extra_105:Builder.Extra Tryz.prog Tryz.lays105_ren where
 sizeBuilder:=by kernel_rfl
 liesBuilder:=by kernel_rfl
 t5:=Yt
 a5:=YQ
 z5:=Ya
 v5:=Yl
 infoByte:=by kernel_rfl
 cellsByte:=by kernel_rfl
 sizeByte:=by kernel_rfl
 neB5:=by decide
theorem Tryz.lays240:Lays.n240 Tryz.prog Tryz.lays105_ren:=let L:=Tryz.lays105;{L with}
theorem Tryz.lays169:Lays.n169 Tryz.prog Tryz.lays105_ren:=let L:=Tryz.lays105;{L with}
end Go.Proofs
namespace Go.Av
open Go.Proofs Go.Shelf
def Bld(S:St)(id:Nat)(l:Str):Prop:=
 ∃c r,S[id]? =some (.cells [c,.vs 1 (byteCells l) r] CQ)∧(c= .nil∨c= .ptr id 0)∧(r= .nil∧l=[]∨r= .own O8∧l≠[])
theorem S9{w0:World}{S:St}{id:Nat}{c buf:AV}(hS:S[id]? =some (.cells [c,buf] CQ))(hc:c= .nil∨c= .ptr id 0){Q:AV→St→Prop}(hq:∀r,Q r (S.set id (.cells [.ptr id 0,buf] CQ))):
  AC w0 EJ [.ptr id 0] S Q:=
 SE (UI (E:=En w0) Tryz.lays240 Tryz.Builder_Extra_105.toX72 (by decide) hS hc) (by rintro r S' rfl;exact hq r)
theorem Ue{w0:World}{S:St}{l:List UInt8}{c:Nat}(hc:c≤9223372036854775807)(hl:l.length*c≤140737488355328){Q:AV→St→Prop}(hq:Q (.str (Lib.repeatL l c)) S):
  AC w0 GH [.str l,.int .i64 c] S Q:=by
 refine AN.of_below Mj (by kernel_rfl) (by kernel_rfl) fun G w args' hl' ha=>?_
 obtain⟨v,u,rfl⟩:∃v u,args'=#[v,u]:=by
  match args',hl' with
  |⟨[v,u]⟩,_=>exact⟨v,u,rfl⟩
 have h0:=ha 0 _ v rfl rfl;have h1:=ha 1 _ u rfl rfl;cases h0;cases h1;refine(Any.strings_Repeat Tryz.lays105 Tryz.Builder_Extra_105 ⟨l.toArray⟩ c w hc (by simpa[ByteArray.size] using hl)).mono ?_
 rintro e w' ⟨rfl,hb⟩;exact⟨_,_,rfl,hb,.str _,rfl,hq⟩
theorem repeatL_one(x:UInt8)(n:Nat):Lib.repeatL [x] n=List.replicate n x:=by
 induction n with
 |zero=>rfl
 |succ n ih=>simp[Lib.repeatL,ih,List.replicate_succ]
theorem Bld.lt{S:St}{id:Nat}{l:Str}(h:Bld S id l):id < S.length:=by
 obtain⟨c,r,h,_⟩:=h;exact(List.getElem?_eq_some_iff.1 h).1
theorem IR{w0:World}{S:St}{id:Nat}{l:Str}(h:Bld S id l){Q:AV→St→Prop}(hq:Q (.int .i64 (l.length:Int)) S):AC w0 Ch [.ptr id 0] S Q:=by
 obtain⟨c,r,h,hc,hr⟩:=h;apply JL;unfold Fz;simpa[CA h,byteCells] using hq
theorem EG{w0:World}{S:St}{id:Nat}{l s:Str}(h:Bld S id l)(hl:l.length+s.length≤lim){Q:AV→St→Prop}
  (hq:∀r S',S'.length=S.length→(∀j,j≠id→S'[j]? =S[j]?)→Bld S' id (l++s)→Q r S'):AC w0 Bu [.ptr id 0,.str s] S Q:=by
 obtain⟨c,r,h,hc,hr⟩:=h;apply GB;unfold Dz;refine S9 h hc fun _=>?_
 have e1:=A9 (o':=.cells [.ptr id 0,.vs 1 (byteCells l) r] CQ) h;have e2:=A9 (o':=.cells [.ptr id 0,.vs 1 (byteCells l) r.strip] CQ) e1;simp[CA e1,Fg e1]
 by_cases hs:s=[]
 ·subst hs;simp[BN,CH];rw[CF (A9 h)];simp;refine hq _ _ (by simp) (fun j hj=>Cc (Ne.symm hj)) ⟨_,r,by rw[A9 h];simp,.inr rfl,by simpa using hr⟩
 ·have hra:(r≠ .none∧(r= .nil∨True))∧FB IB r=O8:=by
   rcases hr with ⟨rfl,_⟩|⟨rfl,_⟩<;>simp[FB]
  have hlen:(byteCells l).length+s.length≤lim:=by simpa[byteCells] using hl
  simp[BN,CH,hs,hra.1.1,hlen,hra.2];rw[CF (A9 h)];simp;refine hq _ _ (by simp) (fun j hj=>Cc (Ne.symm hj)) ⟨_,.own O8,?_,.inr rfl,.inr ⟨rfl,by simp[hs]⟩⟩
  rw[A9 h];simp[byteCells]
theorem N4{w0:World}{S:St}{id:Nat}{l:Str}(h:Bld S id l)(h63:l.length≤lim){Q:AV→St→Prop}
  (hq:∀S',S'.length=S.length→(∀j,j≠id→S'[j]? =S[j]?)→Q (.str l) S'):AC w0 Es [.ptr id 0] S Q:=by
 obtain⟨c,r,h,hc,hr⟩:=h;rcases hr with ⟨rfl,rfl⟩|⟨rfl,h0⟩
 ·refine SE (SU (E:=En w0) Tryz.lays169 Tryz.Builder_Extra_105 (by decide) h) ?_
  rintro r S' ⟨rfl,rfl⟩;exact hq _ rfl fun _ _=>rfl
 ·refine SE (Yi (E:=En w0) Tryz.lays169 Tryz.Builder_Extra_105 (by decide) (by decide) h0 (by unfold lim at h63;omega) h) ?_
  rintro r S' ⟨rfl,rfl⟩;exact hq _ (by simp) fun j hj=>Cc (Ne.symm hj)
theorem Z9(S:St):Bld (S++[.cells CS.zero CQ]) S.length []:=⟨.nil,.nil,by simp[byteCells],.inl rfl,.inl ⟨rfl,rfl⟩⟩
open Go.Proofs
theorem Qy{w0:World}{size:Int}{l:List Ext}{r:Rt}{off n:Int}{S:St}{Q:AV→St→Prop}(hl:∀x∈l,0≤x.off∧x.off+x.data.length≤1048576)(hn:l.length≤1000000000000000)
   (hs:0≤size∧size≤1048576) (hq:∀S',Sx S S'→Q (.str (P6 size l off n)) S'):AC w0 IU [.int .i64 size,.vs 2 (l.map Ext.c) r,.int .i64 off,.int .i64 n] S Q:=by
  apply PT;unfold LR;simp;refine Un (fun h=>?_) (fun h=>?_)<;>simp at h
  · simpa[P6,show (off < 0∨off≥size∨n < 1) by omega] using hq S (.refl S)
  have hw:IntKind.i64.wrap (size - off)=size - off:=wrap64 (by omega) (by omega)
  simp only[hw];obtain⟨m,hm⟩:∃m,m=if size - off < n then size - off else n:=⟨_,rfl⟩
  rw[←hm];have hm2:1≤m∧m≤size - off∧m≤n:=by split at hm<;>omega
  have hP:P6 size l off n=l.foldl (Ds off m) []++List.replicate (m - (l.foldl (Ds off m) []).length).toNat 0:=by
    simp only[P6,show ¬(off < 0∨off≥size∨n < 1) by omega,if_false,←hm]
  have hlen:∀i,((l.take i).foldl (Ds off m) []).length≤m:=by
    intro i
    induction i with
    |zero=>simp;omega
    | succ i ih =>
      by_cases c:i < l.length
      · rw[Pm _ _ (List.getElem?_eq_getElem c)]
        exact ST ih (hl _ (List.getElem_mem c)).1 (by omega)
      · rw[List.take_of_length_le (by omega)] at ih ⊢;exact ih
  refine ED (fun j=>∀S',Sx S S'→Bld S' S.length (l.foldl (Ds off m) [])→j S') (fun S' hx hB=>?_) (fun j hj=>?_)
  · refine IR hB ?_
    have hl2:=hlen l.length;rw[List.take_length] at hl2;generalize l.foldl (Ds off m) []=out at*;obtain⟨k,hk⟩:∃k:Nat,m - out.length=k:=⟨(m - out.length).toNat,by omega⟩
    have:IntKind.i64.wrap (m - out.length)=k:=by rw[wrap64 (by omega) (by omega),hk]
    simp[this];refine Ue (by omega) (by simp;omega) ?_
    simp[repeatL_one];refine EG hB (by unfold lim;simp;omega) fun _ S2 h1 h2 h3=>?_
    refine N4 h3 (by unfold lim;simp;omega) fun S3 h4 h5=>?_
    rw[hP,hk] at hq;exact hq _ fun j hj=>by rw[h5 j (by omega),h2 j (by omega),hx j hj]
  refine B6 l (fun i (_:Unit)=>([.int .i64 i],[])) (fun i _ S'=>Sx S S'∧Bld S' S.length ((l.take i).foldl (Ds off m) [])) () rfl ⟨.app _ _,by simpa using Z9 S⟩ ?_ ?_
  · rintro i _ S' v b x c hxi hd hc hm ⟨hx,hB⟩ hv
    simp at hv;obtain⟨h1,h2⟩:=hl x hm;have ho:=hlen i;have hf:=Pm (Ds off m) [] hxi;generalize (l.take i).foldl (Ds off m) []=out at*;simp[hv,hc,hxi];rw[AG]
    try simp (disch:=omega) only[wrap64]
    refine IR hB ?_;simp
    try simp (disch:=omega) only[wrap64]
    obtain⟨f,hf1⟩:∃f,f=Og off out x:=⟨_,rfl⟩;obtain⟨t,ht1⟩:∃t,t=rTo off m x:=⟨_,rfl⟩;have hf2:=hf1;have ht2:=ht1;simp only[Og,gt_iff_lt] at hf2;simp only[rTo] at ht2;rw[←hf2,←ht2];have hf3:x.off≤f∧off+out.length≤f:=by rw[hf2];split<;>omega
    have ht3:t≤x.off+x.data.length∧t≤off+m:=by rw[ht2];split<;>omega
    refine Un (fun h=>?_) (fun h=>?_)<;>simp at h
    · refine .next c () rfl ⟨hx,?_⟩
      rw[hf,Ds,←hf1,←ht1,if_pos (by omega)]
      exact hB
    try simp (disch:=omega) only[wrap64]
    refine IR hB ?_;obtain⟨k,hk⟩:∃k:Nat,f - off - out.length=k:=⟨(f - off - out.length).toNat,by omega⟩
    have hw2:IntKind.i64.wrap (f - off - out.length)=k:=by rw[wrap64 (by omega) (by omega),hk]
    simp[hw2];refine Ue (by omega) (by simp;omega) ?_
    simp[repeatL_one];refine EG hB (by unfold lim;simp;omega) fun _ S2 h1 h2 h3=>?_
    try simp (disch:=omega) only[wrap64]
    rw[VI _ _ _ _ _ (by omega) (by omega) (by omega)]
    simp;refine EG h3 (by unfold lim;simp;omega) fun _ S3 h4 h5 h6=>?_
    refine .next c () rfl ⟨fun j hj=>by rw[h5 j (by omega),h2 j (by omega),hx j hj],?_⟩
    rw[hf,Ds,←hf1,←ht1,if_neg (by omega),hk]
    simpa using h6
  · rintro _ S' v b ⟨hx,hB⟩ hv N
    simp at hv;simp[hv];exact hj S' hx (by simpa using hB)
end Go.Av
