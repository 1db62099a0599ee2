/- Parts of the proofs of this seat: abstract values over the model, and what the functions of the program do. No condition. -/
import Derived.Test.YtgilicomkelmdaaGreatDoorM9
import Derived.Test.YtgilicomkelmdaaGreatDoorM10
import Derived.Test.YtgilicomkelmdaaGreatDoorD0
import Derived.Test.YtgilicomkelmdaaGreatDoorM22
import Derived.Test.YtgilicomkelmdaaGreatDoorM12
import Derived.Test.YtgilicomkelmdaaGreatDoorX03
import Derived.Test.YtgilicomkelmdaaGreatDoorY03a
import Derived.Shelf.Lay
import Derived.Shelf.LaySoft
import Derived.Shelf.Strings.Builder1
import Derived.Shelf.Strings.Repeat
set_option linter.all false
set_option maxRecDepth 100000
namespace Go.Proofs
open Go.Shelf Go.Av
shelf_lay Lays.n105 Nm 105 at Tryz as Tryz.lays105
theorem Tryz.Builder_Extra_105:Builder.Extra Tryz.prog Tryz.lays105_ren where
 sizeBuilder:=by kernel_rfl
 liesBuilder:=by kernel_rfl
 t5:=iI
 a5:=jF
 z5:=iQ
 v5:=jC
 infoByte:=by kernel_rfl
 cellsByte:=by kernel_rfl
 sizeByte:=by kernel_rfl
 neB5:=by decide
theorem Tryz.lays240:Lays.n240 Tryz.prog Tryz.lays105_ren:=let L:=Tryz.lays105;{L with}
theorem Tryz.lays169:Lays.n169 Tryz.prog Tryz.lays105_ren:=let L:=Tryz.lays105;{L with}
end Go.Proofs
namespace Go.Av
open Go.Proofs Go.Shelf
def Bld(S:St)(id:Nat)(l:Str):Prop:=
 ∃c r,S[id]? =some (.cells [c,.vs 1 (byteCells l) r] CP)∧(c= .nil∨c= .ptr id 0)∧(r= .nil∧l=[]∨r= .own Tp∧l≠[])
theorem ZO{w0:World}{S:St}{id:Nat}{c buf:AV}(hS:S[id]? =some (.cells [c,buf] CP))(hc:c= .nil∨c= .ptr id 0){Q:AV→St→Prop}(hq:∀r,Q r (S.set id (.cells [.ptr id 0,buf] CP))):
  AC w0 FC [.ptr id 0] S Q:=
 ZC (Zj (E:=En w0) Tryz.lays240 Tryz.Builder_Extra_105.toX72 (by decide) hS hc) (by rintro r S' rfl;exact hq r)
theorem Z3{w0:World}{S:St}{l:List UInt8}{c:Nat}(hc:c≤9223372036854775807)(hl:l.length*c≤140737488355328){Q:AV→St→Prop}(hq:Q (.str (Lib.repeatL l c)) S):
  AC w0 HL [.str l,.int .i64 c] S Q:=by
 refine AO.of_below Px (by kernel_rfl) (by kernel_rfl) fun G w args' hl' ha=>?_
 obtain⟨v,u,rfl⟩:∃v u,args'=#[v,u]:=by
  match args',hl' with
  |⟨[v,u]⟩,_=>exact⟨v,u,rfl⟩
 have h0:=ha 0 _ v rfl rfl;have h1:=ha 1 _ u rfl rfl;cases h0;cases h1;refine(Any.strings_Repeat Tryz.lays105 Tryz.Builder_Extra_105 ⟨l.toArray⟩ c w hc (by simpa[ByteArray.size] using hl)).mono ?_
 rintro e w' ⟨rfl,hb⟩;exact⟨_,_,rfl,hb,.str _,rfl,hq⟩
theorem repeatL_one(x:UInt8)(n:Nat):Lib.repeatL [x] n=List.replicate n x:=by
 induction n with
 |zero=>rfl
 |succ n ih=>simp[Lib.repeatL,ih,List.replicate_succ]
theorem KH{w0:World}{S:St}{id:Nat}{l:Str}(h:Bld S id l){Q:AV→St→Prop}(hq:Q (.int .i64 (l.length:Int)) S):AC w0 Cu [.ptr id 0] S Q:=by
 obtain⟨c,r,h,hc,hr⟩:=h;apply Ly;unfold G4;simpa[Aa h,byteCells] using hq
theorem E2{w0:World}{S:St}{id:Nat}{l s:Str}(h:Bld S id l)(hl:l.length+s.length≤lim){Q:AV→St→Prop}
  (hq:∀r S',S'.length=S.length→(∀j,j≠id→S'[j]? =S[j]?)→Bld S' id (l++s)→Q r S'):AC w0 Bx [.ptr id 0,.str s] S Q:=by
 obtain⟨c,r,h,hc,hr⟩:=h;apply HT;unfold EZ;refine ZO h hc fun _=>?_
 have e1:=Ai (o':=.cells [.ptr id 0,.vs 1 (byteCells l) r] CP) h;have e2:=Ai (o':=.cells [.ptr id 0,.vs 1 (byteCells l) r.strip] CP) e1;simp[Aa e1,DF e1]
 by_cases hs:s=[]
 ·subst hs;simp[AU,A1];rw[Am (Ai h)];simp;refine hq _ _ (by simp) (fun j hj=>Au (Ne.symm hj)) ⟨_,r,by rw[Ai h];simp,.inr rfl,by simpa using hr⟩
 ·have hra:(r≠ .none∧(r= .nil∨True))∧Ba L1 r=Tp:=by
   rcases hr with ⟨rfl,_⟩|⟨rfl,_⟩<;>simp[Ba]
  have hlen:(byteCells l).length+s.length≤lim:=by simpa[byteCells] using hl
  simp[AU,A1,hs,hra.1.1,hlen,hra.2];rw[Am (Ai h)];simp;refine hq _ _ (by simp) (fun j hj=>Au (Ne.symm hj)) ⟨_,.own Tp,?_,.inr rfl,.inr ⟨rfl,by simp[hs]⟩⟩
  rw[Ai h];simp[byteCells]
theorem RL{w0:World}{S:St}{id:Nat}{l:Str}(h:Bld S id l)(h63:l.length≤lim){Q:AV→St→Prop}
  (hq:∀S',S'.length=S.length→(∀j,j≠id→S'[j]? =S[j]?)→Q (.str l) S'):AC w0 Fz [.ptr id 0] S Q:=by
 obtain⟨c,r,h,hc,hr⟩:=h;rcases hr with ⟨rfl,rfl⟩|⟨rfl,h0⟩
 ·refine ZC (ZR (E:=En w0) Tryz.lays169 Tryz.Builder_Extra_105 (by decide) h) ?_
  rintro r S' ⟨rfl,rfl⟩;exact hq _ rfl fun _ _=>rfl
 ·refine ZC (gu (E:=En w0) Tryz.lays169 Tryz.Builder_Extra_105 (by decide) (by decide) h0 (by unfold lim at h63;omega) h) ?_
  rintro r S' ⟨rfl,rfl⟩;exact hq _ (by simp) fun j hj=>Au (Ne.symm hj)
theorem lE(S:St):Bld (S++[.cells CN.zero CP]) S.length []:=⟨.nil,.nil,by simp[byteCells],.inl rfl,.inl ⟨rfl,rfl⟩⟩
open Go.Proofs
theorem We{w0:World}{size:Int}{l:List Ext}{r:Rt}{off n:Int}{S:St}{Q:AV→St→Prop}(hl:∀x∈l,0≤x.off∧x.off+x.data.length≤1048576)(hn:l.length≤1000000000000000)
   (hs:0≤size∧size≤1048576) (hq:∀S',Sx S S'→Q (.str (P0 size l off n)) S'):AC w0 KS [.int .i64 size,.vs 2 (l.map Ext.c) r,.int .i64 off,.int .i64 n] S Q:=by
  apply Ud;unfold OK;simp;refine UM (fun h=>?_) (fun h=>?_)<;>simp at h
  · simpa[P0,show (off < 0∨off≥size∨n < 1) by omega] using hq S (.refl S)
  have hw:IntKind.i64.wrap (size - off)=size - off:=wrap64 (by omega) (by omega)
  simp only[hw];obtain⟨m,hm⟩:∃m,m=if size - off < n then size - off else n:=⟨_,rfl⟩
  rw[←hm];have hm2:1≤m∧m≤size - off∧m≤n:=by split at hm<;>omega
  have hP:P0 size l off n=l.foldl (DK off m) []++List.replicate (m - (l.foldl (DK off m) []).length).toNat 0:=by
    simp only[P0,show ¬(off < 0∨off≥size∨n < 1) by omega,if_false,←hm]
  have hlen:∀i,((l.take i).foldl (DK off m) []).length≤m:=by
    intro i
    induction i with
    |zero=>simp;omega
    | succ i ih =>
      by_cases c:i < l.length
      · rw[Oz _ _ (List.getElem?_eq_getElem c)]
        exact QU ih (hl _ (List.getElem_mem c)).1 (by omega)
      · rw[List.take_of_length_le (by omega)] at ih ⊢;exact ih
  refine A7 (fun j=>∀S',Sx S S'→Bld S' S.length (l.foldl (DK off m) [])→j S') (fun S' hx hB=>?_) (fun j hj=>?_)
  · refine KH hB ?_
    have hl2:=hlen l.length;rw[List.take_length] at hl2;generalize l.foldl (DK off m) []=out at*;obtain⟨k,hk⟩:∃k:Nat,m - out.length=k:=⟨(m - out.length).toNat,by omega⟩
    have:IntKind.i64.wrap (m - out.length)=k:=by rw[wrap64 (by omega) (by omega),hk]
    simp[this];refine Z3 (by omega) (by simp;omega) ?_
    simp[repeatL_one];refine E2 hB (by unfold lim;simp;omega) fun _ S2 h1 h2 h3=>?_
    refine RL h3 (by unfold lim;simp;omega) fun S3 h4 h5=>?_
    rw[hP,hk] at hq;exact hq _ fun j hj=>by rw[h5 j (by omega),h2 j (by omega),hx j hj]
  refine Ak l (fun i (_:Unit)=>([.int .i64 i],[])) (fun i _ S'=>Sx S S'∧Bld S' S.length ((l.take i).foldl (DK off m) [])) () rfl ⟨.app _ _,by simpa using lE S⟩ ?_ ?_
  · rintro i _ S' v b x c hxi hd hc hm ⟨hx,hB⟩ hv
    simp at hv;obtain⟨h1,h2⟩:=hl x hm;have ho:=hlen i;have hf:=Oz (DK off m) [] hxi;generalize (l.take i).foldl (DK off m) []=out at*;simp[hv,hc,hxi];rw[AH]
    try simp (disch:=omega) only[wrap64]
    refine KH hB ?_;simp
    try simp (disch:=omega) only[wrap64]
    obtain⟨f,hf1⟩:∃f,f=Gw off out x:=⟨_,rfl⟩;obtain⟨t,ht1⟩:∃t,t=rTo off m x:=⟨_,rfl⟩;have hf2:=hf1;have ht2:=ht1;simp only[Gw,gt_iff_lt] at hf2;simp only[rTo] at ht2;rw[←hf2,←ht2];have hf3:x.off≤f∧off+out.length≤f:=by rw[hf2];split<;>omega
    have ht3:t≤x.off+x.data.length∧t≤off+m:=by rw[ht2];split<;>omega
    refine UM (fun h=>?_) (fun h=>?_)<;>simp at h
    · refine .next c () rfl ⟨hx,?_⟩
      rw[hf,DK,←hf1,←ht1,if_pos (by omega)]
      exact hB
    try simp (disch:=omega) only[wrap64]
    refine KH hB ?_;obtain⟨k,hk⟩:∃k:Nat,f - off - out.length=k:=⟨(f - off - out.length).toNat,by omega⟩
    have hw2:IntKind.i64.wrap (f - off - out.length)=k:=by rw[wrap64 (by omega) (by omega),hk]
    simp[hw2];refine Z3 (by omega) (by simp;omega) ?_
    simp[repeatL_one];refine E2 hB (by unfold lim;simp;omega) fun _ S2 h1 h2 h3=>?_
    try simp (disch:=omega) only[wrap64]
    rw[PP _ _ _ _ _ (by omega) (by omega) (by omega)]
    simp;refine E2 h3 (by unfold lim;simp;omega) fun _ S3 h4 h5 h6=>?_
    refine .next c () rfl ⟨fun j hj=>by rw[h5 j (by omega),h2 j (by omega),hx j hj],?_⟩
    rw[hf,DK,←hf1,←ht1,if_neg (by omega),hk]
    simpa using h6
  · rintro _ S' v b ⟨hx,hB⟩ hv N
    simp at hv;simp[hv];exact hj S' hx (by simpa using hB)
end Go.Av
