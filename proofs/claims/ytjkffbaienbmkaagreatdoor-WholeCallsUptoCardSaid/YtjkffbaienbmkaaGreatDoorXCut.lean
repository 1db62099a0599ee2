/- Parts of the proofs of this seat: abstract values over the model, and what the functions of the program do. No condition. -/
import Derived.Test.YtjkffbaienbmkaaGreatDoorXSplit
import Derived.Test.YtjkffbaienbmkaaGreatDoorM14
import Derived.Test.YtjkffbaienbmkaaGreatDoorY19
import Derived.Test.YtjkffbaienbmkaaGreatDoorA39b
import Derived.Test.YtjkffbaienbmkaaGreatDoorY19c
import Derived.Shelf.Strings.Cut
import Derived.Shelf.Strings.Search3
import Derived.Shelf.Small.Strs
set_option linter.all false
set_option maxRecDepth 100000
namespace Go.Proofs
open Go.Shelf Go.Av
shelf_lay Lays.n145 Nm 145 at Tryz as Tryz.lays145
shelf_lay Lays.n144 Nm 144 at Tryz as Tryz.lays144
shelf_lay Lays.n137 Nm 137 at Tryz as Tryz.lays137
shelf_lay Lays.n143 Nm 143 at Tryz as Tryz.lays143
end Go.Proofs
namespace Go.Av
open Go.Proofs Go.Shelf Go.RowKit
theorem index_cons(x c:UInt8)(l:Str):Lib.index (x::l) [c]=if x=c then 0 else if Lib.index l [c]== -1 then -1 else Lib.index l [c]+1:=by
 by_cases hc:x=c
 ·subst hc;simp[Lib.index,List.isPrefixOf]
 ·have hp:([c]:List UInt8).isPrefixOf (x::l)=false:=by
   simp[List.isPrefixOf];exact fun h=>hc h.symm
  conv=>lhs;unfold Lib.index
  rw[hp,if_neg hc];rfl
theorem cutB_index:∀s:Str,match cutB s with|some p=>Lib.index s [32]=(p.1.length:Int)∧s=p.1++32::p.2|none=>Lib.index s [32]= -1
 |[]=>by simp[cutB,Lib.index]
 |x::s=>by
  have ih:=cutB_index s;rw[cutB,index_cons]
  by_cases e:x=32
  ·subst e;simp
  ·rw[if_neg e,if_neg e];cases hc:cutB s with
   |none=>
    rw[hc] at ih;simp only at ih;simp[ih]
   |some p=>
    rw[hc] at ih;obtain⟨h1,h2⟩:=ih;have:¬(Lib.index s [32]== -1)=true:=by rw[h1];simp
    rw[if_neg this];simp only[Option.map_some,List.length_cons,List.cons_append,h1];exact⟨by omega,by rw[←h2]⟩
theorem cut_eq(s:Str):Lib.cut s [32]=match cutB s with|some p=>(p.1,p.2,true)|none=>(s,[],false):=by
 have h:=cutB_index s;unfold Lib.cut;cases hc:cutB s with
 |none=>
  rw[hc] at h;simp only at h;rw[h];rfl
 |some p=>
  rw[hc] at h;obtain⟨h1,h2⟩:=h;rw[h1,if_pos (by omega)]
  have e:((p.1.length:Int)).toNat=p.1.length:=by simp
  rw[e]
  conv=>lhs;rw[h2]
  simp
theorem mem_index(c:UInt8):∀s:Str,decide (0≤Lib.indexByte s c)=decide (c∈s)
 |[]=>by simp[Lib.indexByte]
 |x::s=>by
  have ih:=mem_index c s;rw[Lib.indexByte]
  by_cases e:x=c
  ·subst e;simp
  ·have hb:(x==c)=false:=by simpa using e
   have hc:¬c=x:=fun h=>e h.symm
   rw[hb];simp only[Bool.false_eq_true,if_false,List.mem_cons,hc,false_or];have hg:=Lib.indexByte_ge s c
   by_cases h:Lib.indexByte s c= -1
   ·rw[h] at ih ⊢;simpa using ih
   ·rw[if_neg (by simpa using h)]
    have:(0≤Lib.indexByte s c+1)=(0≤Lib.indexByte s c):=propext (by omega)
    rw[decide_eq_decide] at ih ⊢;rw[this];exact ih
set_option maxRecDepth 100000 in
theorem Cut_A{w0:World}{S:St}{s:Str}(hm:KI w0)(hs:s.length < 4294967281){Q:AV→St→Prop}
  (hq:Q (match cutB s with|some p=>.tup [.str p.1,.str p.2,.bool true]|none=>.tup [.str s,.str [],.bool false]) S):AC w0 F_strings_Cut [.str s,.str [32]] S Q:=by
 refine AP.of_below_tup fn_strings_Cut (by kernel_rfl) (by kernel_rfl) fun G w args' hr hl' ha=>?_
 obtain⟨v,u,rfl⟩:∃v u,args'=#[v,u]:=by
  match args',hl' with
  |⟨[v,u]⟩,_=>exact⟨v,u,rfl⟩
 have h0':=ha 0 _ v rfl rfl;have h1':=ha 1 _ u rfl rfl;cases h0';cases h1';obtain⟨m,hm⟩:=hm;refine(Any.strings_Cut Tryz.lays145 ⟨s.toArray⟩ ⟨#[32]⟩ m w (by simpa[ByteArray.size] using hs) (m3 hr hm)).mono ?_
 rintro e w' ⟨rfl,n,rfl⟩;have hce:Lib.cut (⟨s.toArray⟩:ByteArray).data.toList (⟨#[32]⟩:ByteArray).data.toList=match cutB s with|some p=>(p.1,p.2,true)|none=>(s,[],false):=cut_eq s
 rw[hce];have hb:Below w.heap.size w (w.drewN n):=⟨rfl,rfl,rfl,Nat.le_refl _,fun _ _=>rfl⟩
 cases hc:cutB s with
 |none=>
  rw[hc] at hq;refine⟨_,[.str s,.str [],.bool false],rfl,hb,.tup _ _ rfl ?_,by simp[AV.cell1,AV.free1,AV.own],hq⟩
  intro i x v hx hv
  match i,hx,hv with
  |0,hx,hv=>cases hx;cases hv;exact .str s
  |1,hx,hv=>cases hx;cases hv;exact .str []
  |2,hx,hv=>cases hx;cases hv;exact .bool false
 |some p=>
  rw[hc] at hq;refine⟨_,[.str p.1,.str p.2,.bool true],rfl,hb,.tup _ _ rfl ?_,by simp[AV.cell1,AV.free1,AV.own],hq⟩
  intro i x v hx hv
  match i,hx,hv with
  |0,hx,hv=>cases hx;cases hv;exact .str p.1
  |1,hx,hv=>cases hx;cases hv;exact .str p.2
  |2,hx,hv=>cases hx;cases hv;exact .bool true
theorem Contains_A{w0:World}{S:St}{s:Str}{c:UInt8}{Q:AV→St→Prop}(hq:Q (.bool (decide (c∈s))) S):AC w0 F_strings_Contains [.str s,.str [c]] S Q:=by
 refine AP.of_below fn_strings_Contains (by kernel_rfl) (by kernel_rfl) fun G w args' hl' ha=>?_
 obtain⟨v,u,rfl⟩:∃v u,args'=#[v,u]:=by
  match args',hl' with
  |⟨[v,u]⟩,_=>exact⟨v,u,rfl⟩
 have h0':=ha 0 _ v rfl rfl;have h1':=ha 1 _ u rfl rfl;cases h0';cases h1';refine(Any.strings_Contains_one Tryz.lays144 ⟨s.toArray⟩ c w).mono ?_;rintro e w' ⟨rfl,rfl⟩;have he:decide (0≤Lib.indexByte (⟨s.toArray⟩:ByteArray).data.toList c)=decide (c∈s):=mem_index c s;rw[he];exact⟨_,.bool (decide (c∈s)),rfl,Below.refl _ _,.bool _,rfl,hq⟩
theorem IndexByte_A{w0:World}{S:St}{s:Str}{c:UInt8}{Q:AV→St→Prop}(hq:Q (.int .i64 (Lib.indexByte s c)) S):AC w0 F_strings_IndexByte [.str s,.int .u8 c.toNat] S Q:=by
 refine AP.of_below fn_strings_IndexByte (by kernel_rfl) (by kernel_rfl) fun G w args' hl' ha=>?_
 obtain⟨v,u,rfl⟩:∃v u,args'=#[v,u]:=by
  match args',hl' with
  |⟨[v,u]⟩,_=>exact⟨v,u,rfl⟩
 have h0':=ha 0 _ v rfl rfl;have h1':=ha 1 _ u rfl rfl;cases h0';cases h1';refine(Any.strings_IndexByte Tryz.lays137 ⟨s.toArray⟩ (c.toNat:Int) w).mono ?_;rintro e w' ⟨rfl,rfl⟩;have hc:(c.toNat:Int).toNat.toUInt8=c:=by simp
 have he:Lib.indexByte (⟨s.toArray⟩:ByteArray).data.toList (c.toNat:Int).toNat.toUInt8=Lib.indexByte s c:=by rw[hc]
 rw[he];exact⟨_,.int .i64 (Lib.indexByte s c),rfl,Below.refl _ _,.int _ _,rfl,hq⟩
end Go.Av
set_option maxRecDepth 100000
namespace Go.Proofs
open Go.Shelf Go.Av
shelf_lay Lays.n147 Nm 147 at Tryz as Tryz.lays147
end Go.Proofs
namespace Go.Av
open Go.Proofs Go.Shelf Go.RowKit
theorem splitK_cut:∀(k:Nat) (s:Str),Lib.splitK [32] 0 k s=cutN k s
 |0,s=>rfl
 |k+1,s=>by
  have h:=cutB_index s;rw[Lib.splitK,cutN];cases hc:cutB s with
  |none=>
   rw[hc] at h;simp only at h;rw[h];rfl
  |some p=>
   rw[hc] at h;obtain⟨h1,h2⟩:=h;have e:¬(Lib.index s [32]== -1)=true:=by rw[h1];simp
   rw[if_neg e,h1];have e2:((p.1.length:Int)).toNat=p.1.length:=by simp
   rw[e2];have e3:s.take (p.1.length+0)=p.1:=by conv=>lhs;rw[h2];simp
   have e4:s.drop (p.1.length+[(32:UInt8)].length)=p.2:=by
    conv=>lhs;rw[h2]
    simp
   rw[e3,e4,splitK_cut k p.2]
set_option maxRecDepth 100000 in
theorem SplitN_A{w0:World}{S:St}{s:Str}{n:Nat}(hm:KI w0)(hs:s.length < 4294967281)(hn:1≤n)(hn2:n≤1000000){Q:AV→St→Prop}(hq:Q (.vs 1 ((cutN (n - 1) s).map fun s=>[.str s]) .none) S):
  AC w0 F_strings_SplitN [.str s,.str [32],.int .i64 n] S Q:=by
 refine AP.of_strsC fn_strings_SplitN (by kernel_rfl) (by kernel_rfl) fun G w args' hr hl' ha=>?_
 obtain⟨v,u,t,rfl⟩:∃v u t,args'=#[v,u,t]:=by
  match args',hl' with
  |⟨[v,u,t]⟩,_=>exact⟨v,u,t,rfl⟩
 have h0':=ha 0 _ v rfl rfl;have h1':=ha 1 _ u rfl rfl;have h2':=ha 2 _ t rfl rfl;cases h0';cases h1';cases h2';obtain⟨m,hm⟩:=hm;refine(Any.strings_SplitN Tryz.lays147 (by kernel_rfl) ⟨s.toArray⟩ ⟨#[32]⟩ n m w (by simpa[ByteArray.size] using hs) (m3 hr hm) (by decide) hn (by omega)).mono ?_
 rintro e w' ⟨rfl,rfl⟩;have hsz:(⟨s.toArray⟩:ByteArray).size=s.length:=by simp[ByteArray.size]
 rw[hsz];have hd:(Lib.splitB ⟨#[32]⟩ 0 (min n (s.length+1) - 1) ⟨s.toArray⟩).map (·.data.toList)=cutN (n - 1) s:=by
  rw[Lib.splitB_data]
  show Lib.splitK [32] 0 _ s=_
  rw[splitK_cut,cutN_min n s hn]
 have hlen:(cutN (n - 1) s).length=(Lib.splitB ⟨#[32]⟩ 0 (min n (s.length+1) - 1) ⟨s.toArray⟩).length:=by
  rw[←hd,List.length_map]
 have he:(Lib.splitB ⟨#[32]⟩ 0 (min n (s.length+1) - 1) ⟨s.toArray⟩).map Value.string=(cutN (n - 1) s).map fun s=>Value.string ⟨s.toArray⟩:=by
  rw[←hd,List.map_map];rfl
 refine⟨cutN (n - 1) s,List.replicate (min n (s.length+1) - (cutN (n - 1) s).length) (Value.string ByteArray.empty),min n (s.length+1),Tryz.lays147_ren.t 9,?_,?_,?_,hq⟩
 ·rw[hlen];have:=Lib.splitB_length_le ⟨#[32]⟩ 0 (min n (s.length+1) - 1) ⟨s.toArray⟩;omega
 ·rw[hlen]
 ·rw[Lib.cellsOf,←hlen,he]
end Go.Av
