/- Parts of the proofs of this seat: abstract values over the model, and what the functions of the program do. No condition. -/
import Derived.Shelf.Strings.IndexAnyAll
import Derived.Lib.DecodeN
import Derived.Shelf.Small.Strs
import Derived.Shelf.Small.Utf8
import Derived.Laws.Runes
import Derived.WalkMore
import Derived.Lib.OthersKept
set_option linter.all false
set_option maxRecDepth 100000
namespace Go.Proofs
open Go.Shelf Go.RowKit Go.Lib
variable {P:Program} {ρ:Ren}
set_option maxHeartbeats 2000000 in
set_option maxRecDepth 1000000 in
theorem Qd(L:Lays.n152 P ρ)(s:ByteArray)(w:World)(hascii:∀(j:Nat) b,s.data.toList[j]? =some b→b.toNat < 128):
  Calls P (ρ.f 152) #[.string s,.int .i32 65533] w fun e w'=>e= .returned (.int .i64 (-1))∧∃pos,w'=w.iter s pos:=by
 have HA:Aside (∀(j:Nat) b,s.data.toList[j]? =some b→b.toNat < 128):=hascii;clear hascii;have t3:=L.t3;have a3:=L.a3;have z3:=L.z3;have v3:=L.v3;have t4:=L.t4;have a4:=L.a4;have z4:=L.z4;have v4:=L.v4;have t5:=L.t5;have a5:=L.a5;have z5:=L.z5;have v5:=L.v5;have t9:=L.t9;have a9:=L.a9;have z9:=L.z9;have v9:=L.v9;have t21:=L.t21;have a21:=L.a21;have z21:=L.z21;have v21:=L.v21
 go_enter L.f152,Body.n152_ntmps ρ
 go_wp2
 go_loopg [5,6] s.size (fun g _ _ wx=>∃i:Nat,i+g=s.size∧wx=w.iter s i)
 case atStart=>exact⟨0,by omega,rfl⟩
 case round=>
  obtain⟨i,hig,rfl⟩:=hrel;cases gk with
  |zero=>
   obtain rfl:i=s.size:=by omega
   have hnx:=run_next_end (P:=P) w s s.size
   go_wp2
   go_ret
   exact⟨rfl,_,rfl⟩
  |succ g=>
   have hi:i < s.size:=by omega
   obtain⟨x,hx⟩:∃x:UInt8,s[i]'hi=x:=⟨_,rfl⟩;have hxl:s.data.toList[i]? =some x:=by rw[←hx];exact Lib.data_getElem? s i hi
   have hx128:x.toNat < 128:=HA.out i x hxl;have hnx:=fun ty=>run_next_ascii (P:=P) w s i ty hi (by rw[hx];exact hx128)
   rw[hx] at hnx;clear hxl hx;have hne:((x.toNat:Int)==65533)=false:=beq_eq_false_iff_ne.2 (by omega)
   go_wp2
   go_roundg g
   case measure=>omega
   case rel=>exact⟨i+1,by omega,rfl⟩
set_option maxHeartbeats 4000000 in
set_option maxRecDepth 1000000 in
theorem Qk(L:Lays.n152 P ρ)(s:ByteArray)(c0 c1:UInt8)(hs:s=⟨#[c0,c1]⟩)(h0:c0.toNat < 128)(h1:c1.toNat < 128)(r:Int)(hr:128≤r)(hr2:r≤1114111)(hne:r≠65533)(hv:Utf8.valid r=true)(w:World):
  Calls P (ρ.f 152) #[.string s,.int .i32 r] w fun e w'=>e= .returned (.int .i64 (-1))∧Below w.heap.size w w':=by
 have t3:=L.t3;have a3:=L.a3;have z3:=L.z3;have v3:=L.v3;have t4:=L.t4;have a4:=L.a4;have z4:=L.z4;have v4:=L.v4;have t5:=L.t5;have a5:=L.a5;have z5:=L.z5;have v5:=L.v5;have t9:=L.t9;have a9:=L.a9;have z9:=L.z9;have v9:=L.v9;have t21:=L.t21;have a21:=L.a21;have z21:=L.z21;have v21:=L.v21;have e137:∀args w,(callFunc (ρ.f 137) args).run P w= .ok (.enter (ρ.f 137) args) w:=enters_of L.f137 (by kernel_rfl) rfl
 have n1:(r==65533)=false:=beq_eq_false_iff_ne.2 hne;have n2:decide (r < 128)=false:=decide_eq_false (by omega)
 have n3:decide ((0:Int)≤r)=true:=decide_eq_true (by omega)
 go_enter L.f152,Body.n152_ntmps ρ
 have e119:∀args w,(callFunc (ρ.f 119) args).run P w= .ok (.enter (ρ.f 119) args) w:=enters_of L.f119 (by kernel_rfl) rfl
 have hval:Lib.validRune r=true:=by
  unfold Utf8.valid at hv;unfold Lib.validRune;simp at hv ⊢;omega
 have hef:=encode_facts r hv hr
 go_wp2_with (go_at_fn (ρ.f 119);refine(Any.utf8_ValidRune {L with} _ _).mono ?_;rintro e w' ⟨rfl,hw⟩;rw[hw,hval])
 have hconv:∀w,(convert (ρ.t 21) (ρ.t 9) (.int .i32 r)).run P w= .ok (.string (Utf8.encode r)) w:=fun w=>run_convert_int_string w _ _ _ _ (by rw[t21];rfl) t9
 generalize Utf8.encode r=rs at hef hconv;obtain⟨k1,k2,k3⟩:=hef;have k3:=k3 (by omega)
 generalize hb:rs[rs.size - 1]'(by omega)=bl at k3
 have hszs:s.size=2:=by rw[hs];rfl
 go_step3
 go_wp2
 go_loopg [9] 1 (fun g i wx=>g=1∧i=Value.int .i64 ((rs.size:Int) - 1)∧wx=w)
 case atStart=>exact⟨rfl,rfl,rfl⟩
 case round=>
  obtain⟨rfl,rfl,rfl⟩:=hrel
  by_cases c:rs.size=2
  ·have hi:((rs.size:Int) - 1)=1:=by omega
   simp only[hi];have hlt:((1:Int) < 2):=by omega
   have hb1:rs[1]'(by omega)=bl:=by rw[←hb];congr 1;omega
   have hrsz:((rs.size:Int))=2:=by omega
   simp only[hrsz]
   go_wp2
   go_step3
   go_wp2
   have mixed:=L.mixed
   go_region_o
   go_wp2
   ·have hE:∀c:UInt8,Lib.indexByte (s.extract 2 2).data.toList c= -1:=by intro c;subst hs;rfl
    have hs2:∀c:Int,Lib.indexByte (ByteArray.mk #[]).data.toList c.toNat.toUInt8= -1:=fun _=>rfl
    have hx:((ByteArray.mk #[c0,c1]).extract 2 2)=ByteArray.mk #[]:=rfl;have hm:Lib.indexByte [] bl= -1:=rfl
    go_region_with_o (go_at_fn (ρ.f 137);refine(Any.strings_IndexByte {L with} _ _ _).mono ?_;rintro e w' ⟨rfl,hw⟩;rw[hw])
    all_goals (
     (try simp only[hm])
     go_wp2
     simp only[Exit.noGoto_ret,Exit.inBlock,Exit.then]
     go_ret
     exact⟨rfl,(Below.refl _ _).drew.drew⟩)
   ·exfalso;have hlt1:1 < (ByteArray.mk #[c0,c1]).size:=by simp[ByteArray.size]
    have hb':((((ByteArray.mk #[c0,c1])[1]'hlt1).toNat:Int) != (bl.toNat:Int))=false:=by assumption
    have hb':((c1.toNat:Int) != (bl.toNat:Int))=false:=hb';have:(c1.toNat:Int)=bl.toNat:=by simpa using hb'
    omega
  ·go_wp2
   rw[Exit.noGoto_ret]
   go_ret
   exact⟨rfl,Below.refl _ _⟩
end Go.Proofs
namespace Go.Proofs
open Go.Shelf Go.RowKit Go.Lib
variable {P:Program} {ρ:Ren}
set_option maxHeartbeats 4000000 in
theorem RI(n b0 b1 b2 b3:Nat)(hn:1≤n)(h:128≤b0):
  128≤(decodeN n b0 b1 b2 b3).1∧(decodeN n b0 b1 b2 b3).1≤1114111∧((decodeN n b0 b1 b2 b3).1=65533∨((decodeN n b0 b1 b2 b3).1 < 55296∨57344≤(decodeN n b0 b1 b2 b3).1))∧
  1≤(decodeN n b0 b1 b2 b3).2∧(decodeN n b0 b1 b2 b3).2≤4∧(decodeN n b0 b1 b2 b3).2≤n∧(2≤(decodeN n b0 b1 b2 b3).2→128≤b1)∧(3≤(decodeN n b0 b1 b2 b3).2→128≤b2)∧(4≤(decodeN n b0 b1 b2 b3).2→128≤b3):=by
 unfold decodeN
 repeat' split
 all_goals (simp only[];omega)
theorem get!_eq(s:ByteArray)(i:Nat)(h:i < s.size):s.get! i=s[i]:=by
 show s.data[i]! =s.data[i]'h
 exact getElem!_pos s.data i h
theorem Sy(s:ByteArray)(i:Nat)(hi:i < s.size)(h:128≤(s[i]'hi).toNat):
  128≤(Utf8.decode s i).1∧(Utf8.decode s i).1≤1114111∧((Utf8.decode s i).1=65533∨Utf8.valid ((Utf8.decode s i).1:Int)=true)∧
  1≤(Utf8.decode s i).2∧i+(Utf8.decode s i).2≤s.size∧∀j,i≤j→j < i+(Utf8.decode s i).2→(hj:j < s.size)→128≤(s[j]'hj).toNat:=by
 rw[decode_at];have f:=RI (s.size - i) (s.get! i).toNat (s.get! (i+1)).toNat (s.get! (i+2)).toNat (s.get! (i+3)).toNat (by omega) (by rw[get!_eq s i hi];exact h)
 generalize hd:decodeN (s.size - i) (s.get! i).toNat (s.get! (i+1)).toNat (s.get! (i+2)).toNat (s.get! (i+3)).toNat=d at f;obtain⟨f1,f2,f3,f4,f5,f6,f7,f8,f9⟩:=f;refine⟨f1,f2,?_,f4,by omega,?_⟩
 ·rcases f3 with f3|f3
  ·exact .inl f3
  ·right;unfold Utf8.valid;simp;omega
 ·intro j h1 h2 hj;rw[←get!_eq s j hj];rcases Nat.lt_or_ge j (i+1) with c|c
  ·obtain rfl:j=i:=by omega
   rw[get!_eq s j hj];exact h
  rcases Nat.lt_or_ge j (i+2) with c|c
  ·obtain rfl:j=i+1:=by omega
   exact f7 (by omega)
  rcases Nat.lt_or_ge j (i+3) with c|c
  ·obtain rfl:j=i+2:=by omega
   exact f8 (by omega)
  ·obtain rfl:j=i+3:=by omega
   exact f9 (by omega)
theorem NoAny.more{s chars:List UInt8}{i n:Nat}(h:NoAny s chars i)(hs:∀j b,i≤j→j < i+n→s[j]? =some b→chars.contains b=false):NoAny s chars (i+n):=fun j b hj hb=>by
 rcases Nat.lt_or_ge j i with c|c
 ·exact h j b c hb
 ·exact hs j b c hj hb
theorem Qz(L:Lays.n152 P ρ)(s:ByteArray)(c0 c1:UInt8)(hs:s=⟨#[c0,c1]⟩)(h0:c0.toNat < 128)(h1:c1.toNat < 128)(r:Int)(hr:128≤r)(hr2:r≤1114111)(hv:r=65533∨Utf8.valid r=true)(w:World):
  Calls P (ρ.f 152) #[.string s,.int .i32 r] w fun e w'=>e= .returned (.int .i64 (-1))∧Below w.heap.size w w':=by
 by_cases c:r=65533
 ·subst c;refine(Qd L s w ?_).mono ?_
  ·intro j b hj;subst hs
   match j,hj with
   |0,hj=>cases hj;exact h0
   |1,hj=>cases hj;exact h1
  ·rintro e w' ⟨rfl,pos,rfl⟩;exact⟨rfl,(Below.refl _ _).alloc (Nat.le_refl _) _⟩
 ·exact Qk L s c0 c1 hs h0 h1 r hr hr2 c (hv.resolve_left c) w
theorem VE{B B':Nat}{a b:World}(h:Below B a b)(hB:B'≤B):Below B' a b:=⟨h.os,h.tape,h.output,h.size,fun k hk=>h.block k (by omega)⟩
set_option maxHeartbeats 8000000 in
set_option maxRecDepth 1000000 in
theorem MB(L:Lays.n153 P ρ)(s chars:ByteArray)(c0 c1:UInt8)(hchars:chars=⟨#[c0,c1]⟩)(h0:c0.toNat < 128)(h1:c1.toNat < 128)(w:World)(h8:s.size≤8):
  Calls P (ρ.f 153) #[.string s,.string chars] w fun e w'=>e= .returned (.int .i64 (Lib.indexAny s.data.toList chars.data.toList))∧Below w.heap.size w w':=by
 have hemp:chars.toList.isEmpty=false:=by rw[Lib.toList_data];subst hchars;rfl
 have hcsz:chars.size=2:=by subst hchars;rfl
 have hn1:((chars.size:Int)==1)=false:=beq_eq_false_iff_ne.2 (by omega)
 have h8z:decide ((8:Int) < (s.size:Int))=false:=decide_eq_false (by omega)
 have hcont:∀b:UInt8,128≤b.toNat→chars.data.toList.contains b=false:=by
  intro b hb;subst hchars
  show [c0,c1].contains b=false
  have e0:(b==c0)=false:=beq_eq_false_iff_ne.2 (by rintro rfl;omega)
  have e1:(b==c1)=false:=beq_eq_false_iff_ne.2 (by rintro rfl;omega)
  simp[List.contains,List.elem,e0,e1]
 have HC:Aside (∀b:UInt8,128≤b.toNat→chars.data.toList.contains b=false):=hcont;clear hcont;have HF:Aside (∀r:Int,128≤r→r≤1114111→(r=65533∨Utf8.valid r=true)→∀w,Calls P (ρ.f 152) #[.string chars,.int .i32 r] w fun e w'=>e= .returned (.int .i64 (-1))∧Below w.heap.size w w'):=fun r a b c w=>Qz {L with} chars c0 c1 hchars h0 h1 r a b c w
 clear hchars;have t3:=L.t3;have a3:=L.a3;have z3:=L.z3;have v3:=L.v3;have t4:=L.t4;have a4:=L.a4;have z4:=L.z4;have v4:=L.v4;have t5:=L.t5;have a5:=L.a5;have z5:=L.z5;have v5:=L.v5;have t9:=L.t9;have a9:=L.a9;have z9:=L.z9;have v9:=L.v9;have t21:=L.t21;have a21:=L.a21;have z21:=L.z21;have v21:=L.v21;have e152:∀args w,(callFunc (ρ.f 152) args).run P w= .ok (.enter (ρ.f 152) args) w:=enters_of L.f152 (by kernel_rfl) rfl
 have e226:∀args w,(callFunc (ρ.f 226) args).run P w= .ok (.enter (ρ.f 226) args) w:=enters_of L.f226 (by kernel_rfl) rfl
 go_enter L.f153,Body.n153_ntmps ρ
 go_wp2_with (go_at_fn (ρ.f 226);refine(Any.strings_shouldUseASCIISet {L with} _ _).mono ?_;rintro e w' ⟨rfl,hw⟩;rw[hw,h8z])
 go_loopg [9,10] s.size (fun g _ _ wx=>∃i:Nat,i+g=s.size∧wx.heap[w.heap.size]? =some (.stringIter s i)∧Below w.heap.size w wx∧Lib.NoAny s.data.toList chars.data.toList i)
 case atStart=>exact⟨0,by omega,World.iter_heap w s 0,(Below.refl _ _).alloc (Nat.le_refl _) _,Lib.NoAny.zero _ _⟩
 case round=>
  obtain⟨i,hig,hit,hbw,hno⟩:=hrel;have HN:Aside (Lib.NoAny s.data.toList chars.data.toList i):=hno;clear hno;cases gk with
  |zero=>
   obtain rfl:i=s.size:=by omega
   have hnx:∀ty,(Instr.next (.pointer (some ⟨w.heap.size,0,none⟩)) true ty).run P wr=_:=fun ty=>Lib.run_next_end_at wr w.heap.size s s.size ty hit (by omega)
   go_wp2
   go_ret
   exact⟨by rw[Lib.indexAny_none (by rw[←Lib.size_eq];exact HN.out)];rfl,hbw⟩
  |succ g=>
   have hi:i < s.size:=by omega
   obtain⟨x,hx⟩:∃x:UInt8,s[i]'hi=x:=⟨_,rfl⟩;have hxl:s.data.toList[i]? =some x:=by rw[←hx];exact Lib.data_getElem? s i hi
   have Hx:Aside (s.data.toList[i]? =some x):=hxl;clear hxl;have hsz:w.heap.size < wr.heap.size:=(Array.getElem?_eq_some_iff.1 hit).1
   by_cases hx128:x.toNat < 128
   ·have hnx:∀ty,(Instr.next (.pointer (some ⟨w.heap.size,0,none⟩)) true ty).run P wr=_:=fun ty=>Lib.run_next_ascii_at wr w.heap.size s i ty hit hi (by rw[hx];exact hx128)
    rw[hx] at hnx;clear hx;have hit2:=Lib.iterAt_heap wr w.heap.size s i (i+1) hit;have hbw2:=Lib.below_iterAt hbw (k:=w.heap.size) (by omega) s (i+1)
    have hcon:=Lib.contains_iff_indexByte chars.data.toList x;have hback:((x.toNat:Int)).toNat.toUInt8=x:=by simp
    cases hin:chars.data.toList.contains x
    ·rw[hin] at hcon;have hlt:¬((0:Int)≤Lib.indexByte chars.data.toList x):=of_decide_eq_false hcon.symm;clear hcon
     go_wp2_with (go_at_fn (ρ.f 152);refine(Any.strings_IndexRune_ascii {L with} _ _ _ (by omega) (by omega)).mono ?_;rintro e w' ⟨rfl,hw⟩;rw[hw,hback])
     go_roundg g
     case measure=>omega
     case rel=>exact⟨i+1,by omega,hit2,hbw2,HN.out.succ Hx.out hin⟩
    ·rw[hin] at hcon;have hge:(0:Int)≤Lib.indexByte chars.data.toList x:=of_decide_eq_true hcon.symm;clear hcon
     go_wp2_with (go_at_fn (ρ.f 152);refine(Any.strings_IndexRune_ascii {L with} _ _ _ (by omega) (by omega)).mono ?_;rintro e w' ⟨rfl,hw⟩;rw[hw,hback])
     go_ret
     exact⟨by rw[Lib.indexAny_hit HN.out Hx.out hin];rfl,hbw2⟩
   ·have hd:=Sy s i hi (by rw[hx];omega)
    have hnx:∀ty,(Instr.next (.pointer (some ⟨w.heap.size,0,none⟩)) true ty).run P wr=_:=fun ty=>Lib.run_next_any_at wr w.heap.size s i ty hit hi
    have hit2:=Lib.iterAt_heap wr w.heap.size s i (i+(Utf8.decode s i).2) hit;have hbw2:=Lib.below_iterAt hbw (k:=w.heap.size) (by omega) s (i+(Utf8.decode s i).2)
    have hsz2:(wr.iterAt w.heap.size s (i+(Utf8.decode s i).2)).heap.size=wr.heap.size:=by rw[Lib.iterAt_size]
    clear hx;generalize Utf8.decode s i=d at hd hnx hit2 hbw2 hsz2;obtain⟨r,k⟩:=d;simp only at hd hnx hit2 hbw2 hsz2;obtain⟨d1,d2,d3,d4,d5,d6⟩:=hd;have hR:=HF.out (r:Int) (by omega) (by omega) (d3.imp (fun h=>by omega) id)
    have HNx:Aside (Lib.NoAny s.data.toList chars.data.toList (i+k))   :=(NoAny.more HN.out fun j b j1 j2 jb=>HC.out b (by
     have hj:j < s.size:=by omega
     have:=Lib.data_getElem? s j hj;rw[this] at jb;cases jb;exact d6 j j1 j2 hj))
    clear d6 d3;generalize wr.iterAt w.heap.size s (i+k)=wq at*
    go_wp2_with (go_at_fn (ρ.f 152);refine(hR _).mono ?_;rintro e w' ⟨rfl,hw⟩)
    go_roundg (s.size - (i+k))
    case measure=>omega
    case rel=>exact⟨i+k,by omega,by rw[hw.block _ (by omega)];exact hit2,hbw2.trans (VE hw (by omega)),HNx.out⟩
theorem TH(L:Lays.n153 P ρ)(h116:(P.info? (ρ.t 116)).map (fun i=>(i.zero,i.size))=some (some (.agg (Array.replicate 256 (.bool false))),256))(s chars:ByteArray)(c0 c1:UInt8)(hchars:chars=⟨#[c0,c1]⟩)(h0:c0.toNat < 128)(h1:c1.toNat < 128)(hs:s.size < 4294967281)(w:World):
  Calls P (ρ.f 153) #[.string s,.string chars] w fun e w'=>e= .returned (.int .i64 (Lib.indexAny s.data.toList chars.data.toList))∧Below w.heap.size w w':=by
 by_cases h8:s.size≤8
 ·exact MB L s chars c0 c1 hchars h0 h1 w h8
 ·have hc2:chars.size=2:=by subst hchars;rfl
  refine(Any.strings_IndexAny_long L (zero_of_info h116).1 (zero_of_info h116).2 s chars w (by omega) (by omega) hs (by omega) ?_).mono fun e w' ⟨h1,h2⟩=>⟨h1,?_⟩
  ·intro j b hj;subst hchars
   match j,hj with
   |0,hj=>cases hj;exact h0
   |1,hj=>cases hj;exact h1
  ·rw[h2];exact((Below.refl _ _).alloc (Nat.le_refl _) _).alloc (by simp) _
set_option maxHeartbeats 1000000 in
theorem Ol(L:Lays.n150 P ρ)(h116:(P.info? (ρ.t 116)).map (fun i=>(i.zero,i.size))=some (some (.agg (Array.replicate 256 (.bool false))),256))(s chars:ByteArray)(c0 c1:UInt8)(hchars:chars=⟨#[c0,c1]⟩)(h0:c0.toNat < 128)(h1:c1.toNat < 128)(hs:s.size < 4294967281)(w:World):
  Calls P (ρ.f 150) #[.string s,.string chars] w fun e w'=>e= .returned (.bool (Lib.containsAny s.data.toList chars.data.toList))∧Below w.heap.size w w':=by
 have c:=TH {L with} h116 s chars c0 c1 hchars h0 h1 hs w
 clear hchars;have t3:=L.t3;have a3:=L.a3;have z3:=L.z3;have v3:=L.v3;have t4:=L.t4;have a4:=L.a4;have z4:=L.z4;have v4:=L.v4;have t9:=L.t9;have a9:=L.a9;have z9:=L.z9;have v9:=L.v9;have e153:∀args w,(callFunc (ρ.f 153) args).run P w= .ok (.enter (ρ.f 153) args) w:=enters_of L.f153 (by kernel_rfl) rfl
 go_enter L.f150,Body.n150_ntmps ρ
 go_wp2_with (go_at_fn (ρ.f 153);refine c.mono ?_;rintro e w' ⟨rfl,hw⟩)
 go_ret
 exact⟨rfl,hw⟩
theorem Oj:∀(s cs:List UInt8),Lib.containsAny s cs=s.any (fun b=>cs.contains b):=by
 intro s cs
 induction s with
 |nil=>rfl
 |cons b l ih=>
  rw[List.any_cons,←ih];unfold Lib.containsAny;rw[Lib.indexAny];have hge:=Lib.indexAny_ge cs l;cases h:cs.contains b
  ·by_cases c:Lib.indexAny l cs= -1
   ·simp[c]
   ·have c':(Lib.indexAny l cs== -1)=false:=beq_eq_false_iff_ne.2 c;simp only[c',Bool.false_or];have:(0≤Lib.indexAny l cs+1)↔(0≤Lib.indexAny l cs):=by omega
    simp[this]
  ·simp
end Go.Proofs
