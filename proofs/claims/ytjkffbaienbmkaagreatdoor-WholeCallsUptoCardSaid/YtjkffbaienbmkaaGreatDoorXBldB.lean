/- Parts of the proofs of this seat: abstract values over the model, and what the functions of the program do. No condition. -/
import Derived.Test.YtjkffbaienbmkaaGreatDoorXBld
set_option linter.all false
set_option maxRecDepth 100000
namespace Go.Av
open Go.Proofs Go.Shelf
def BldB(S:St)(id:Nat)(l:Str):Prop:=
 ∃c r,S[id]? =some (.cells [c,.vs 1 (byteCells l) r] DL)∧(c= .nil∨c= .ptr id 0)∧(r= .nil∧l=[]∨r= .own TD∧l≠[])
theorem copyCheck_A'B{w0:World}{S:St}{id:Nat}{c buf:AV}(hS:S[id]? =some (.cells [c,buf] DL))(hc:c= .nil∨c= .ptr id 0){Q:AV→St→Prop}(hq:∀r,Q r (S.set id (.cells [.ptr id 0,buf] DL))):
  AC w0 GD [.ptr id 0] S Q:=
 bZ (db (E:=En w0) Tryz.lays240 Tryz.Builder_Extra_105.toX72 (by decide) hS hc) (by rintro r S' rfl;exact hq r)
theorem BldB.lt{S:St}{id:Nat}{l:Str}(h:BldB S id l):id < S.length:=by
 obtain⟨c,r,h,_⟩:=h;exact(List.getElem?_eq_some_iff.1 h).1
theorem Builder_WriteByte_A{w0:World}{S:St}{id:Nat}{l:Str}{c:UInt8}(h:BldB S id l)(hl:l.length+1≤lim){Q:AV→St→Prop}
  (hq:∀S',S'.length=S.length→(∀j,j≠id→S'[j]? =S[j]?)→BldB S' id (l++[c])→Q .nilifc S'):AC w0 F_strings_Builder_WriteByte [.ptr id 0,.int .u8 c.toNat] S Q:=by
 obtain⟨c',r,h,hc,hr⟩:=h;apply strings_Builder_WriteByte_ok;unfold G_strings_Builder_WriteByte;refine copyCheck_A'B h hc fun _=>?_
 have e1:=Ah (o':=.cells [.ptr id 0,.vs 1 (byteCells l) r] DL) h;have e2:=Ah (o':=.cells [.ptr id 0,.vs 1 (byteCells l) r.strip] DL) e1;simp[AW e1,D8 e1];have hra:(r≠ .none∧(r= .nil∨True))∧By HG r=TD:=by
  rcases hr with ⟨rfl,_⟩|⟨rfl,_⟩<;>simp[By]
 have hlen:(byteCells l).length+1≤lim:=by simpa[byteCells] using hl
 simp[AT,BM,hra.1.1,hlen,hra.2];rw[Ak (Ah h)];simp;refine hq _ (by simp) (fun j hj=>BD (Ne.symm hj)) ⟨_,.own TD,?_,.inr rfl,.inr ⟨rfl,by simp⟩⟩
 rw[Ah h];simp[byteCells]
theorem Builder_String_AB{w0:World}{S:St}{id:Nat}{l:Str}(h:BldB S id l)(h63:l.length≤lim){Q:AV→St→Prop}
  (hq:∀S',S'.length=S.length→(∀j,j≠id→S'[j]? =S[j]?)→Q (.str l) S'):AC w0 G8 [.ptr id 0] S Q:=by
 obtain⟨c,r,h,hc,hr⟩:=h;rcases hr with ⟨rfl,rfl⟩|⟨rfl,h0⟩
 ·refine bZ (ax (E:=En w0) Tryz.lays169 Tryz.Builder_Extra_105 (by decide) h) ?_
  rintro r S' ⟨rfl,rfl⟩;exact hq _ rfl fun _ _=>rfl
 ·refine bZ (mV (E:=En w0) Tryz.lays169 Tryz.Builder_Extra_105 (by decide) (by decide) h0 (by unfold lim at h63;omega) h) ?_
  rintro r S' ⟨rfl,rfl⟩;exact hq _ (by simp) fun j hj=>BD (Ne.symm hj)
theorem Bld_newB(S:St):BldB (S++[.cells DM.zero DL]) S.length []:=⟨.nil,.nil,by simp[byteCells],.inl rfl,.inl ⟨rfl,rfl⟩⟩
end Go.Av
