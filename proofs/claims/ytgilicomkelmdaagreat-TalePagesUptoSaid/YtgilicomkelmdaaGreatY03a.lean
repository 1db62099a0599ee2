/- Parts of the proofs of this seat: abstract values over the model, and what the functions of the program do. No condition. -/
import Derived.Test.YtgilicomkelmdaaGreatX03
set_option linter.all false
namespace Go.Av
def RL(off:Int)(out:Str)(x:Ext):Int:=if off+out.length > x.off then off+out.length else x.off
def rTo(off m:Int)(x:Ext):Int:=if off+m < x.off+x.data.length then off+m else x.off+x.data.length
def Eb(off m:Int)(out:Str)(x:Ext):Str:=
 if RL off out x≥rTo off m x then out else
  out++List.replicate (RL off out x - off - out.length).toNat 0++(x.data.take (rTo off m x - x.off).toNat).drop (RL off out x - x.off).toNat
theorem WT{off m:Int}{out:Str}{x:Ext}(h:out.length≤m)(hx:0≤x.off)(ho:0≤off):((Eb off m out x).length:Int)≤m:=by
 unfold Eb;split
 ·exact h
 ·rename_i c;have:rTo off m x≤off+m∧rTo off m x≤x.off+x.data.length:=by unfold rTo;split<;>omega
  have h2:off+out.length≤RL off out x∧x.off≤RL off out x:=by unfold RL;split<;>omega
  simp;omega
def VG(size:Int)(l:List Ext)(off n:Int):Str:=
 if off < 0∨off≥size∨n < 1 then [] else
  let m:=if size - off < n then size - off else n
  let out:=l.foldl (Eb off m) []
  out++List.replicate (m - out.length).toNat 0
theorem Su{α β:Type}(f:β→α→β)(b:β){l:List α}{i:Nat}{x:α}(h:l[i]? =some x):(l.take (i+1)).foldl f b=f ((l.take i).foldl f b) x:=by
 rw[List.take_succ,h];simp
abbrev has(x:Ext)(p:Int):Prop:=x.off≤p∧p < x.off+x.data.length
theorem Xn{size:Int}:∀{l:List Ext} {a:Int},Hw size a l=true→∀y∈l,a≤y.off∧y.off+y.data.length≤size∧y.data≠[]
 |[],_,_,y,hy=>by simp at hy
 |x::l,a,h,y,hy=>by
  simp only[Hw,Bool.and_eq_true,decide_eq_true_eq] at h;rcases List.mem_cons.1 hy with rfl|hy
  ·exact⟨h.1.1,h.1.2.2,h.1.2.1⟩
  ·have:=Xn h.2 y hy;exact⟨by omega,this.2⟩
theorem eD{size:Int}{l:List Ext}(h:JK size l=true):0≤size∧size≤1048576∧∀x∈l,0≤x.off∧x.off+x.data.length≤1048576:=by
 simp[JK] at h;refine⟨h.1.1,h.1.2,fun x hx=>?_⟩
 have:=Xn h.2 x hx;omega
end Go.Av
