/- Parts of the proofs of this seat: abstract values over the model, and what the functions of the program do. No condition. -/
import Derived.Lib.LaidU8
set_option linter.all false
namespace Go.Av
open Go.Lib
theorem err_of_laid{P:Program}{W:World}{l:List (String×DataW Unit)}(h:laidMet P l W){n:String}{d:DataW Unit}(hm:(n,d)∈l){g t:Nat}{ms:Array (String×TypeId)}
  (hg:P.globalNamed n=some g) (ht:(P.globals[g]?).map (·.type)=some t) (hi:P.underlying t=some (.interface ms)):∃ev,W.cell? ⟨g,0,none⟩=some ev∧(ev= .nilIface∨∃te pe,ev= .iface te pe):=by
 obtain⟨g',t',cs,fuel,p,h1,h2,h3,h4⟩:=laidMet.reads h hm;obtain rfl:=Option.some.inj (hg.symm.trans h1);obtain rfl:=Option.some.inj (ht.symm.trans h2);have hc:=World.var?_cell hg h3 0;obtain⟨l0⟩:=cs;cases fuel with
 |zero=>simp[DataW.trod] at h4
 |succ fuel=>
  simp only[DataW.trod,hi] at h4;split at h4
  all_goals first
   |(exact⟨_,by simpa using hc,.inl rfl⟩)
   |(exact⟨_,by simpa using hc,.inr ⟨_,_,rfl⟩⟩)
   |(exfalso;simp_all;done)
   |cases h4
theorem tab_of_laid{P:Program}{W:World}{l:List (String×DataW Unit)}(h:laidMet P l W){n:String}{k:IntKind}{zs:List Int}(hm:(n,tabData k zs)∈l){g t e m:Nat}
  (hg:P.globalNamed n=some g) (hty:(P.globals[g]?).map (·.type)=some t) (ht:P.underlying t=some (.array m e)) (he:P.underlying e=some (.int k)) (hce:P.cellsOf e=1) (hct:P.cellsOf t=m):TabIs P W n k zs:=by
 obtain⟨g',t',cs,fuel,p,h1,h2,h3,h4⟩:=laidMet.reads h hm;obtain rfl:=Option.some.inj (hg.symm.trans h1);obtain rfl:=Option.some.inj (hty.symm.trans h2);unfold TabIs;rw[h3,←cells_of_tab ht he hce hct h4]
end Go.Av
