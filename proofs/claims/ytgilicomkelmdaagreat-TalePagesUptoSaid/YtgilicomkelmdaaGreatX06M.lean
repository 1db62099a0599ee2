/- Parts of the proofs of this seat: abstract values over the model, and what the functions of the program do. No condition. -/
import Derived.Test.YtgilicomkelmdaaGreatY06
import Derived.Test.YtgilicomkelmdaaGreatY05e
set_option linter.all false
namespace Go.Av
open Go.Proofs
set_option maxRecDepth 100000 in
theorem UA{w0:World}(hm:LI w0){S:St}{s:Str}(hs:s.length≤1048575){Q:AV→St→Prop}
  (h1:∀n,LL s=some n→n.ok→DR n=true→∀S' id,Sx S S'→S.length≤id→Br S' id (n.tab 0)→Q (.tup [.ptr id 0,.int .i64 0]) S') (h2:LL s=none→∀S',Sx S S'→Q (.tup [.nil,.int .i64 1]) S') (h3:∀n,LL s=some n→n.ok→DR n=true):
  AC w0 Jx [.str s] S Q:=by
 apply Tc;unfold NE;refine Tg hm hs (fun S2 hS2=>⟨fun n hn hok=>?_,fun hn=>?_⟩)
 ·have hr:=h3 n hn hok;simp;refine W2 hm hok (fun _ S3 id hS3 hid hB=>?_) (fun hno=>by rw[hr] at hno;cases hno)
  simp;exact h1 n hn hok hr _ _ (hS2.trans hS3) (Nat.le_trans hS2.le hid) hB
 ·simp;exact h2 hn _ hS2
end Go.Av
