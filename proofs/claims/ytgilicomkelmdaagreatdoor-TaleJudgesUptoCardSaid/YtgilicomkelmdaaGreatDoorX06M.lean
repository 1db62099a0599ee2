/- Parts of the proofs of this seat: abstract values over the model, and what the functions of the program do. No condition. -/
import Derived.Test.YtgilicomkelmdaaGreatDoorY06
import Derived.Test.YtgilicomkelmdaaGreatDoorY05e
set_option linter.all false
set_option maxRecDepth 100000
namespace Go.Av
open Go.Proofs
theorem Wa{w0:World}(hm:KD w0){S:St}{s:Str}(hs:s.length≤1048575){Q:AV→St→Prop}
  (h1:∀n,IE s=some n→n.ok→Bi n=true→∀S' id,Sx S S'→S.length≤id→Br S' id (n.tab 0)→Q (.tup [.ptr id 0,.int .i64 0]) S') (h2:IE s=none→∀S',Sx S S'→Q (.tup [.nil,.int .i64 1]) S') (h3:∀n,IE s=some n→n.ok→Bi n=true):
  AC w0 KM [.str s] S Q:=by
 apply U0;unfold OD;refine VI hm hs (fun S2 hS2=>⟨fun n hn hok=>?_,fun hn=>?_⟩)
 ·have hr:=h3 n hn hok;simp;refine Qs hm hok (fun _ S3 id hS3 hid hB=>?_) (fun hno=>by rw[hr] at hno;cases hno)
  simp;exact h1 n hn hok hr _ _ (hS2.trans hS3) (Nat.le_trans hS2.le hid) hB
 ·simp;exact h2 hn _ hS2
end Go.Av
