/- Parts of the proofs of this seat: abstract values over the model, and what the functions of the program do. No condition. -/
import Derived.Test.YtgilicomkelmdaaGreatY05e
import Derived.Test.YtgilicomkelmdaaGreatX05e
set_option linter.all false
namespace Go.Av
theorem gw{s:Str}{n:Node}(hs:s.length≤1048575)(h:LL s=some n):n.ok:=by
 unfold LL at h;split at h
 ·cases h
 ·simp only at h;split at h
  ·cases h;exact(RS.node_ok 16 ⟨s.drop 7,false,4096⟩ (by simp;omega) (by simp)).ok
  ·cases h
end Go.Av
