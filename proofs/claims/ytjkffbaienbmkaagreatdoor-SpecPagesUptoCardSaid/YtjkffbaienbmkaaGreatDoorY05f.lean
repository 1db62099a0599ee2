/- Parts of the proofs of this seat: abstract values over the model, and what the functions of the program do. No condition. -/
import Derived.Test.YtjkffbaienbmkaaGreatDoorY05e
import Derived.Test.YtjkffbaienbmkaaGreatDoorX05e
set_option linter.all false
namespace Go.Av
theorem jI{s:Str}{n:Node}(hs:s.length≤1048575)(h:I0 s=some n):n.ok:=by
 unfold I0 at h;split at h
 ·cases h
 ·simp only at h;split at h
  ·cases h;exact(RS.node_ok 16 ⟨s.drop 7,false,4096⟩ (by simp;omega) (by simp)).ok
  ·cases h
end Go.Av
