/- Parts of the proofs of this seat: abstract values over the model, and what the functions of the program do. No condition. -/
import Derived.Test.YtgilicomkelmdaaGreatX03
set_option linter.all false
namespace Go.Av
def Node.own(n:Node):Nat:=1+n.names.l.length+n.exts.length+(n.exts.map fun x=>x.data.length).sum+n.target.length
end Go.Av
