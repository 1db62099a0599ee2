/- Parts of the proofs of this seat: abstract values over the model, and what the functions of the program do. No condition. -/
import Derived.Test.YtehadbpejfjheaaGreatDoorX03
set_option linter.all false
set_option maxRecDepth 100000
namespace Go.Av
abbrev has(x:Ext)(p:Int):Prop:=x.off≤p∧p < x.off+x.data.length
end Go.Av
