/- Parts of the proofs of this seat: abstract values over the model, and what the functions of the program do. No condition. -/
import Derived.Test.YtehadbpejfjheaaGreatDoorM8
import Derived.Test.YtehadbpejfjheaaGreatDoorD0
import Derived.Test.YtehadbpejfjheaaGreatDoorM11
import Derived.Test.YtehadbpejfjheaaGreatDoorS1
import Derived.Shelf.Lay
import Derived.Shelf.LaySoft
set_option linter.all false
set_option maxRecDepth 100000
namespace Go.Proofs
open Go.Shelf Go.Av
shelf_lay Lays.n150 Nm 150 at Tryz as Tryz.lays150
end Go.Proofs
namespace Go.Av
open Go.Proofs Go.Shelf
theorem Qq{w0:World}{S:St}{s:Str}{c0 c1:UInt8}(h0:c0.toNat < 128)(h1:c1.toNat < 128)(hs:s.length < 4294967281){Q:AV→St→Prop}(hq:Q (.bool (s.any fun b=>b==c0||b==c1)) S):
  AC w0 F0 [.str s,.str [c0,c1]] S Q:=by
 refine AN.of_below I4 (by kernel_rfl) (by kernel_rfl) fun G w args' hl' ha=>?_
 obtain⟨v,u,rfl⟩:∃v u,args'=#[v,u]:=by
  match args',hl' with
  |⟨[v,u]⟩,_=>exact⟨v,u,rfl⟩
 have h0':=ha 0 _ v rfl rfl;have h1':=ha 1 _ u rfl rfl;cases h0';cases h1';refine(Ol Tryz.lays150 (by kernel_rfl) ⟨s.toArray⟩ ⟨#[c0,c1]⟩ c0 c1 rfl h0 h1 (by simpa[ByteArray.size] using hs) w).mono ?_
 rintro e w' ⟨rfl,hb⟩;refine⟨_,.bool _,rfl,hb,.bool _,rfl,?_⟩;rw[Oj];have:(s.any fun b=>[c0,c1].contains b)=s.any fun b=>b==c0||b==c1:=by
  congr 1;funext b;rw[Bool.eq_iff_iff];simp
 show Q (.bool (s.any fun b=>[c0,c1].contains b)) S
 rw[this];exact hq
end Go.Av
