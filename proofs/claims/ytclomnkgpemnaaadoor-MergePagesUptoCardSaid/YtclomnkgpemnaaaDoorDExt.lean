/- Parts of the proofs of this seat: abstract values over the model, and what the functions of the program do. No condition. -/
import Derived.Test.YtclomnkgpemnaaaDoorD0
set_option linter.all false
set_option linter.unusedVariables false
namespace Go.Av
open Go.Proofs
def Ext.ok (x : Ext) : Prop := -9223372036854775808 ≤ x.off ∧ x.off ≤ 9223372036854775807 ∧ x.data.length ≤ 1048576
end Go.Av
set_option linter.unusedVariables false
namespace Go.Av
open Go.Proofs
inductive Node where
  | mk (kind : Int) (opq : Bool) (names : Ss) (items : List Node) (ir : Rt) (size : Int) (exts : List Ext) (er : Rt) (target : Str)
def Node.kind : Node → Int | .mk k _ _ _ _ _ _ _ _ => k
def Node.opq : Node → Bool | .mk _ o _ _ _ _ _ _ _ => o
def Node.names : Node → Ss | .mk _ _ n _ _ _ _ _ _ => n
def Node.items : Node → List Node | .mk _ _ _ i _ _ _ _ _ => i
def Node.ir : Node → Rt | .mk _ _ _ _ r _ _ _ _ => r
def Node.size : Node → Int | .mk _ _ _ _ _ s _ _ _ => s
def Node.exts : Node → List Ext | .mk _ _ _ _ _ _ e _ _ => e
def Node.er : Node → Rt | .mk _ _ _ _ _ _ _ r _ => r
def Node.target : Node → Str | .mk _ _ _ _ _ _ _ _ t => t
mutual
def Node.c : Node → List AV
  | .mk k o ns its ir sz es er t => [.int .i64 k, .bool o, ns.v, .vs 7 (Node.cs its) ir.strip, .int .i64 sz, .vs 2 (es.map Ext.c) er.strip, .str t]
def Node.cs : List Node → List (List AV)
  | [] => []
  | n :: l => n.c :: Node.cs l
end
theorem Node.cs_eq : ∀ l : List Node, Node.cs l = l.map Node.c
  | [] => rfl
  | n :: l => by rw [Node.cs, List.map_cons, Node.cs_eq l]
theorem Node.c_eq (n : Node) : n.c = [.int .i64 n.kind, .bool n.opq, n.names.v, .vs 7 (n.items.map Node.c) n.ir.strip, .int .i64 n.size, .vs 2 (n.exts.map Ext.c) n.er.strip, .str n.target] := by
  cases n
  rw [Node.c, Node.cs_eq]
  rfl
def I64 (n : Int) : Prop := -9223372036854775808 ≤ n ∧ n ≤ 9223372036854775807
mutual
def Node.ok : Node → Prop
  | .mk k _ ns its ir sz es er t => I64 k ∧ ns.ok ∧ ((ir.strip = .nil → its = []) ∧ its.length ≤ 1048576) ∧ Node.oks its ∧ I64 sz ∧ ((er.strip = .nil → es = []) ∧ es.length ≤ 1048576 ∧ ∀ e ∈ es, e.ok) ∧ t.length ≤ 1048576
def Node.oks : List Node → Prop
  | [] => True
  | n :: l => n.ok ∧ Node.oks l
end
theorem Node.oks_iff : ∀ l : List Node, Node.oks l ↔ ∀ n ∈ l, n.ok
  | [] => by simp [Node.oks]
  | n :: l => by rw [Node.oks, Node.oks_iff l]; simp
theorem Node.ok_iff (n : Node) : n.ok ↔ I64 n.kind ∧ n.names.ok ∧ ((n.ir.strip = .nil → n.items = []) ∧ n.items.length ≤ 1048576) ∧ (∀ x ∈ n.items, x.ok) ∧ I64 n.size ∧ ((n.er.strip = .nil → n.exts = []) ∧ n.exts.length ≤ 1048576 ∧ ∀ e ∈ n.exts, e.ok) ∧ n.target.length ≤ 1048576 := by
  cases n
  rw [Node.ok, Node.oks_iff]
  rfl
theorem Node.ind {p : Node → Prop} (h : ∀ n, (∀ x ∈ n.items, p x) → p n) (n : Node) : p n :=
  Node.rec (motive_1 := p) (motive_2 := fun l => ∀ x ∈ l, p x) (fun k o ns its ir sz es er t ih => h _ ih) (by simp) (fun n l h1 h2 x hx => by
    rcases List.mem_cons.1 hx with rfl | hx
    · exact h1
    · exact h2 x hx) n
end Go.Av
