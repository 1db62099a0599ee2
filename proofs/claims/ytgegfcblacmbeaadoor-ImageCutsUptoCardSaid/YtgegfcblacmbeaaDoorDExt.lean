/- Parts of the proofs of this seat: abstract values over the model, and what the functions of the program do. No condition. -/
import Derived.Test.YtgegfcblacmbeaaDoorD1
import Derived.Test.YtgegfcblacmbeaaDoorX03
import Derived.Test.YtgegfcblacmbeaaDoorY01
set_option linter.all false
set_option linter.unusedVariables false
/-! Extents that come in. -/
namespace Go.Av
open Go.Proofs
def Ext.ok (x : Ext) : Prop := -9223372036854775808 ≤ x.off ∧ x.off ≤ 9223372036854775807 ∧ x.data.length ≤ 1048576
set_option maxRecDepth 100000 in
theorem dec_Ext (cs : List AV) (h : TT t_api_Extent cs) : ∃ x : Ext, cs = x.c ∧ x.ok := by
  obtain ⟨h1, h2⟩ := h.struct_inv un_api_Extent
  match cs, h1 with
  | [a, b], _ =>
    obtain ⟨n, h3, h4⟩ := dec_int (h2 _ (List.mem_cons_self)) un_int
    obtain ⟨s, h5, h6⟩ := dec_str (h2 _ (List.mem_cons_of_mem _ List.mem_cons_self)) un_string
    cases h3
    cases h5
    exact ⟨⟨n, s⟩, rfl, h4.1, h4.2, h6⟩
end Go.Av
set_option linter.unusedVariables false
/-! Nodes of trees. -/
namespace Go.Av
open Go.Proofs
/-- A node. -/
inductive Node where
  | mk (kind : Int) (opq : Bool) (names : Ss) (items : List Node) (ir : Rt) (size : Int) (exts : List Ext) (er : Rt) (target : Str)
def Node.kind : Node → Int | .mk k _ _ _ _ _ _ _ _ => k
def Node.opq : Node → Bool | .mk _ o _ _ _ _ _ _ _ => o
def Node.names : Node → Ss | .mk _ _ n _ _ _ _ _ _ => n
def Node.items : Node → List Node | .mk _ _ _ i _ _ _ _ _ => i
def Node.ir : Node → Rt | .mk _ _ _ _ r _ _ _ _ => r
def Node.size : Node → Int | .mk _ _ _ _ _ s _ _ _ => s
def Node.exts : Node → List Ext | .mk _ _ _ _ _ _ e _ _ => e
def Node.er : Node → Rt | .mk _ _ _ _ _ _ _ r _ => r
def Node.target : Node → Str | .mk _ _ _ _ _ _ _ _ t => t
mutual
def Node.c : Node → List AV
  | .mk k o ns its ir sz es er t => [.int .i64 k, .bool o, ns.v, .vs 7 (Node.cs its) ir.strip, .int .i64 sz, .vs 2 (es.map Ext.c) er.strip, .str t]
def Node.cs : List Node → List (List AV)
  | [] => []
  | n :: l => n.c :: Node.cs l
end
theorem Node.cs_eq : ∀ l : List Node, Node.cs l = l.map Node.c
  | [] => rfl
  | n :: l => by rw [Node.cs, List.map_cons, Node.cs_eq l]
theorem Node.c_eq (n : Node) : n.c = [.int .i64 n.kind, .bool n.opq, n.names.v, .vs 7 (n.items.map Node.c) n.ir.strip, .int .i64 n.size, .vs 2 (n.exts.map Ext.c) n.er.strip, .str n.target] := by
  cases n
  rw [Node.c, Node.cs_eq]
  rfl
def I64 (n : Int) : Prop := -9223372036854775808 ≤ n ∧ n ≤ 9223372036854775807
mutual
def Node.ok : Node → Prop
  | .mk k _ ns its ir sz es er t => I64 k ∧ ns.ok ∧ ((ir.strip = .nil → its = []) ∧ its.length ≤ 1048576) ∧ Node.oks its ∧ I64 sz ∧ ((er.strip = .nil → es = []) ∧ es.length ≤ 1048576 ∧ ∀ e ∈ es, e.ok) ∧ t.length ≤ 1048576
def Node.oks : List Node → Prop
  | [] => True
  | n :: l => n.ok ∧ Node.oks l
end
theorem Node.oks_iff : ∀ l : List Node, Node.oks l ↔ ∀ n ∈ l, n.ok
  | [] => by simp [Node.oks]
  | n :: l => by rw [Node.oks, Node.oks_iff l]; simp
theorem Node.ok_iff (n : Node) : n.ok ↔ I64 n.kind ∧ n.names.ok ∧ ((n.ir.strip = .nil → n.items = []) ∧ n.items.length ≤ 1048576) ∧ (∀ x ∈ n.items, x.ok) ∧ I64 n.size ∧ ((n.er.strip = .nil → n.exts = []) ∧ n.exts.length ≤ 1048576 ∧ ∀ e ∈ n.exts, e.ok) ∧ n.target.length ≤ 1048576 := by
  cases n
  rw [Node.ok, Node.oks_iff]
  rfl
/-- By what is in a node. -/
theorem Node.ind {p : Node → Prop} (h : ∀ n, (∀ x ∈ n.items, p x) → p n) (n : Node) : p n :=
  Node.rec (motive_1 := p) (motive_2 := fun l => ∀ x ∈ l, p x) (fun k o ns its ir sz es er t ih => h _ ih) (by simp) (fun n l h1 h2 x hx => by
    rcases List.mem_cons.1 hx with rfl | hx
    · exact h1
    · exact h2 x hx) n
set_option maxRecDepth 100000 in
theorem dec_Node_aux {t : TypeId} {cs : List AV} (h : TT t cs) : (t = t_api_Node → ∃ n : Node, cs = n.c ∧ n.ok) ∧
    (t = t_s_api_Node → ∃ (l : List Node) (r : Rt), cs = [.vs 7 (l.map Node.c) r] ∧ inR r l ∧ l.length ≤ 1048576 ∧ ∀ n ∈ l, n.ok) := by
  induction h with
  | bool b h => exact ⟨fun e => (by subst e; rw [un_api_Node] at h; cases h), fun e => (by subst e; rw [un_s_api_Node] at h; cases h)⟩
  | int n h hw => exact ⟨fun e => (by subst e; rw [un_api_Node] at h; cases h), fun e => (by subst e; rw [un_s_api_Node] at h; cases h)⟩
  | str l h hl => exact ⟨fun e => (by subst e; rw [un_api_Node] at h; cases h), fun e => (by subst e; rw [un_s_api_Node] at h; cases h)⟩
  | nil h => exact ⟨fun e => (by subst e; rw [un_api_Node] at h; cases h), fun e => (by
      subst e
      rw [un_s_api_Node] at h
      cases h
      exact ⟨[], .nil, by rw [ce_api_Node]; rfl, .inl ⟨rfl, rfl⟩, by simp, by simp⟩)⟩
  | slice es h hl he ih => exact ⟨fun e => (by subst e; rw [un_api_Node] at h; cases h), fun e => (by
      subst e
      rw [un_s_api_Node] at h
      cases h
      have : ∃ l : List Node, es = l.map Node.c ∧ ∀ n ∈ l, n.ok := by
        clear hl
        induction es with
        | nil => exact ⟨[], rfl, by simp⟩
        | cons y es ih2 =>
          obtain ⟨l, e1, e2⟩ := ih2 (fun z hz => he z (by simp [hz])) (fun z hz => ih z (by simp [hz]))
          obtain ⟨a, e3, e4⟩ := (ih y (by simp)).1 rfl
          exact ⟨a :: l, by simp [e1, e3], by simpa [e4] using e2⟩
      obtain ⟨l, rfl, hk⟩ := this
      exact ⟨l, .none, by rw [ce_api_Node], .inr rfl, by simpa using hl, hk⟩)⟩
  | array xs h hl hf ih => exact ⟨fun e => (by subst e; rw [un_api_Node] at h; cases h), fun e => (by subst e; rw [un_s_api_Node] at h; cases h)⟩
  | struct xs h hl hf ih =>
    refine ⟨fun e => ?_, fun e => (by subst e; rw [un_s_api_Node] at h; cases h)⟩
    subst e
    rw [un_api_Node] at h
    cases h
    rw [ce_api_Node] at hl
    match xs, hl with
    | [x0, x1, x2, x3, x4, x5, x6], _ =>
      obtain ⟨k, h0, hk⟩ := dec_int (hf _ (List.mem_cons_self)) un_int
      obtain ⟨o, h1⟩ := dec_bool (hf _ (List.mem_cons_of_mem _ List.mem_cons_self)) un_bool
      obtain ⟨ns, h2, hns⟩ := dec_Ss _ (hf _ (List.mem_cons_of_mem _ (List.mem_cons_of_mem _ List.mem_cons_self)))
      obtain ⟨its, ir, h3, hir, hil, hio⟩ := (ih _ (List.mem_cons_of_mem _ (List.mem_cons_of_mem _ (List.mem_cons_of_mem _ List.mem_cons_self)))).2 rfl
      obtain ⟨sz, h4, hsz⟩ := dec_int (hf _ (List.mem_cons_of_mem _ (List.mem_cons_of_mem _ (List.mem_cons_of_mem _ (List.mem_cons_of_mem _ List.mem_cons_self))))) un_int
      obtain ⟨es, er, h5, her, hel, heo⟩ := dec_slice (enc := Ext.c) (ok := Ext.ok) (hf _ (List.mem_cons_of_mem _ (List.mem_cons_of_mem _ (List.mem_cons_of_mem _ (List.mem_cons_of_mem _ (List.mem_cons_of_mem _ List.mem_cons_self)))))) un_s_api_Extent ce_api_Extent dec_Ext
      obtain ⟨t, h6, ht⟩ := dec_str (hf _ (List.mem_cons_of_mem _ (List.mem_cons_of_mem _ (List.mem_cons_of_mem _ (List.mem_cons_of_mem _ (List.mem_cons_of_mem _ (List.mem_cons_of_mem _ List.mem_cons_self))))))) un_string
      cases h0
      cases h1
      cases h2
      cases h3
      cases h4
      cases h5
      cases h6
      have e1 : ∀ {α : Type} {r : Rt} {l : List α}, inR r l → r.strip = r ∧ (r.strip = .nil → l = []) := fun {α r l} h => by
        rcases h with ⟨rfl, h⟩ | rfl
        · exact ⟨rfl, fun _ => h⟩
        · exact ⟨rfl, fun e => by cases e⟩
      obtain ⟨e2, e3⟩ := e1 hir
      obtain ⟨e4, e5⟩ := e1 her
      refine ⟨.mk k o ns its ir sz es er t, ?_, ?_⟩
      · rw [Node.c, Node.cs_eq, e2, e4]
      · rw [Node.ok, Node.oks_iff]
        exact ⟨hk, hns, ⟨e3, hil⟩, hio, hsz, ⟨e5, hel, heo⟩, ht⟩
theorem TyV.node {x : AV} (h : TV t_api_Node x) : ∃ n : Node, x = .agg n.c ∧ n.ok := by
  obtain ⟨xs, rfl, h2⟩ := h.agg (by simp [isAgg, un_api_Node])
  obtain ⟨n, rfl, hn⟩ := (dec_Node_aux h2).1 rfl
  exact ⟨n, rfl, hn⟩
end Go.Av
set_option linter.unusedVariables false
/-! Trees: what is right. -/
namespace Go.Av
/-- Names that rise. -/
def nchain : Option Str → List Str → Bool
  | _, [] => true
  | p, s :: l => nameR s && (match p with | none => true | some q => slt q s) && nchain (some s) l
theorem nchain_cons (p : Option Str) (s : Str) (l : List Str) : nchain p (s :: l) = (nameR s && (match p with | none => true | some q => slt q s) && nchain (some s) l) := by cases p <;> rfl
def namesB (n : Node) : Bool := nchain none n.names.l && decide (n.names.l.length = n.items.length)
/-- Nothing but what its kind has. -/
def zeroB (n : Node) : Bool :=
  (decide (n.kind = 2) || (!n.opq && decide (n.names.l.length = 0) && decide (n.items.length = 0))) && (decide (n.kind = 1) || (decide (n.size = 0) && decide (n.exts.length = 0))) && (decide (n.kind = 3) || decide (n.target = []))
def kindB (n : Node) : Bool :=
  if n.kind = 1 then extOk n.size n.exts else if n.kind = 3 then (splitP n.target).isSome && decide (n.target.length ≤ 256) else if n.kind = 4 then true else if n.kind = 2 then namesB n else false
def oneB (n : Node) : Bool := zeroB n && kindB n
mutual
def Node.count : Node → Nat
  | .mk _ _ _ its _ _ _ _ _ => 1 + Node.counts its
def Node.counts : List Node → Nat
  | [] => 0
  | n :: l => n.count + Node.counts l
end
mutual
def Node.depth : Node → Nat
  | .mk _ _ _ its _ _ _ _ _ => Node.depths its
def Node.depths : List Node → Nat
  | [] => 0
  | n :: l => max (n.depth + 1) (Node.depths l)
end
mutual
def Node.allB : Node → Bool
  | .mk k o ns its ir sz es er t => Node.allsB its && oneB (.mk k o ns its ir sz es er t)
def Node.allsB : List Node → Bool
  | [] => true
  | n :: l => n.allB && Node.allsB l
end
theorem Node.count_eq (n : Node) : n.count = 1 + Node.counts n.items := by cases n; rw [Node.count]; rfl
theorem Node.depth_eq (n : Node) : n.depth = Node.depths n.items := by cases n; rw [Node.depth]; rfl
theorem Node.all_eq (n : Node) : n.allB = (Node.allsB n.items && oneB n) := by cases n; rw [Node.allB]; rfl
theorem Node.counts_take {l : List Node} {i : Nat} {x : Node} (h : l[i]? = some x) : Node.counts (l.take (i + 1)) = Node.counts (l.take i) + x.count := by
  induction l generalizing i with
  | nil => simp at h
  | cons y l ih =>
    cases i with
    | zero => simp at h; subst h; simp [Node.counts]
    | succ i => simp at h; simp [Node.counts, ih h]; omega
theorem Node.counts_take_le (l : List Node) (i : Nat) : Node.counts (l.take i) ≤ Node.counts l := by
  induction l generalizing i with
  | nil => simp
  | cons y l ih =>
    cases i with
    | zero => simp [Node.counts]
    | succ i => simp [Node.counts]; exact ih i
theorem Node.depths_take {l : List Node} {i : Nat} {x : Node} (h : l[i]? = some x) : Node.depths (l.take (i + 1)) = max (Node.depths (l.take i)) (x.depth + 1) := by
  induction l generalizing i with
  | nil => simp at h
  | cons y l ih =>
    cases i with
    | zero => simp at h; subst h; simp [Node.depths]
    | succ i => simp at h; simp [Node.depths, ih h]
theorem Node.depths_take_le (l : List Node) (i : Nat) : Node.depths (l.take i) ≤ Node.depths l := by
  induction l generalizing i with
  | nil => simp
  | cons y l ih =>
    cases i with
    | zero => simp [Node.depths]
    | succ i => simp [Node.depths]; have := ih i; omega
theorem Node.alls_drop {l : List Node} {i : Nat} {x : Node} (h : l[i]? = some x) : Node.allsB (l.drop i) = (x.allB && Node.allsB (l.drop (i + 1))) := by
  have hi := (List.getElem?_eq_some_iff.1 h).1
  rw [List.drop_eq_getElem_cons hi, Node.allsB, (List.getElem?_eq_some_iff.1 h).2]
/-- Can there be such a tree? -/
def rightB (n : Node) : Bool := decide (n.kind = 2) && (n.allB && (decide (n.count ≤ 4096) && decide (n.depth ≤ 15)))
mutual
/-- As the program goes: so deep, so many are left; how many then. -/
def Node.rgt : Node → Nat → Int → Bool × Int
  | .mk k o ns its ir sz es er t, d, left =>
    if left - 1 < 0 ∨ 15 < d ∨ zeroB (.mk k o ns its ir sz es er t) = false then (false, left - 1)
    else if k = 2 then (if namesB (.mk k o ns its ir sz es er t) = true then Node.rgts its (d + 1) (left - 1) else (false, left - 1))
    else (kindB (.mk k o ns its ir sz es er t), left - 1)
def Node.rgts : List Node → Nat → Int → Bool × Int
  | [], _, left => (true, left)
  | n :: l, d, left => if (n.rgt d left).1 = true then Node.rgts l d (n.rgt d left).2 else (false, (n.rgt d left).2)
end
theorem Node.rgt_eq (n : Node) (d : Nat) (left : Int) : n.rgt d left =
    if left - 1 < 0 ∨ 15 < d ∨ zeroB n = false then (false, left - 1)
    else if n.kind = 2 then (if namesB n = true then Node.rgts n.items (d + 1) (left - 1) else (false, left - 1))
    else (kindB n, left - 1) := by
  cases n
  rw [Node.rgt]
  rfl
theorem Node.rgts_drop {l : List Node} {i : Nat} {x : Node} (h : l[i]? = some x) (d : Nat) (left : Int) : Node.rgts (l.drop i) d left = if (x.rgt d left).1 = true then Node.rgts (l.drop (i + 1)) d (x.rgt d left).2 else (false, (x.rgt d left).2) := by
  have hi := (List.getElem?_eq_some_iff.1 h).1
  rw [List.drop_eq_getElem_cons hi, Node.rgts, (List.getElem?_eq_some_iff.1 h).2]
theorem zeroB_items {n : Node} (h : zeroB n = true) (h2 : n.kind ≠ 2) : n.items = [] := by
  simp [zeroB, h2] at h
  exact h.1.1.2
theorem Node.rgt_spec (n : Node) : ∀ (d : Nat) (left : Int), 0 ≤ left → (n.rgt d left).1 = (n.allB && (decide (d + n.depth ≤ 15) && decide (n.count ≤ left))) ∧ ((n.rgt d left).1 = true → (n.rgt d left).2 = left - n.count) ∧ -1 ≤ (n.rgt d left).2 ∧ (n.rgt d left).2 ≤ left := by
  induction n using Node.ind with
  | h n ih =>
    intro d left hleft
    rw [Node.rgt_eq, Node.all_eq, Node.count_eq, Node.depth_eq]
    by_cases c1 : left - 1 < 0
    · rw [if_pos (.inl c1)]
      refine ⟨?_, by simp, by simp; omega, by simp; omega⟩
      have : ¬ ((1 + Node.counts n.items : Nat) : Int) ≤ left := by omega
      rw [decide_eq_false this]
      simp
    by_cases c2 : 15 < d
    · rw [if_pos (.inr (.inl c2))]
      refine ⟨?_, by simp, by simp; omega, by simp; omega⟩
      have : ¬ d + Node.depths n.items ≤ 15 := by omega
      simp [this]
    cases c3 : zeroB n with
    | false =>
      rw [if_pos (by simp)]
      refine ⟨by simp [oneB, c3], by simp, by simp; omega, by simp; omega⟩
    | true =>
      rw [if_neg (by simp [c1, c2])]
      by_cases c4 : n.kind = 2
      · rw [if_pos c4]
        have hk : kindB n = namesB n := by simp [kindB, c4]
        cases c5 : namesB n with
        | false =>
          rw [if_neg (by simp)]
          exact ⟨by simp [oneB, hk, c5], by simp, by simp; omega, by simp; omega⟩
        | true =>
          rw [if_pos rfl]
          have ho : oneB n = true := by rw [oneB, c3, hk, c5]; rfl
          rw [ho]
          -- the entries
          have key : ∀ (l : List Node), (∀ x ∈ l, x ∈ n.items) → ∀ lf : Int, 0 ≤ lf → (Node.rgts l (d + 1) lf).1 = (Node.allsB l && (decide (d + Node.depths l ≤ 15) && decide ((Node.counts l : Int) ≤ lf))) ∧ ((Node.rgts l (d + 1) lf).1 = true → (Node.rgts l (d + 1) lf).2 = lf - Node.counts l) ∧ -1 ≤ (Node.rgts l (d + 1) lf).2 ∧ (Node.rgts l (d + 1) lf).2 ≤ lf := by
            intro l
            induction l with
            | nil =>
              intro _ lf hlf
              have : d ≤ 15 := by omega
              simp [Node.rgts, Node.allsB, Node.depths, Node.counts, this, hlf]
              omega
            | cons x l ihl =>
              intro hm lf hlf
              obtain ⟨q1, q2, q3, q4⟩ := ih x (hm x (by simp)) (d + 1) lf hlf
              rw [Node.rgts, Node.allsB, Node.depths, Node.counts]
              cases hx : (x.rgt (d + 1) lf).1 with
              | false =>
                rw [if_neg (by simp)]
                refine ⟨?_, by simp, q3, q4⟩
                rw [hx] at q1
                have q1 := q1.symm
                simp only [Bool.and_eq_false_iff, decide_eq_false_iff_not] at q1
                symm
                simp only [Bool.and_eq_false_iff, decide_eq_false_iff_not]
                rcases q1 with q1 | q1 | q1
                · left; left; exact q1
                · right; left; omega
                · right; right; omega
              | true =>
                rw [if_pos rfl]
                rw [hx] at q1
                have q1 := q1.symm
                simp only [Bool.and_eq_true, decide_eq_true_eq] at q1
                obtain ⟨p1, p2, p3⟩ := q1
                have q2 := q2 hx
                obtain ⟨r1, r2, r3, r4⟩ := ihl (fun y hy => hm y (List.mem_cons_of_mem _ hy)) (x.rgt (d + 1) lf).2 (by omega)
                refine ⟨?_, fun h => ?_, r3, by omega⟩
                · rw [r1, p1, q2]
                  have e1 : (d + Node.depths l ≤ 15) = (d + max (x.depth + 1) (Node.depths l) ≤ 15) := propext (by omega)
                  have e2 : ((Node.counts l : Int) ≤ lf - x.count) = (((x.count + Node.counts l : Nat) : Int) ≤ lf) := propext (by omega)
                  simp only [e1, e2, Bool.true_and]
                · rw [r2 h, q2]; omega
          obtain ⟨r1, r2, r3, r4⟩ := key n.items (fun x hx => hx) (left - 1) (by omega)
          refine ⟨?_, fun h => by rw [r2 h]; omega, r3, by omega⟩
          rw [r1]
          have e2 : ((Node.counts n.items : Int) ≤ left - 1) = (((1 + Node.counts n.items : Nat) : Int) ≤ left) := propext (by omega)
          simp only [e2, Bool.and_true]
      · rw [if_neg c4]
        have hit := zeroB_items c3 c4
        rw [hit]
        have e1 : d + Node.depths [] ≤ 15 := by simp [Node.depths]; omega
        have e2 : ((1 + Node.counts [] : Nat) : Int) ≤ left := by simp [Node.counts]; omega
        refine ⟨by simp only [oneB, c3, Node.allsB, e1, e2]; simp, fun _ => by simp [Node.counts], by simp; omega, by simp; omega⟩
theorem rightB_rgt (n : Node) : (decide (n.kind = 2) && (n.rgt 0 4096).1) = rightB n := by
  obtain ⟨h, _⟩ := n.rgt_spec 0 4096 (by omega)
  rw [h, rightB]
  have e : ((n.count : Int) ≤ 4096) = (n.count ≤ 4096) := propext (by omega)
  simp only [e, Nat.zero_add]
  cases n.allB <;> simp [Bool.and_comm]
end Go.Av
set_option linter.unusedVariables false
/-! Trees: one and the same; how much there is; what has a name. -/
namespace Go.Av
mutual
/-- Are two nodes one? -/
def Node.sameB : Node → Node → Bool
  | .mk k o ns its _ sz es _ t, b => decide (k = b.kind) && (decide (o = b.opq) && (decide (sz = b.size) && (decide (t = b.target) && (decide (ns.l = b.names.l) && (decide (es = b.exts) && Node.samesB its b.items)))))
def Node.samesB : List Node → List Node → Bool
  | [], m => decide (m.length = 0)
  | a :: l, m => match m with
    | [] => false
    | b :: m => a.sameB b && Node.samesB l m
end
theorem Node.same_eq (a b : Node) : a.sameB b = (decide (a.kind = b.kind) && (decide (a.opq = b.opq) && (decide (a.size = b.size) && (decide (a.target = b.target) && (decide (a.names.l = b.names.l) && (decide (a.exts = b.exts) && Node.samesB a.items b.items)))))) := by
  cases a
  rw [Node.sameB]
  rfl
@[simp] theorem Node.sames_nil (m : List Node) : Node.samesB [] m = decide (m.length = 0) := by rw [Node.samesB]
@[simp] theorem Node.sames_cons_nil (a : Node) (l : List Node) : Node.samesB (a :: l) [] = false := by rw [Node.samesB]
@[simp] theorem Node.sames_cons (a b : Node) (l m : List Node) : Node.samesB (a :: l) (b :: m) = (a.sameB b && Node.samesB l m) := by rw [Node.samesB]
theorem Node.sames_len : ∀ (l m : List Node), l.length ≠ m.length → Node.samesB l m = false
  | [], m, h => by
    simp
    intro e
    subst e
    exact h rfl
  | a :: l, [], h => by simp
  | a :: l, b :: m, h => by
    rw [Node.sames_cons, Node.sames_len l m (by simpa using h), Bool.and_false]
theorem Node.sames_drop {l m : List Node} {i : Nat} {x y : Node} (h : l[i]? = some x) (k : m[i]? = some y) : Node.samesB (l.drop i) (m.drop i) = (x.sameB y && Node.samesB (l.drop (i + 1)) (m.drop (i + 1))) := by
  have hi := (List.getElem?_eq_some_iff.1 h).1
  have ki := (List.getElem?_eq_some_iff.1 k).1
  rw [List.drop_eq_getElem_cons hi, List.drop_eq_getElem_cons ki, Node.sames_cons, (List.getElem?_eq_some_iff.1 h).2, (List.getElem?_eq_some_iff.1 k).2]
theorem Node.same_refl (n : Node) : n.sameB n = true := by
  induction n using Node.ind with
  | h n ih =>
    rw [Node.same_eq]
    have : ∀ l : List Node, (∀ x ∈ l, x.sameB x = true) → Node.samesB l l = true := by
      intro l
      induction l with
      | nil => simp
      | cons x l ihl => intro h; rw [Node.sames_cons, h x (by simp), ihl fun y hy => h y (by simp [hy])]; rfl
    rw [this _ ih]
    simp
mutual
/-- How much there is in a node: nodes and bytes. -/
def Node.weight : Node → Nat
  | .mk _ _ ns its _ _ es _ t => 1 + ns.l.length + es.length + (es.map fun x => x.data.length).sum + t.length + Node.weights its
def Node.weights : List Node → Nat
  | [] => 0
  | n :: l => n.weight + Node.weights l
end
def Node.own (n : Node) : Nat := 1 + n.names.l.length + n.exts.length + (n.exts.map fun x => x.data.length).sum + n.target.length
theorem Node.weight_eq (n : Node) : n.weight = n.own + Node.weights n.items := by cases n; rw [Node.weight]; rfl
theorem Node.weights_mem {l : List Node} {x : Node} (h : x ∈ l) : x.weight ≤ Node.weights l := by
  induction l with
  | nil => cases h
  | cons y l ih =>
    rw [Node.weights]
    rcases List.mem_cons.1 h with rfl | h
    · omega
    · have := ih h; omega
theorem Node.count_weight (n : Node) : n.count ≤ n.weight := by
  induction n using Node.ind with
  | h n ih =>
    rw [Node.count_eq, Node.weight_eq]
    have : ∀ l : List Node, (∀ x ∈ l, x.count ≤ x.weight) → Node.counts l ≤ Node.weights l := by
      intro l
      induction l with
      | nil => simp [Node.counts, Node.weights]
      | cons x l ihl =>
        intro h
        rw [Node.counts, Node.weights]
        have := h x (by simp)
        have := ihl fun y hy => h y (by simp [hy])
        omega
    have := this _ ih
    unfold Node.own
    omega
theorem Node.counts_weights : ∀ l : List Node, Node.counts l ≤ Node.weights l
  | [] => by simp [Node.counts, Node.weights]
  | n :: l => by rw [Node.counts, Node.weights]; have := n.count_weight; have := Node.counts_weights l; omega
mutual
/-- As the law looks: so deep, so much is left. -/
def Node.sml : Node → Int → Int → Bool × Int
  | .mk k o ns its ir sz es er t, d, left =>
    if left - (Node.mk k o ns its ir sz es er t).own < 0 ∨ d < 0 then (false, left - (Node.mk k o ns its ir sz es er t).own) else Node.smls its (d - 1) (left - (Node.mk k o ns its ir sz es er t).own)
def Node.smls : List Node → Int → Int → Bool × Int
  | [], _, left => (true, left)
  | n :: l, d, left => if (n.sml d left).1 = true then Node.smls l d (n.sml d left).2 else (false, (n.sml d left).2)
end
theorem Node.sml_eq (n : Node) (d left : Int) : n.sml d left = if left - n.own < 0 ∨ d < 0 then (false, left - n.own) else Node.smls n.items (d - 1) (left - n.own) := by
  cases n
  rw [Node.sml]
  rfl
theorem Node.smls_drop {l : List Node} {i : Nat} {x : Node} (h : l[i]? = some x) (d left : Int) : Node.smls (l.drop i) d left = if (x.sml d left).1 = true then Node.smls (l.drop (i + 1)) d (x.sml d left).2 else (false, (x.sml d left).2) := by
  have hi := (List.getElem?_eq_some_iff.1 h).1
  rw [List.drop_eq_getElem_cons hi, Node.smls, (List.getElem?_eq_some_iff.1 h).2]
theorem Node.sml_spec (n : Node) : ∀ (d left : Int), 0 ≤ left → (n.sml d left).1 = true → (n.sml d left).2 = left - n.weight ∧ 0 ≤ (n.sml d left).2 ∧ (n.depth : Int) ≤ d := by
  induction n using Node.ind with
  | h n ih =>
    intro d left hleft h
    rw [Node.sml_eq] at h ⊢
    rw [Node.weight_eq, Node.depth_eq]
    split at h
    · cases h
    · rename_i c
      rw [if_neg c]
      have key : ∀ l : List Node, (∀ x ∈ l, x ∈ n.items) → ∀ lf : Int, 0 ≤ lf → (Node.smls l (d - 1) lf).1 = true → (Node.smls l (d - 1) lf).2 = lf - Node.weights l ∧ 0 ≤ (Node.smls l (d - 1) lf).2 ∧ (Node.depths l : Int) ≤ d := by
        intro l
        induction l with
        | nil => intro _ lf hlf _; simp [Node.smls, Node.weights, Node.depths]; omega
        | cons x l ihl =>
          intro hm lf hlf hh
          rw [Node.smls] at hh ⊢
          by_cases hx : (x.sml (d - 1) lf).1 = true
          · rw [if_pos hx] at hh ⊢
            obtain ⟨p1, p2, p3⟩ := ih x (hm x (by simp)) (d - 1) lf hlf hx
            obtain ⟨r1, r2, r3⟩ := ihl (fun y hy => hm y (List.mem_cons_of_mem _ hy)) _ p2 hh
            rw [Node.weights, Node.depths]
            refine ⟨by rw [r1, p1]; omega, r2, by omega⟩
          · rw [if_neg hx] at hh; cases hh
      obtain ⟨r1, r2, r3⟩ := key n.items (fun _ h => h) (left - n.own) (by omega) h
      exact ⟨by rw [r1]; omega, r2, by omega⟩
theorem Node.sml_le (n : Node) : ∀ (d left : Int), (n.sml d left).2 ≤ left := by
  induction n using Node.ind with
  | h n ih =>
    intro d left
    rw [Node.sml_eq]
    split
    · simp; omega
    · have key : ∀ l : List Node, (∀ x ∈ l, x ∈ n.items) → ∀ lf : Int, (Node.smls l (d - 1) lf).2 ≤ lf := by
        intro l
        induction l with
        | nil => intro _ lf; simp [Node.smls]
        | cons x l ihl =>
          intro hm lf
          have h1 := ih x (hm x (by simp)) (d - 1) lf
          rw [Node.smls]
          split
          · have := ihl (fun y hy => hm y (List.mem_cons_of_mem _ hy)) (x.sml (d - 1) lf).2; omega
          · exact h1
      have := key n.items (fun _ h => h) (left - n.own)
      omega
/-- Is it no more than is looked at? -/
def Node.small (n : Node) : Bool := (n.sml 30 400).1
theorem Node.small_spec {n : Node} (h : n.small = true) : n.weight ≤ 400 ∧ n.depth ≤ 30 := by
  obtain ⟨h1, h2, h3⟩ := n.sml_spec 30 400 (by omega) h
  omega
/-- Where a name stands. -/
def findN (l : List Str) (s : Str) : Option Nat := l.findIdx? (fun x => decide (x = s))
end Go.Av
