/- Parts of the proofs of this seat: abstract values over the model, and what the functions of the program do. No condition. -/
import Derived.Test.YtclomnkgpemnaaaDoorY05d
set_option linter.all false
set_option linter.unusedVariables false
namespace Go.Av
open Go.Proofs
theorem image_Decode_A {w0 : World} (hm : MaxL w0) {S : St} {s : Str} (hs : s.length ≤ 1048575) {Q : AV → St → Prop}
    (hq : ∀ S', Sx S S' → (∀ n, decS s = some n → n.ok → Q (.tup [.agg n.c, .int .i64 0]) S') ∧ (decS s = none → Q (.tup [.agg Node.none.c, .int .i64 1]) S')) : AC w0 F_image_Decode [.str s] S Q := by
  apply image_Decode_ok
  unfold G_image_Decode
  have hn0 : decS s = none → Q (.tup [.agg [.int .i64 0, .bool false, .vs 1 [] .nil, .vs 7 [] .nil, .int .i64 0, .vs 2 [] .nil, .str []], .int .i64 1]) S := fun h => by
    have := (hq S (Sx.refl _)).2 h
    rwa [Node.none_c] at this
  by_cases c1 : s.length < 7
  · have : decS s = none := by simp [decS, c1]
    simp [joinK_eq, show ¬ (4194304 < (s.length : Int)) by omega, show (s.length : Int) < 7 by omega]
    exact hn0 this
  by_cases c2 : s.take 7 = [115, 111, 99, 97, 103, 101, 49]
  case neg =>
    have : decS s = none := by simp [decS, c2]
    simp [joinK_eq, show ¬ (4194304 < (s.length : Int)) by omega, show ¬ (s.length : Int) < 7 by omega, show 7 ≤ s.length by omega, c2]
    exact hn0 this
  simp [joinK_eq, show ¬ (4194304 < (s.length : Int)) by omega, show ¬ (s.length : Int) < 7 by omega, show 7 ≤ s.length by omega, c2]
  apply wire_Read_ok
  unfold G_wire_Read
  simp
  have hR : RdO (S ++ [Obj.cells [.str (s.drop 7)] t_wire_Reader, Obj.cells [.ptr S.length 0, .bool false, .int .i64 4096] t_image_reader]) (S.length + 1) S.length ⟨s.drop 7, false, 4096⟩ := ⟨by simp, by simp [rdC]⟩
  have hl : (s.drop 7).length ≤ 1048568 := by simp; omega
  have hI := RS.node_ok 16 ⟨s.drop 7, false, 4096⟩ hl (by simp)
  refine image_node_A 16 (b := S.length) (d := 0) (by omega) (by simp) hR (by omega) (by omega) hl (by simp) (by simp) (fun S2 hR2 hK2 => ?_)
  have hd : decS s = if (RS.node 16 ⟨s.drop 7, false, 4096⟩).2.bad = false ∧ (RS.node 16 ⟨s.drop 7, false, 4096⟩).2.s = [] ∧ rightB (RS.node 16 ⟨s.drop 7, false, 4096⟩).1 = true then some (RS.node 16 ⟨s.drop 7, false, 4096⟩).1 else none := by
    rw [decS, if_neg (by simp [c1, c2]; omega)]
  generalize RS.node 16 ⟨s.drop 7, false, 4096⟩ = r at hR2 hd hI ⊢
  have hSx : Sx S S2 := fun j hj => by
    rw [hK2 j hj, List.getElem?_append_left hj]
  have hno : ∀ S3, Sx S S3 → decS s = none → Q (.tup [.agg [.int .i64 0, .bool false, .vs 1 [] .nil, .vs 7 [] .nil, .int .i64 0, .vs 2 [] .nil, .str []], .int .i64 1]) S3 := fun S3 h3 h => by
    have := (hq S3 h3).2 h
    rwa [Node.none_c] at this
  simp [loadA_ptr hR2.1]
  cases hb : r.2.bad with
  | true =>
    simp
    exact hno S2 hSx (by rw [hd, hb]; simp)
  | false =>
    simp
    have hR3 : S2[S.length]? = some (.cells [.str r.2.s] t_wire_Reader) := hR2.2
    apply wire_Reader_Left_ok
    unfold G_wire_Reader_Left
    simp [loadA_ptr hR3]
    by_cases c3 : r.2.s = []
    case neg =>
      have := List.length_pos_iff.2 c3
      simp [show (0 : Int) < r.2.s.length by omega, this]
      exact hno S2 hSx (by rw [hd]; simp [c3])
    simp [c3]
    refine tree_Right_A hm hI.ok (fun S3 hS3 => ?_)
    cases hr : rightB r.1 with
    | false =>
      simp
      exact hno S3 (hSx.trans hS3) (by rw [hd]; simp [hr])
    | true =>
      simp
      exact (hq S3 (hSx.trans hS3)).1 r.1 (by rw [hd, hb]; simp [hr, c3]) hI.ok
end Go.Av
set_option linter.unusedVariables false
namespace Go.Av
theorem idsOf_get : ∀ {l : List Node} {k : Nat} {x : Node} (b : Nat), l[k]? = some x → (Node.idsOf l b)[k]? = some (b + Node.counts (l.take k))
  | [], k, x, b, h => by simp at h
  | y :: l, 0, x, b, h => by simp [Node.idsOf, Node.counts]
  | y :: l, k + 1, x, b, h => by
    simp at h
    have := idsOf_get (b + y.count) h
    simp only [Node.idsOf, List.getElem?_cons_succ, List.take_succ_cons, Node.counts, this]
    rw [Nat.add_assoc]
theorem inoAt_nat (P : List InoP) (i : Nat) : inoAt P (i : Int) = (P[i]?).getD InoP.none := by
  have : ¬ ((i : Int) < 0) := by omega
  simp [inoAt, this]
structure Less (f g : Fnd) : Prop where
  kind : f.kind = g.kind
  dirs : f.dirs.length = g.dirs.length
  sp : f.kind ≠ 0 → f.sp = (g.sp.1 + 1, g.sp.2)
end Go.Av
set_option linter.unusedVariables false
namespace Go.Av
def At (P : List InoP) (i : Nat) (n : Node) : Prop := ∀ j, j < n.count → P[i + j]? = (n.tab i)[j]?
theorem tabs_seg : ∀ {l : List Node} {k : Nat} {x : Node} (b : Nat), l[k]? = some x → ∀ j, j < x.count → (Node.tabs l b)[Node.counts (l.take k) + j]? = (x.tab (b + Node.counts (l.take k)))[j]?
  | [], k, x, b, h, _, _ => by simp at h
  | y :: l, 0, x, b, h, j, hj => by
    simp at h
    subst h
    rw [Node.tabs_cons]
    simp only [List.take_zero, Node.counts, Nat.zero_add, Nat.add_zero]
    rw [List.getElem?_append_left (by rw [Node.tab_len]; exact hj)]
  | y :: l, k + 1, x, b, h, j, hj => by
    simp at h
    have := tabs_seg (b + y.count) h j hj
    rw [Node.tabs_cons, List.take_succ_cons, Node.counts, List.getElem?_append_right (by rw [Node.tab_len]; omega), Node.tab_len, show y.count + Node.counts (l.take k) + j - y.count = Node.counts (l.take k) + j by omega, this, Nat.add_assoc]
theorem At.hd {P : List InoP} {i : Nat} {n : Node} (h : At P i n) : P[i]? = some (n.hd i) := by
  have := h 0 (by rw [Node.count_eq]; omega)
  rw [Node.tab_eq] at this
  simpa using this
theorem At.ino {P : List InoP} {i : Nat} {n : Node} (h : At P i n) : inoAt P (i : Nat) = n.hd i := by rw [inoAt_nat, h.hd]; rfl
theorem At.root (n : Node) : At (n.tab 0) 0 n := fun j _ => by rw [Nat.zero_add]
theorem At.kid {P : List InoP} {i : Nat} {n : Node} (h : At P i n) {k : Nat} {x : Node} (hk : n.items[k]? = some x) : At P (i + 1 + Node.counts (n.items.take k)) x := fun j hj => by
  have h1 := tabs_seg (i + 1) hk j hj
  have h2 : Node.counts (n.items.take k) + x.count ≤ Node.counts n.items := by
    have : ∀ (l : List Node) (k : Nat), l[k]? = some x → Node.counts (l.take k) + x.count ≤ Node.counts l := by
      intro l
      induction l with
      | nil => intro k h; simp at h
      | cons y l ih =>
        intro k h
        cases k with
        | zero => simp at h; subst h; simp [Node.counts]
        | succ k => simp at h; have := ih k h; simp only [List.take_succ_cons, Node.counts]; omega
    exact this _ _ hk
  have h3 := h (1 + (Node.counts (n.items.take k) + j)) (by rw [Node.count_eq]; omega)
  rw [Node.tab_eq, Nat.add_comm 1, List.getElem?_cons_succ, h1] at h3
  rw [← h3]
  congr 1
  omega
theorem allB_lens {n : Node} (h : n.allB = true) : n.names.l.length = n.items.length := by
  rw [Node.all_eq] at h
  simp only [Bool.and_eq_true] at h
  obtain ⟨hz, hk⟩ := oneB_zero h.2
  by_cases k : n.kind = 2
  · have hn : namesB n = true := by simpa [kindB, k] using hk
    exact (namesB_iff hn).2
  · have hi := zeroB_items hz k
    have hnm : n.names.l = [] := by simp [zeroB, k] at hz; exact hz.1.1.1.2
    rw [hi, hnm]; rfl
theorem allB_item {n x : Node} (h : n.allB = true) (hx : x ∈ n.items) : x.allB = true := by
  rw [Node.all_eq] at h
  simp only [Bool.and_eq_true] at h
  exact alls_mem h.1 x hx
def Stands (L : List (List InoP)) (x : Spot) (n : Node) : Prop := ∃ P, L[x.1]? = some P ∧ At P x.2 n
def OnP (L : List (List InoP)) : List Spot → List Node → Prop
  | [], [] => True
  | x :: p, n :: l => Stands L x n ∧ OnP L p l
  | _, _ => False
end Go.Av
set_option linter.unusedVariables false
namespace Go.Av
mutual
def Node.pre : Node → List Node
  | .mk k o ns its ir sz es er t => .mk k o ns its ir sz es er t :: Node.pres its
def Node.pres : List Node → List Node
  | [] => []
  | n :: l => n.pre ++ Node.pres l
end
theorem Node.pre_eq (n : Node) : n.pre = n :: Node.pres n.items := by cases n; rw [Node.pre]; rfl
theorem Node.pres_nil : Node.pres [] = [] := by rw [Node.pres]
theorem Node.pres_cons (n : Node) (l : List Node) : Node.pres (n :: l) = n.pre ++ Node.pres l := by rw [Node.pres]
theorem Node.pre_len (n : Node) : n.pre.length = n.count := by
  induction n using Node.ind with
  | h n ih =>
    have : ∀ (l : List Node), (∀ x ∈ l, x.pre.length = x.count) → (Node.pres l).length = Node.counts l := by
      intro l
      induction l with
      | nil => intro _; rw [Node.pres_nil]; simp [Node.counts]
      | cons x l ihl => intro h; rw [Node.pres_cons, List.length_append, h x (by simp), ihl (fun y hy => h y (by simp [hy])), Node.counts]
    rw [Node.pre_eq, List.length_cons, this _ ih, Node.count_eq]
    omega
theorem pres_get : ∀ {l : List Node} {m : Nat} {x : Node}, (Node.pres l)[m]? = some x → ∃ j c k, l[j]? = some c ∧ m = Node.counts (l.take j) + k ∧ c.pre[k]? = some x
  | [], m, x, h => by rw [Node.pres_nil] at h; simp at h
  | y :: l, m, x, h => by
    rw [Node.pres_cons] at h
    by_cases c : m < y.pre.length
    · rw [List.getElem?_append_left c] at h
      exact ⟨0, y, m, rfl, by simp [Node.counts], h⟩
    · rw [List.getElem?_append_right (by omega)] at h
      obtain ⟨j, d, k, h1, h2, h3⟩ := pres_get h
      rw [Node.pre_len] at h2 c
      exact ⟨j + 1, d, k, by simpa using h1, by simp only [List.take_succ_cons, Node.counts]; omega, h3⟩
theorem At.pre {P : List InoP} (n : Node) : ∀ {i k : Nat} {x : Node}, At P i n → n.pre[k]? = some x → At P (i + k) x := by
  induction n using Node.ind with
  | h n ih =>
    intro i k x h hk
    rw [Node.pre_eq] at hk
    cases k with
    | zero => simp at hk; subst hk; exact h
    | succ k =>
      simp only [List.getElem?_cons_succ] at hk
      obtain ⟨j, c, m, h1, h2, h3⟩ := pres_get hk
      have := ih c (List.mem_of_getElem? h1) (h.kid h1) h3
      rw [h2, show i + (Node.counts (n.items.take j) + m + 1) = i + 1 + Node.counts (n.items.take j) + m by omega]
      exact this
theorem pre_all (n : Node) : n.allB = true → ∀ x ∈ n.pre, x.allB = true := by
  induction n using Node.ind with
  | h n ih =>
    intro h x hx
    rw [Node.pre_eq] at hx
    rcases List.mem_cons.1 hx with rfl | hx
    · exact h
    · obtain ⟨m, hm⟩ := List.getElem?_of_mem hx
      obtain ⟨j, c, k, h1, h2, h3⟩ := pres_get hm
      have hc := List.mem_of_getElem? h1
      exact ih c hc (allB_item h hc) x (List.mem_of_getElem? h3)
theorem pre_ok (n : Node) : n.ok → ∀ x ∈ n.pre, x.ok := by
  induction n using Node.ind with
  | h n ih =>
    intro h x hx
    rw [Node.pre_eq] at hx
    rcases List.mem_cons.1 hx with rfl | hx
    · exact h
    · obtain ⟨m, hm⟩ := List.getElem?_of_mem hx
      obtain ⟨j, c, k, h1, h2, h3⟩ := pres_get hm
      have hc := List.mem_of_getElem? h1
      exact ih c hc (((Node.ok_iff n).1 h).2.2.2.1 c hc) x (List.mem_of_getElem? h3)
theorem At.number {P : List InoP} {i : Nat} {n : Node} (h : At P i n) (ha : n.allB = true) (s : Str) :
    lookP (inoAt P (i : Nat)) s = (n.names.l.findIdx? (fun x => decide (x = s))).map fun k => i + 1 + Node.counts (n.items.take k) := by
  rw [h.ino]
  unfold lookP
  have hl := allB_lens ha
  simp only [Node.hd]
  cases hk : n.names.l.findIdx? (fun x => decide (x = s)) with
  | none => rfl
  | some k =>
    have hlt := (List.findIdx?_eq_some_iff_getElem.1 hk).1
    have hx : n.items[k]? = some n.items[k] := List.getElem?_eq_getElem (by omega)
    simp only [Option.bind_some, Option.map_some]
    exact idsOf_get _ hx
end Go.Av
