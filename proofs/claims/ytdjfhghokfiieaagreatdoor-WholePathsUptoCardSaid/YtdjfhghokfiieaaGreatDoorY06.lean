/- Parts of the proofs of this seat: abstract values over the model, and what the functions of the program do. No condition. -/
import Derived.Test.YtdjfhghokfiieaaGreatDoorX04L
import Derived.Test.YtdjfhghokfiieaaGreatDoorX05M
import Derived.Test.YtdjfhghokfiieaaGreatDoorXBld
set_option linter.all false
set_option linter.unusedVariables false
namespace Go.Av
mutual
def Node.pre : Node → List Node
  | .mk k o ns its ir sz es er t => .mk k o ns its ir sz es er t :: Node.pres its
def Node.pres : List Node → List Node
  | [] => []
  | n :: l => n.pre ++ Node.pres l
end
theorem Node.pre_eq (n : Node) : n.pre = n :: Node.pres n.items := by cases n; rw [Node.pre]; rfl
theorem Node.pres_nil : Node.pres [] = [] := by rw [Node.pres]
theorem Node.pres_cons (n : Node) (l : List Node) : Node.pres (n :: l) = n.pre ++ Node.pres l := by rw [Node.pres]
theorem Node.pre_len (n : Node) : n.pre.length = n.count := by
  induction n using Node.ind with
  | h n ih =>
    have : ∀ (l : List Node), (∀ x ∈ l, x.pre.length = x.count) → (Node.pres l).length = Node.counts l := by
      intro l
      induction l with
      | nil => intro _; rw [Node.pres_nil]; simp [Node.counts]
      | cons x l ihl => intro h; rw [Node.pres_cons, List.length_append, h x (by simp), ihl (fun y hy => h y (by simp [hy])), Node.counts]
    rw [Node.pre_eq, List.length_cons, this _ ih, Node.count_eq]
    omega
theorem pres_get : ∀ {l : List Node} {m : Nat} {x : Node}, (Node.pres l)[m]? = some x → ∃ j c k, l[j]? = some c ∧ m = Node.counts (l.take j) + k ∧ c.pre[k]? = some x
  | [], m, x, h => by rw [Node.pres_nil] at h; simp at h
  | y :: l, m, x, h => by
    rw [Node.pres_cons] at h
    by_cases c : m < y.pre.length
    · rw [List.getElem?_append_left c] at h
      exact ⟨0, y, m, rfl, by simp [Node.counts], h⟩
    · rw [List.getElem?_append_right (by omega)] at h
      obtain ⟨j, d, k, h1, h2, h3⟩ := pres_get h
      rw [Node.pre_len] at h2 c
      exact ⟨j + 1, d, k, by simpa using h1, by simp only [List.take_succ_cons, Node.counts]; omega, h3⟩
theorem At.pre {P : List InoP} (n : Node) : ∀ {i k : Nat} {x : Node}, At P i n → n.pre[k]? = some x → At P (i + k) x := by
  induction n using Node.ind with
  | h n ih =>
    intro i k x h hk
    rw [Node.pre_eq] at hk
    cases k with
    | zero => simp at hk; subst hk; exact h
    | succ k =>
      simp only [List.getElem?_cons_succ] at hk
      obtain ⟨j, c, m, h1, h2, h3⟩ := pres_get hk
      have := ih c (List.mem_of_getElem? h1) (h.kid h1) h3
      rw [h2, show i + (Node.counts (n.items.take j) + m + 1) = i + 1 + Node.counts (n.items.take j) + m by omega]
      exact this
end Go.Av
set_option linter.unusedVariables false
namespace Go.Av
open Go.Proofs
def fitP (x : InoP) : Prop := 0 ≤ x.size ∧ x.size ≤ 1048576 ∧ (∀ e ∈ x.exts, 0 ≤ e.off ∧ e.off + e.data.length ≤ 1048576) ∧ x.exts.length ≤ 1000000000
theorem allB_fit {n : Node} (hok : n.ok) (h : n.allB = true) (b : Nat) : fitP (n.hd b) := by
  have hx : n.exts.length ≤ 1000000000 := by
    have := ((Node.ok_iff n).1 hok).2.2.2.2.2.1.2.1
    omega
  rw [Node.all_eq] at h
  simp only [Bool.and_eq_true] at h
  obtain ⟨hz, hk⟩ := oneB_zero h.2
  by_cases k : n.kind = 1
  · have he : extOk n.size n.exts = true := by simpa [kindB, k] using hk
    obtain ⟨h1, h2, h3⟩ := extOk_in he
    exact ⟨h1, h2, h3, hx⟩
  · simp [zeroB, k] at hz
    have h1 : n.size = 0 := hz.1.2.1
    have h2 : n.exts = [] := hz.1.2.2
    exact ⟨by simp [Node.hd, h1], by simp [Node.hd, h1], by simp [Node.hd, h2], by simp [Node.hd, h2]⟩
theorem branch_Read_A {w0 : World} {S : St} {id : Nat} {P : List InoP} {i off n : Int} (hB : Br S id P) (hf : fitP (inoAt P i)) {Q : AV → St → Prop} (hq : ∀ S', Sx S S' → Q (.str (readP (inoAt P i).size (inoAt P i).exts off n)) S') :
    AC w0 F_branch_Branch_Read [.ptr id 0, .int .i64 i, .int .i64 off, .int .i64 n] S Q := by
  apply branch_Branch_Read_ok
  unfold G_branch_Branch_Read
  refine branch_at_A hB (fun _ _ _ => ?_)
  simp [Ino.c]
  obtain ⟨f1, f2, f3, f4⟩ := hf
  exact extent_Read_A f3 (by omega) ⟨f1, f2⟩ hq
end Go.Av
