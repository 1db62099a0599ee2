/- A part of the proof of a law of this seat: From what a law does abstractly to its row. No condition. -/
import Derived.Test.YtcmiahkfbnojnaaA32
import Derived.Carry
import Derived.OpenShut
import Derived.ProofKit
import Derived.RowKit
set_option linter.all false
set_option linter.unusedVariables false
set_option linter.unusedSimpArgs false
/-! From what a law does abstractly to its row. -/
namespace Go.Av
open Go.RowKit Go.ChangeShapes Go.WideShapes Go.ChangeAt
section
variable {H : Type} {enc : TypeId × Value → H}

theorem trodAll_stays {P : Program} {W W' : World} (hl : laidOutB P = true) (hb : Below W.heap.size W W') : ∀ (ts : List TypeId) (vs : List Value) (ds : List (DataW H)) (ps : List MemPlace),
    (∀ t ∈ ts, P.readableRec t = true ∧ t < P.types.size) → DataW.TrodAll enc P W 0 (fun _ => true) true ts vs ds ps → (∀ x ∈ ps, x.block < W.heap.size) →
    DataW.TrodAll enc P W' 0 (fun b => decide (b < W.heap.size)) true ts vs ds ps
  | [], [], [], _, _, h, _ => h
  | t :: ts, v :: vs, d :: ds, _, hT, ⟨p, q, h1, h2, e⟩, hlt =>
    ⟨p, q, Below.trod hl (hT t List.mem_cons_self).1 (hT t List.mem_cons_self).2 h1 hb (fun x hx => hlt x (e ▸ List.mem_append_left _ hx)),
      trodAll_stays hl hb ts vs ds q (fun t ht => hT t (List.mem_cons_of_mem _ ht)) h2 (fun x hx => hlt x (e ▸ List.mem_append_right _ hx)), e⟩

theorem law_contract {E : Env} {f : FuncId} {fn : Func} {s : ChangeSpec} {base : Nat} {args : Array Value} {ds gs : List (DataW H)} {before : List MemPlace} {L : List TypeId} {tb : TypeId}
    (hl : laidOutB E.P = true) (hL : L.all (plainTy E.P L) = true) (hT : (fn.params.toList.all fun t => L.contains t && E.P.readableRec t && decide (t < E.P.types.size)) = true)
    (hres : fn.resultTypes = #[tb]) (htb : E.P.underlying tb = some .bool) (hvars : s.vars = [])
    (hfn : ∀ ds : List (DataW H), ds.length = fn.params.size → (s.fn H ds).results = [.lit (.bool true)] ∧ (s.fn H ds).args = ds ∧ (s.fn H ds).vars = [])
    (hlaw : ∀ xs : List AV, xs.length = fn.params.size → (∀ (j : Nat) (t : TypeId) (x : AV), fn.params[j]? = some t → xs[j]? = some x → TyV E.P t x) → ACalls E f xs [] fun r _ => r = .bool true)
    (hval : ∀ (j : Nat) t v, fn.params[j]? = some t → args[j]? = some v → Value.okWide E.P E.w0 .any base t v)
    (hW : DataW.Whole enc E.P fn.params.toList s.vars false E.w0 args.toList ds gs before) :
    Calls E.P f args E.w0 fun e W' => ∃ v, e = .returned v ∧ s.post enc E.P fn false true false false E.w0 args v W' := by
  have hW' := hW
  have hlt := fun x hx => hW'.lt x hx
  obtain ⟨p, q, hA, hV, rfl, _, _⟩ := hW
  rw [hvars] at hV
  obtain ⟨rfl, rfl⟩ := trodVars_none hV
  simp only [List.append_nil] at hlt
  have hT' : ∀ t ∈ fn.params.toList, t ∈ L ∧ E.P.readableRec t = true ∧ t < E.P.types.size := fun t ht => by
    have := List.all_eq_true.1 hT t ht
    simp only [Bool.and_eq_true, List.contains_iff_mem, decide_eq_true_eq] at this
    exact ⟨this.1.1, this.1.2, this.2⟩
  obtain ⟨xs, e1, e2, e3, e4, e5⟩ := args_ty hL fn.params.toList args.toList ds p (fun t ht => (hT' t ht).1) hA (fun j t v h h' => hval j t v (by simpa using h) (by simpa using h'))
  have hn : args.toList.length = fn.params.size := by rw [← e2]; simp
  refine (law_calls (hlaw xs (by omega) (fun j t x h h' => e4 j t x (by simpa using h) h')) (args' := args) (by rw [e1]; simp) (fun i x v hx hv => e5 i x v hx (by simpa using hv))).mono ?_
  rintro e W' ⟨rfl, bel⟩
  obtain ⟨h1, h2, h3⟩ := hfn ds (by omega)
  refine ⟨_, rfl, ds, [], _, [], p, [], hW', ?_, ?_, ?_, bel.frame _, fun h => by cases h⟩
  · rw [List.append_nil, h1, hres]
    exact trodAll_mk1 (shut_bool htb _)
  · rw [List.append_nil, h2]
    exact trodAll_stays hl bel _ _ _ _ (fun t ht => (hT' t ht).2) hA hlt
  · rw [List.append_nil, h3, hvars]
    rfl
end
end Go.Av
