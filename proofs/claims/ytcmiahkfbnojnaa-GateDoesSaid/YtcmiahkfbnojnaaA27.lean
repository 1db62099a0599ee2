/- A part of the proof of a law of this seat: Drawn regions: what stands for them, sound. No condition. -/
import Derived.Test.YtcmiahkfbnojnaaA26
import Derived.Test.YtcmiahkfbnojnaaA18
set_option linter.all false
set_option linter.unusedVariables false
set_option linter.unusedSimpArgs false
/-! Drawn regions: what stands for them, sound. -/
namespace Go.Av
section order
variable (C : Ctx) (f : Nat) (ops : Array Oper)
def clsOf (o : Oper) : Nat :=
  match dD C f ops o with
  | true => (match (SW C ops o).all (fun t => o.dst.toList.elem t) && (SB C f ops o).all (fun t => o.dst.toList.elem t) with | true => 0 | false => 1)
  | false => 2
/-- Index, what stands ahead of it, kind. -/
def entries (T : List Nat) : Nat → List Oper → List (Nat × Nat × Nat)
  | _, [] => []
  | i, o :: l => (i, T.getD i 0, clsOf C f ops o) :: entries T (i + 1) l
def isReady (done : Nat) (c : Nat) (e : Nat × Nat × Nat) : Bool := Nat.ble e.2.2 c && Nat.beq (Nat.land e.2.1 done) e.2.1
def orderGo : Nat → Nat → List (Nat × Nat × Nat) → List Nat
  | 0, _, _ => []
  | n + 1, done, es => match (es.find? (isReady done 0)).orElse fun _ => (es.find? (isReady done 1)).orElse fun _ => es.find? (isReady done 2) with
    | some e => e.1 :: orderGo n (done ||| (1 <<< e.1)) (es.filter fun x => !(Nat.beq x.1 e.1))
    | none => []
def chkT (T : List Nat) : List Oper → List Nat → Bool
  | [], [] => true
  | o :: l, m :: ms => Nat.beq m (depMask T o.after.toList) && chkT T l ms
  | _, _ => false
def bwd : Nat → List Oper → Bool
  | _, [] => true
  | i, o :: l => (o.after.toList.all fun e => !(Region.binds .any e) || Nat.blt e.on i) && bwd (i + 1) l
def drOk (T order : List Nat) : Bool :=
  Nat.beq order.length ops.size && (List.range ops.size).all (fun i => order.elem i) && nodupB order && order.all (fun i => Nat.blt i ops.size) && nodupB (ops.toList.flatMap fun o => o.dst.toList) && chkT T ops.toList T && bwd 0 ops.toList && chkOrder C f ops T order
end order
section
variable {C : Ctx} {Ca : Nat → List AV → St → (AV → St → Prop) → Prop} {f : Nat} {ops : Array Oper} {fr g : Fr} {S : St} {K : Fr → St → Prop} {B B2 : List Oper} {T order : List Nat}

theorem nodupB_iff : ∀ {l : List Nat}, nodupB l = true → l.Nodup
  | [], _ => List.nodup_nil
  | x :: l, h => by
    simp only [nodupB, Bool.and_eq_true, Bool.not_eq_true'] at h
    refine List.nodup_cons.2 ⟨fun e => ?_, nodupB_iff h.2⟩
    have := h.1
    simp at this
    exact this e
theorem uniq_of (h : nodupB (ops.toList.flatMap fun o => o.dst.toList) = true) : uniq ops := by
  have hn := nodupB_iff h
  intro i j o o' d hi hj e e'
  have hi' : ops.toList[i]? = some o := by simpa using hi
  have hj' : ops.toList[j]? = some o' := by simpa using hj
  clear h hi hj
  generalize ops.toList = l at hn hi' hj'
  induction l generalizing i j with
  | nil => simp at hi'
  | cons a l ih =>
    simp only [List.flatMap_cons, List.nodup_append] at hn
    cases i with
    | zero =>
      cases j with
      | zero => rfl
      | succ j =>
        simp at hi' hj'
        subst hi'
        exact (hn.2.2 d (by rw [e]; simp) d (List.mem_flatMap.2 ⟨o', List.mem_of_getElem? hj', by rw [e']; simp⟩) rfl).elim
    | succ i =>
      cases j with
      | zero =>
        simp at hi' hj'
        subst hj'
        exact (hn.2.2 d (by rw [e']; simp) d (List.mem_flatMap.2 ⟨o, List.mem_of_getElem? hi', by rw [e]; simp⟩) rfl).elim
      | succ j =>
        simp at hi' hj'
        rw [ih i j hn.2.1 hi' hj']
theorem chkT_get : ∀ {l : List Oper} {ms : List Nat}, chkT T l ms = true → ∀ (i : Nat) (o : Oper), l[i]? = some o → ms.getD i 0 = depMask T o.after.toList
  | [], [], _, i, o, h => by simp at h
  | a :: l, m :: ms, h, i, o, hi => by
    simp only [chkT, Bool.and_eq_true] at h
    cases i with
    | zero => simp at hi; subst hi; simpa using Nat.eq_of_beq_eq_true h.1
    | succ i => simpa using chkT_get h.2 i o (by simpa using hi)
  | [], _ :: _, h, _, _, _ => by simp [chkT] at h
  | _ :: _, [], h, _, _, _ => by simp [chkT] at h
theorem bwd_get : ∀ {l : List Oper} {k : Nat}, bwd k l = true → ∀ (i : Nat) (o : Oper), l[i]? = some o → ∀ e ∈ o.after.toList, Region.binds .any e = true → e.on < k + i
  | [], k, _, i, o, h => by simp at h
  | a :: l, k, h, i, o, hi => by
    simp only [bwd, Bool.and_eq_true] at h
    cases i with
    | zero =>
      simp at hi; subst hi
      intro e he hb
      have := List.all_eq_true.1 h.1 e he
      rw [hb] at this
      simpa using this
    | succ i =>
      have := bwd_get h.2 i o (by simpa using hi)
      intro e he hb
      have := this e he hb
      omega
theorem depMask_bit {x : Nat} : ∀ {es : List Edge}, Nat.testBit (depMask T es) x = true → ∃ e ∈ es, Region.binds .any e = true ∧ (x = e.on ∨ Nat.testBit (T.getD e.on 0) x = true)
  | [], h => by simp [depMask] at h
  | e :: es, h => by
    simp only [depMask, Nat.testBit_or, Bool.or_eq_true] at h
    rcases h with h | h
    · cases hb : Region.binds .any e with
      | true =>
        rw [hb] at h
        simp only [Nat.testBit_or, Bool.or_eq_true] at h
        refine ⟨e, by simp, hb, h.imp (fun h => ?_) id⟩
        rw [Nat.testBit_shiftLeft] at h
        simp only [Bool.and_eq_true, decide_eq_true_eq] at h
        have h2 := h.2
        rw [Nat.testBit_one_eq_true_iff_self_eq_zero] at h2
        omega
      | false => rw [hb] at h; simp at h
    · obtain ⟨e', h1, h2⟩ := depMask_bit h
      exact ⟨e', List.mem_cons_of_mem _ h1, h2⟩

structure DrOk (C : Ctx) (f : Nat) (ops : Array Oper) (T order : List Nat) : Prop where
  len : order.length = ops.size
  all : ∀ i, i < ops.size → i ∈ order
  nodup : order.Nodup
  lt : ∀ i ∈ order, i < ops.size
  uniq : uniq ops
  mask : ∀ (i : Nat) (o : Oper), ops[i]? = some o → T.getD i 0 = depMask T o.after.toList
  back : ∀ (i : Nat) (o : Oper), ops[i]? = some o → ∀ e ∈ o.after.toList, Region.binds .any e = true → e.on < i
  pair : ∀ x i, [x, i].Sublist order → okPair C f ops T x i = true
  trip : ∀ y x i, [y, x, i].Sublist order → ∀ ox oy, ops[x]? = some ox → ops[y]? = some oy → dD C f ops ox = true → need C f ops T y i = true → quiet C f ops ox oy = true

theorem quietUpto_spec {y : Nat} : ∀ {l : List Nat}, quietUpto C f ops T y l = true → ∀ x i, [x, i].Sublist l → ∀ ox oy, ops[x]? = some ox → ops[y]? = some oy → dD C f ops ox = true → need C f ops T y i = true → quiet C f ops ox oy = true
  | [], _, x, i, h => by simp at h
  | z :: l, h, x, i, hs => by
    simp only [quietUpto, Bool.and_eq_true] at h
    intro ox oy e1 e2 e3 e4
    cases hs with
    | cons _ hs => exact quietUpto_spec h.2 x i hs ox oy e1 e2 e3 e4
    | cons_cons _ hs =>
      have h1 := h.1
      rw [e1, e2] at h1
      simp only [Bool.or_eq_true, Bool.not_eq_true', e3] at h1
      rcases h1 with (h1 | h1) | h1
      · cases h1
      · rw [List.any_eq_false] at h1
        exact (h1 i (hs.subset (by simp)) e4).elim
      · exact h1
theorem chkOrder_spec : ∀ {l : List Nat}, chkOrder C f ops T l = true → (∀ x i, [x, i].Sublist l → okPair C f ops T x i = true) ∧
    (∀ y x i, [y, x, i].Sublist l → ∀ ox oy, ops[x]? = some ox → ops[y]? = some oy → dD C f ops ox = true → need C f ops T y i = true → quiet C f ops ox oy = true)
  | [], _ => ⟨fun x i h => by simp at h, fun y x i h => by simp at h⟩
  | z :: l, h => by
    simp only [chkOrder, Bool.and_eq_true] at h
    obtain ⟨k1, k2⟩ := chkOrder_spec h.2
    refine ⟨fun x i hs => ?_, fun y x i hs => ?_⟩
    · cases hs with
      | cons _ hs => exact k1 x i hs
      | cons_cons _ hs => exact List.all_eq_true.1 h.1.1 i (hs.subset (by simp))
    · cases hs with
      | cons _ hs => exact k2 y x i hs
      | cons_cons _ hs => exact quietUpto_spec h.1.2 x i hs
theorem drOk_spec (h : drOk C f ops T order = true) : DrOk C f ops T order := by
  simp only [drOk, Bool.and_eq_true] at h
  obtain ⟨⟨⟨⟨⟨⟨⟨h1, h0⟩, h2⟩, h3⟩, h4⟩, h5⟩, h6⟩, h7⟩ := h
  obtain ⟨k1, k2⟩ := chkOrder_spec h7
  exact ⟨Nat.eq_of_beq_eq_true h1, fun i hi => by simpa using List.all_eq_true.1 h0 i (List.mem_range.2 hi), nodupB_iff h2, fun i hi => by simpa using List.all_eq_true.1 h3 i hi, uniq_of h4, fun i o hi => chkT_get h5 i o (by simpa using hi),
    fun i o hi e he hb => by simpa using bwd_get h6 i o (by simpa using hi) e he hb, k1, k2⟩

theorem mem_ready {listed : Array Bool} {i : Nat} : i ∈ Region.ready .any ops listed ↔ i < ops.size ∧ listed.getD i true = false ∧ ∃ o, ops[i]? = some o ∧ ∀ e ∈ o.after.toList, Region.binds .any e = true → listed.getD e.on false = true := by
  unfold Region.ready
  simp only [List.mem_filter, List.mem_range, Bool.and_eq_true, Bool.not_eq_true']
  refine and_congr_right fun hi => and_congr_right fun _ => ?_
  rw [Array.getElem?_eq_getElem hi]
  simp only [Option.map_some, Option.getD_some, Option.some.injEq, exists_eq_left']
  rw [← Array.all_toList, List.all_eq_true]
  refine forall_congr' fun e => forall_congr' fun _ => ?_
  cases Region.binds .any e <;> simp

/-- What has been done: everything but l. -/
structure Done (ops : Array Oper) (l : List Nat) (listed : Array Bool) : Prop where
  size : listed.size = ops.size
  get : ∀ i, i < ops.size → ∀ d, listed.getD i d = !(decide (i ∈ l))
  closed : ∀ (i : Nat) (o : Oper), ops[i]? = some o → i ∉ l → ∀ e ∈ o.after.toList, Region.binds .any e = true → e.on ∉ l

theorem Done.bit (hd : DrOk C f ops T order) {l : List Nat} {listed : Array Bool} (h : Done ops l listed) : ∀ (i : Nat) {o : Oper}, ops[i]? = some o → (∀ e ∈ o.after.toList, Region.binds .any e = true → e.on ∉ l) → ∀ x, Nat.testBit (T.getD i 0) x = true → x ∉ l := by
  intro i
  induction i using Nat.strongRecOn with
  | _ i ih =>
    intro o hi hdep x hx
    rw [hd.mask i o hi] at hx
    obtain ⟨e, he, hb, hx⟩ := depMask_bit hx
    rcases hx with rfl | hx
    · exact hdep e he hb
    · have hlt := hd.back i o hi e he hb
      have hsz : i < ops.size := (Array.getElem?_eq_some_iff.1 hi).1
      have hee := Array.getElem?_eq_getElem (xs := ops) (show e.on < ops.size by omega)
      exact ih e.on hlt hee (h.closed _ _ hee (hdep e he hb)) x hx

theorem need_watchable {x i : Nat} (hok : okPair C f ops T x i = true) {ox : Oper} (hx : ops[x]? = some ox) (hn : need C f ops T x i = true) : watchable C f ops ox = true := by
  unfold need at hn
  unfold okPair at hok
  rw [hx] at hn hok
  split at hn
  · rename_i oy oi e1 e2
    cases e1
    rw [e2] at hok
    simp only [Bool.and_eq_true, Bool.not_eq_true'] at hn hok
    rw [hn.2] at hok
    have := hok.1
    unfold canPass at this
    simp only [Bool.false_or, Bool.and_eq_true, Bool.or_eq_true, Bool.not_eq_true', hn.1.1, hn.1.2, Bool.not_false, Bool.true_and] at this
    rcases this.2 with h | h
    · rcases h.2 with h | h
      · simp at h
      · exact h
    · obtain ⟨t, a, b, d, e, _, _, o1, _⟩ := exPair_inv h
      have hr := hn.1.1
      unfold rS readsS at hr
      rw [o1] at hr
      cases hr
  · cases hn

theorem eager_any (hCa : CaMono Ca) (hd : DrOk C f ops T order) : ∀ (n : Nat) {l : List Nat} {listed : Array Bool} {B : List Oper} {fr : Fr} {S : St}, l.length = n → In ops.toList B → B.length + l.length ≤ ops.size → l.Sublist order → Done ops l listed →
    eagerW C Ca f ops T K [] l B fr S → anyW C Ca f ops K n listed B fr S
  | 0, l, listed, B, fr, S, hn, hB, hl, hsub, hdone, h => by
    have : l = [] := List.eq_nil_of_length_eq_zero hn
    subst this
    refine ⟨List.eq_nil_iff_forall_not_mem.2 fun i hi => ?_, h⟩
    obtain ⟨k1, k2, _⟩ := mem_ready.1 hi
    rw [hdone.get i k1] at k2
    simp at k2
  | n + 1, l, listed, B, fr, S, hn, hB, hl, hsub, hdone, h => by
    have hs := hd.uniq.ssa
    have hlt : ∀ i ∈ l, i < ops.size := fun i hi => hd.lt i (hsub.subset hi)
    have hnd : l.Nodup := hsub.nodup hd.nodup
    refine ⟨fun hr => ?_, fun i hi oi hoi => ?_⟩
    · -- the first one is ready
      cases l with
      | nil => simp at hn
      | cons x l =>
        have hx := hlt x (by simp)
        have hox := Array.getElem?_eq_getElem hx
        have : x ∈ Region.ready .any ops listed := by
          refine mem_ready.2 ⟨hx, by rw [hdone.get x hx]; simp, _, hox, fun e he hb => ?_⟩
          have hlt' := hd.back x _ hox e he hb
          rw [hdone.get e.on (by omega)]
          simp only [Bool.not_eq_true', decide_eq_false_iff_not, List.mem_cons, not_or]
          refine ⟨by omega, fun hel => ?_⟩
          have hp := hd.pair x e.on (List.Sublist.trans (List.Sublist.cons_cons x (by simpa using hel)) hsub)
          unfold okPair at hp
          rw [hox, Array.getElem?_eq_getElem (show e.on < ops.size by omega)] at hp
          simp only [Bool.and_eq_true, Bool.not_eq_true'] at hp
          have hp2 := hp.2
          unfold depOn at hp2
          rw [List.any_eq_false] at hp2
          have := hp2 e he
          simp [hb] at this
        rw [hr] at this
        simp at this
    · obtain ⟨k1, k2, o', k3, k4⟩ := mem_ready.1 hi
      rw [hoi] at k3
      cases k3
      have hil : i ∈ l := by
        have := hdone.get i k1 true
        rw [k2] at this
        simpa using this.symm
      have hdep : ∀ e ∈ oi.after.toList, Region.binds .any e = true → e.on ∉ l := fun e he hb => by
        have h1 := k4 e he hb
        rw [hdone.get e.on (by have := hd.back i oi hoi e he hb; omega)] at h1
        simpa using h1
      obtain ⟨l1, l2, rfl⟩ := List.append_of_mem hil
      have hp2 : ∀ x ∈ l1, [x, i].Sublist (l1 ++ i :: l2) := fun x hx => (List.Sublist.append (l₁ := [x]) (r₁ := [i]) (by simpa using hx) (by simp) : ([x] ++ [i]).Sublist (l1 ++ i :: l2))
      have hni : ∀ x ∈ l1, x ≠ i := fun x hx e => by
        subst e
        rw [List.nodup_append] at hnd
        exact hnd.2.2 x hx x (by simp) rfl
      have hbit : ∀ x ∈ l1, Nat.testBit (T.getD i 0) x = false := fun x hx => by
        cases hb : Nat.testBit (T.getD i 0) x with
        | false => rfl
        | true => exact (hdone.bit hd i hoi hdep x hb (by simp [hx])).elim
      have hcp : ∀ x ∈ l1, ∃ ox, ops[x]? = some ox ∧ canPass C f ops ox oi = true ∧ x ≠ i ∧ Nat.testBit (T.getD i 0) x = false := fun x hx => by
        have hox := Array.getElem?_eq_getElem (hlt x (by simp [hx]))
        refine ⟨_, hox, ?_, hni x hx, hbit x hx⟩
        have := hd.pair x i ((hp2 x hx).trans hsub)
        unfold okPair at this
        rw [hox, hoi] at this
        simp only [hbit x hx, Bool.false_or, Bool.and_eq_true] at this
        exact this.1
      have hb := bubble (K := K) hCa hd.uniq hoi (l2 := l2) (l1 := l1) (seen := []) hB hl hcp (by simp)
        (fun y x hsl ox oy e1 e2 e3 => ⟨fun e => by
            subst e
            have : l1.Nodup := (List.nodup_append.1 hnd).1
            have := hsl.nodup this
            simp at this,
          hd.trip y x i ((List.Sublist.append (l₁ := [y, x]) (r₁ := [i]) hsl (by simp) : ([y, x] ++ [i]).Sublist (l1 ++ i :: l2)).trans hsub) ox oy e1 e2 (by
            obtain ⟨ox', q1, q2, _⟩ := hcp x (hsl.subset (by simp))
            rw [e1] at q1; cases q1
            unfold canPass at q2
            simp only [Bool.and_eq_true] at q2
            exact q2.1) e3⟩)
        (fun y hy oy e1 e2 => by
          rcases hy with hy | hy
          · simp at hy
          · exact need_watchable (hd.pair y i ((hp2 y hy).trans hsub)) e1 e2) h
      refine oneW_mono0 hCa hs hB (fun m fr' S' hm hk => ?_) hb
      have hlen : (l1 ++ l2).length = n := by simp at hn ⊢; omega
      refine eager_any hCa hd n hlen (hB.cons (mem_ops hoi) hm (by simp at hl ⊢; omega)) (by simp at hl ⊢; omega) (List.Sublist.trans (List.Sublist.append (List.Sublist.refl _) (List.sublist_cons_self _ _)) hsub) ?_ hk.2
      have hni2 : i ∉ l1 ++ l2 := by
        rw [List.nodup_append] at hnd
        simp only [List.mem_append, not_or]
        exact ⟨fun e => hni i e rfl, (List.nodup_cons.1 hnd.2.1).1⟩
      refine ⟨by simp [hdone.size], fun j hj d => ?_, fun j o hj hjl e he hbb => ?_⟩
      · by_cases e : i = j
        · subst e
          simp [Array.getD_eq_getD_getElem?, hdone.size, hj]
          simpa using hni2
        · have := hdone.get j hj d
          simp only [Array.getD_eq_getD_getElem?] at this ⊢
          rw [Array.getElem?_setIfInBounds_ne e, this]
          simp [Ne.symm e]
      · by_cases e' : j = i
        · subst e'
          rw [hoi] at hj; cases hj
          have := hdep e he hbb
          simp only [List.mem_append, List.mem_cons, not_or] at this ⊢
          exact ⟨this.1, this.2.2⟩
        · have := hdone.closed j o hj (by simp only [List.mem_append, List.mem_cons, not_or] at hjl ⊢; exact ⟨hjl.1, e', hjl.2⟩) e he hbb
          simp only [List.mem_append, List.mem_cons, not_or] at this ⊢
          exact ⟨this.1, this.2.2⟩
end
end Go.Av
