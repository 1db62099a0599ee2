/- A part of the proof of a law of this seat: Drawn regions: in one order for all. No condition. -/
import Derived.Test.YtcmiahkfbnojnaaA22
set_option linter.all false
set_option linter.unusedVariables false
set_option linter.unusedSimpArgs false
/-! Drawn regions: in one order for all. -/
namespace Go.Av

def skipOf (o : Oper) : Oper := { o with op := .ready 0 }
section defs
variable (C : Ctx) (Ca : Nat → List AV → St → (AV → St → Prop) → Prop) (f : Nat) (ops : Array Oper)
/-- Does a later operation want the append right of slot d? -/
def feedsA (d : Option Nat) : Bool :=
  match d with
  | none => false
  | some d => ops.toList.any fun o => match o.op with
    | .call { callee := .builtin .append, args := as, .. } => (match as.toList with | .tmp x :: _ => Nat.beq x d | _ => false)
    | _ => false
def agreeR (B : List Oper) (o : Oper) : Bool :=
  match addrOf o.op with
  | some x => (resolve C f B x).isSome == (srootO C f ops.toList x).isSome
  | none => true
def runW (B : List Oper) (o : Oper) (K : List Oper → Fr → St → Prop) (fr : Fr) (S : St) : Prop :=
  match okDst C f o && agreeR C f ops B o with
  | true => opW C Ca f B (feedsA ops o.dst) o fr S (K (o :: B))
  | false => False
def skipW (B : List Oper) (o : Oper) (K : List Oper → Fr → St → Prop) (fr : Fr) (S : St) : Prop := K ({ o with op := .ready 0 } :: B) (fr.skip C f o.dst) S
/-- One operation of a drawn region. -/
def oneW (B : List Oper) (o : Oper) (K : List Oper → Fr → St → Prop) (fr : Fr) (S : St) : Prop :=
  match o.guard with
  | none => runW C Ca f ops B o K fr S
  | some (j, want) => match want with
    | true => gG ((ops[j]?).bind (·.guard)) (yieldedA ops fr j) (runW C Ca f ops B o K fr S) (skipW C f B o K fr S) (skipW C f B o K fr S)
    | false => gG ((ops[j]?).bind (·.guard)) (yieldedA ops fr j) (skipW C f B o K fr S) (runW C Ca f ops B o K fr S) (skipW C f B o K fr S)
/-- All orders. -/
def anyW (K : Fr → St → Prop) : Nat → Array Bool → List Oper → Fr → St → Prop
  | 0, listed, B, fr, S => Region.ready .any ops listed = [] ∧ K fr S
  | n + 1, listed, B, fr, S => (Region.ready .any ops listed = [] → K fr S) ∧
    ∀ i ∈ Region.ready .any ops listed, ∀ o, ops[i]? = some o → oneW C Ca f ops B o (anyW K n (listed.setIfInBounds i true)) fr S
/-- It reads the same once more. -/
def stable (o : Oper) (B : List Oper) (fr : Fr) (S : St) : Prop := oneW C Ca f ops B o (fun _ fr' S' => fr' = fr ∧ S' = S) fr S

def SW (o : Oper) : List Nat := opWrites C (feedsA ops o.dst) o
def SB (o : Oper) : List Nat := o.dst.toList ++ match o.op with
  | .store _ x _ => (srootO C f ops.toList x).toList
  | .load _ x => (match feedsA ops o.dst with | true => (srootO C f ops.toList x).toList | false => [])
  | _ => []
def RV (o : Oper) : List Nat := o.op.operands.toList.flatMap tmpOf ++ match o.guard with | some (j, _) => ((ops[j]?).bind (·.dst)).toList | none => []
def RB (o : Oper) : List Nat := o.op.operands.toList.filterMap (srootO C f ops.toList)
def disj (a b : List Nat) : Bool := a.all fun t => !b.elem t
def dD (o : Oper) : Bool := isD C f ops.toList (feedsA ops o.dst) o
def rS (o : Oper) : Bool := readsS C f ops.toList o
def apart (x i : Oper) : Bool :=
  disj (SW C ops x) (RV ops i) && disj (SW C ops x) (SW C ops i) && disj (SB C f ops x) (RB C f ops i) && disj (SB C f ops x) (SB C f ops i) && disj (SW C ops i) (RV ops x) && disj (SB C f ops i) (RB C f ops x)
/-- x does not touch what is watched. -/
def quiet (x y : Oper) : Bool := disj (SW C ops x) (RV ops y) && disj (SW C ops x) y.dst.toList && disj (SB C f ops x) (RB C f ops y) && disj (SB C f ops x) y.dst.toList
def exPair (x i : Oper) : Bool :=
  match x.guard, i.guard, x.op, i.op, x.dst, i.dst with
  | none, none, .extract (.tmp t) a, .extract (.tmp u) b, some d, some e => Nat.beq t u && !(Nat.beq a b) && !(Nat.beq d e) && !(Nat.beq d t) && !(Nat.beq e t) && !(C.loc f d) && !(C.loc f e)
  | _, _, _, _, _, _ => false
def watchable (x : Oper) : Bool :=
  (match x.op with
  | .load _ _ => !(feedsA ops x.dst)
  | .lookup _ _ _ _ | .binOp _ _ _ _ _ => true
  | .call { callee := .builtin .len, .. } => true
  | _ => false) && disj x.dst.toList (RV ops x) && disj (SB C f ops x) (RB C f ops x) && (x.dst.toList.all fun d => !(C.loc f d)) && x.dst.isSome
def canPass (x i : Oper) : Bool := dD C f ops x && ((apart C f ops x i && (!(rS C f ops x && !(dD C f ops i)) || watchable C f ops x)) || exPair C f x i)
/-- What stands ahead of each operation, by its edges. -/
def depMask (T : List Nat) : List Edge → Nat
  | [] => 0
  | e :: es => (match Region.binds .any e with | true => (1 <<< e.on) ||| T.getD e.on 0 | false => 0) ||| depMask T es
def mkT : List Oper → List Nat → List Nat
  | [], T => T
  | o :: l, T => mkT l (T ++ [depMask T o.after.toList])
def depOn (x : Oper) (i : Nat) : Bool := x.after.toList.any fun e => Region.binds .any e && Nat.beq e.on i
def need (T : List Nat) (y i : Nat) : Bool :=
  match ops[y]?, ops[i]? with
  | some oy, some oi => rS C f ops oy && !(dD C f ops oi) && !(Nat.testBit (T.getD i 0) y)
  | _, _ => false
def okPair (T : List Nat) (x i : Nat) : Bool :=
  match ops[x]?, ops[i]? with
  | some ox, some oi => (Nat.testBit (T.getD i 0) x || canPass C f ops ox oi) && !(depOn ox i)
  | _, _ => false
def quietUpto (T : List Nat) (y : Nat) : List Nat → Bool
  | [] => true
  | x :: l => (match ops[x]?, ops[y]? with
    | some ox, some oy => !(dD C f ops ox) || !(l.any (need C f ops T y)) || quiet C f ops ox oy
    | _, _ => false) && quietUpto T y l
def chkOrder (T : List Nat) : List Nat → Bool
  | [] => true
  | y :: l => l.all (okPair C f ops T y) && quietUpto C f ops T y l && chkOrder T l

def watchK (B : List Oper) (fr : Fr) (S : St) (P : Prop) : List Oper → Prop
  | [] => P
  | y :: l => stable C Ca f ops y B fr S ∧ watchK B fr S P l
def pick (l : List Nat) : List Oper := l.filterMap fun i => ops[i]?
def addSeen (o : Oper) (i : Nat) (seen : List Nat) : List Nat := match rS C f ops o with | true => i :: seen | false => seen
/-- One order for all. -/
def eagerW (T : List Nat) (K : Fr → St → Prop) : List Nat → List Nat → List Oper → Fr → St → Prop
  | _, [], _, fr, S => K fr S
  | seen, i :: l, B, fr, S => match ops[i]? with
    | some o => oneW C Ca f ops B o (fun B' fr' S' => watchK C Ca f ops B' fr' S' (eagerW T K (addSeen C f ops o i seen) l B' fr' S') (pick ops (seen.filter fun y => need C f ops T y i))) fr S
    | none => False
end defs

/-! ## where a slot points -/
section res
variable {C : Ctx} {f : Nat}
theorem opRes_congr {r r' : Nat → Option (Nat × Nat)} {op : Op} (h : ∀ y, (Operand.tmp y) ∈ op.operands.toList → r y = r' y) : opRes C r op = opRes C r' op := by
  unfold opRes
  split
  · rename_i t y i; rw [h y (by simp [Op.operands])]
  · rename_i t y k i; rw [h y (by simp [Op.operands])]
  · rename_i y; exact h y (by simp [Op.operands])
  · rename_i y; exact h y (by simp [Op.operands])
  · rfl
def filt (n : Oper) (r : Option (Nat × Nat)) : Option (Nat × Nat) := match r with
  | some (b, off) => match dstEq n b with | true => none | false => some (b, off)
  | none => none
theorem opRes_filt (n : Oper) {r : Nat → Option (Nat × Nat)} {op : Op} : opRes C (fun y => filt n (r y)) op = filt n (opRes C r op) := by
  unfold opRes
  split
  · rename_i t y i
    cases hr : r y with
    | none => simp [filt, hr]
    | some p =>
      obtain ⟨b, off⟩ := p
      cases hd : dstEq n b <;> cases hf : fieldOff C t i <;> simp [filt, hr, hd]
  · rename_i t y k k'
    cases hr : r y with
    | none => simp [filt, hr]
    | some p =>
      obtain ⟨b, off⟩ := p
      cases hk : (C.ty t).kind with
      | array n' e' =>
        simp only [filt, hr]
        cases hd : dstEq n b <;> simp only [hd]
        all_goals generalize decide (0 ≤ k' ∧ k' < (n' : Int)) = q
        all_goals cases q <;> simp [hd]
      | _ => cases hd : dstEq n b <;> simp [filt, hr, hd]
  · rfl
  · rfl
  · rfl
theorem resolveTmp_cons {o : Oper} {l : List Oper} {x : Nat} (hx : C.loc f x = false) : resolveTmp C f x (o :: l) = match dstEq o x with | true => opRes C (fun y => resolveTmp C f y l) o.op | false => filt o (resolveTmp C f x l) := by
  simp only [resolveTmp, hx]
  cases dstEq o x with
  | true => rfl
  | false =>
    cases resolveTmp C f x l with
    | none => rfl
    | some p => rfl
theorem resolveTmp_isLoc {l : List Oper} {x : Nat} (hx : C.loc f x = true) : resolveTmp C f x l = some (x, 0) := by
  cases l <;> simp [resolveTmp, hx]
/-- A slot that is none of n's points where it pointed, but into n's own box. -/
theorem resolveTmp_filt {n : Oper} {l : List Oper} {x : Nat} (hx : dstEq n x = false) : resolveTmp C f x (n :: l) = filt n (resolveTmp C f x l) := by
  cases hl : C.loc f x with
  | true => rw [resolveTmp_isLoc hl, resolveTmp_isLoc hl]; simp [filt, hx]
  | false => rw [resolveTmp_cons hl, hx]
theorem dstEq_false {o : Oper} {x : Nat} : dstEq o x = false ↔ o.dst ≠ some x := by
  unfold dstEq
  cases hd : o.dst with
  | none => simp
  | some d =>
    cases hb : Nat.beq d x with
    | true => simp [Nat.eq_of_beq_eq_true hb]
    | false => simp [hb, Nat.ne_of_beq_eq_false hb]
theorem resolveTmp_swap {m n : Oper} {l : List Oper} (h1 : ∀ d, m.dst = some d → n.dst ≠ some d) (h2 : ∀ y, (Operand.tmp y) ∈ m.op.operands.toList → n.dst ≠ some y) (h3 : ∀ y, (Operand.tmp y) ∈ n.op.operands.toList → m.dst ≠ some y) (x : Nat) :
    resolveTmp C f x (m :: n :: l) = resolveTmp C f x (n :: m :: l) := by
  cases hl : C.loc f x with
  | true => rw [resolveTmp_isLoc hl, resolveTmp_isLoc hl]
  | false =>
    have k1 : ∀ y, (Operand.tmp y) ∈ m.op.operands.toList → resolveTmp C f y (n :: l) = filt n (resolveTmp C f y l) := fun y hy => resolveTmp_filt (dstEq_false.2 (h2 y hy))
    have k2 : ∀ y, (Operand.tmp y) ∈ n.op.operands.toList → resolveTmp C f y (m :: l) = filt m (resolveTmp C f y l) := fun y hy => resolveTmp_filt (dstEq_false.2 (h3 y hy))
    rw [resolveTmp_cons hl, resolveTmp_cons hl, resolveTmp_cons hl, resolveTmp_cons hl]
    cases hm : dstEq m x with
    | true =>
      have hm' := (dstEq_iff.1 hm)
      have hn : dstEq n x = false := dstEq_false.2 (h1 x hm')
      simp only [hn]
      rw [opRes_congr (r' := fun y => filt n (resolveTmp C f y l)) k1, opRes_filt]
    | false =>
      cases hn : dstEq n x with
      | true =>
        simp only
        rw [opRes_congr (op := n.op) (r' := fun y => filt m (resolveTmp C f y l)) k2, opRes_filt]
      | false =>
        simp only
        cases resolveTmp C f x l with
        | none => rfl
        | some p =>
          obtain ⟨b, off⟩ := p
          simp only [filt]
          cases hmb : dstEq m b <;> cases hnb : dstEq n b <;> simp [hmb, hnb]
theorem resolveTmp_tail {o : Oper} {l l' : List Oper} (h : ∀ y, resolveTmp C f y l = resolveTmp C f y l') (x : Nat) : resolveTmp C f x (o :: l) = resolveTmp C f x (o :: l') := by
  cases hl : C.loc f x with
  | true => rw [resolveTmp_isLoc hl, resolveTmp_isLoc hl]
  | false => rw [resolveTmp_cons hl, resolveTmp_cons hl, h x, opRes_congr fun y _ => h y]
theorem resolveTmp_inert {m m' : Oper} {l : List Oper} (hd : m.dst = m'.dst) (h1 : ∀ r, opRes C r m.op = none) (h2 : ∀ r, opRes C r m'.op = none) (x : Nat) : resolveTmp C f x (m :: l) = resolveTmp C f x (m' :: l) := by
  have hde : ∀ y, dstEq m y = dstEq m' y := fun y => by unfold dstEq; rw [hd]
  cases hl : C.loc f x with
  | true => rw [resolveTmp_isLoc hl, resolveTmp_isLoc hl]
  | false =>
    rw [resolveTmp_cons hl, resolveTmp_cons hl, hde, h1, h2]
    cases dstEq m' x with
    | true => rfl
    | false => simp only [filt, hde]

/-- What stands ahead is of this region, each operation once. -/
structure In (all B : List Oper) : Prop where
  mem : ∀ m ∈ B, ∃ o ∈ all, m = o ∨ m = skipOf o
  len : B.length ≤ all.length
def ssa (all : List Oper) : Prop := ∀ o ∈ all, ∀ o' ∈ all, ∀ d, o.dst = some d → o'.dst = some d → o = o'
theorem sroot_of {all : List Oper} (hs : ssa all) : ∀ {B : List Oper} {n x b off : Nat}, (∀ m ∈ B, ∃ o ∈ all, m = o ∨ m = skipOf o) → B.length ≤ n → resolveTmp C f x B = some (b, off) → sroot C f all n x = some b
  | [], n, x, b, off, _, _, h => by
    simp only [resolveTmp] at h
    split at h
    · rename_i hl
      cases h
      cases n <;> simp [sroot, hl]
    · cases h
  | m :: B, n, x, b, off, hB, hn, h => by
    obtain ⟨n, rfl⟩ : ∃ k, n = k + 1 := ⟨n - 1, by simp at hn; omega⟩
    have hB' := fun m' h' => hB m' (List.mem_cons_of_mem _ h')
    have hn' : B.length ≤ n := by simp at hn; omega
    cases hl : C.loc f x with
    | true => rw [resolveTmp_isLoc hl] at h; cases h; simp [sroot, hl]
    | false =>
      rw [resolveTmp_cons hl] at h
      cases hd : dstEq m x with
      | true =>
        rw [hd] at h
        simp only at h
        obtain ⟨o, ho, hm⟩ := hB m (by simp)
        have hod : o.dst = some x := by
          have := dstEq_iff.1 hd
          rcases hm with rfl | rfl
          · exact this
          · exact this
        have hmo : m = o := by
          rcases hm with hm | hm
          · exact hm
          · rw [hm] at h; simp [skipOf, opRes] at h
        subst hmo
        have hf : all.find? (fun o => dstEq o x) = some m := by
          cases hf : all.find? (fun o => dstEq o x) with
          | none =>
            have := List.find?_eq_none.1 hf m ho
            rw [hd] at this; simp at this
          | some o' =>
            have h1 := List.find?_some hf
            have h2 := List.mem_of_find?_eq_some hf
            rw [hs m ho o' h2 x hod (dstEq_iff.1 h1)]
        simp only [sroot, hl, hf]
        unfold opRes at h
        split at h
        · rename_i t y i hop
          split at h
          · rename_i b' off' fo h1 h2
            cases h
            rw [hop]
            exact sroot_of hs hB' hn' h1
          · cases h
        · rename_i t y k i hop
          split at h
          · rename_i b' off' n' e h1 h2
            rw [hop]
            split at h
            · cases h; exact sroot_of hs hB' hn' h1
            · cases h
          · cases h
        · rename_i y hop; rw [hop]; exact sroot_of hs hB' hn' h
        · rename_i y hop; rw [hop]; exact sroot_of hs hB' hn' h
        · cases h
      | false =>
        rw [hd] at h
        simp only [filt] at h
        cases hr : resolveTmp C f x B with
        | none => rw [hr] at h; cases h
        | some p =>
          rw [hr] at h
          obtain ⟨b', off'⟩ := p
          simp only at h
          split at h
          · cases h
          · cases h
            exact sroot_of hs hB' (by omega) hr
theorem srootO_of {all B : List Oper} (hs : ssa all) (hB : In all B) {x : Operand} {b off : Nat} (h : resolve C f B x = some (b, off)) : srootO C f all x = some b := by
  cases x with
  | tmp y => exact sroot_of hs hB.mem hB.len h
  | _ => simp [resolve] at h
end res

section one
variable {C : Ctx} {Ca : Nat → List AV → St → (AV → St → Prop) → Prop} {f : Nat} {ops : Array Oper} {fr g : Fr} {S : St} {U UB : List Nat} {K K' : List Oper → Fr → St → Prop} {B B2 : List Oper} {o : Oper}

theorem agreeR_congr (h : ∀ x ∈ o.op.operands.toList, resolve C f B2 x = resolve C f B x) : agreeR C f ops B2 o = agreeR C f ops B o := by
  unfold agreeR addrOf
  split
  · rename_i x hx
    split at hx
    · rename_i ho
      cases hx
      rw [h x (by rw [ho]; simp [Op.operands])]
    · rename_i ho
      cases hx
      rw [h x (by rw [ho]; simp [Op.operands])]
    · cases hx
  · rfl
theorem graft_skip {d : Option Nat} (h : ∀ t, d = some t → t ∉ U ∧ t ∉ UB) : (graft U UB g fr).skip C f d = graft U UB g (fr.skip C f d) := by
  unfold Fr.skip
  cases d with
  | none => rfl
  | some t =>
    obtain ⟨h1, h2⟩ := h t rfl
    simp only
    split
    · rw [graft_setB h2, graft_set h1]
    · rw [graft_set h1]
theorem oneW_graft (hR : ∀ t ∈ RV ops o, t ∉ U) (hB : ∀ x ∈ o.op.operands.toList, ∀ b off, resolve C f B x = some (b, off) → b ∉ UB) (hd : ∀ d, o.dst = some d → d ∉ U ∧ d ∉ UB)
    (hres : ∀ x ∈ o.op.operands.toList, resolve C f B2 x = resolve C f B x)
    (h : oneW C Ca f ops B o (fun B' fr' S' => ∀ m, B' = m :: B → K (m :: B2) (graft U UB g fr') S') fr S) : oneW C Ca f ops B2 o K (graft U UB g fr) S := by
  have hR1 : ∀ x ∈ o.op.operands.toList, ∀ t ∈ tmpOf x, t ∉ U := fun x hx t ht => hR t (by unfold RV; exact List.mem_append_left _ (List.mem_flatMap.2 ⟨x, hx, ht⟩))
  have run : runW C Ca f ops B o (fun B' fr' S' => ∀ m, B' = m :: B → K (m :: B2) (graft U UB g fr') S') fr S → runW C Ca f ops B2 o K (graft U UB g fr) S := by
    intro h
    unfold runW at h ⊢
    rw [agreeR_congr hres]
    split at h
    · exact opW_graft hR1 hB hd hres (by
        have : (fun (fr' : Fr) (S' : St) => ∀ m, o :: B = m :: B → K (m :: B2) (graft U UB g fr') S') = fun fr' S' => K (o :: B2) (graft U UB g fr') S' := by
          funext fr' S'
          exact propext ⟨fun hh => hh o rfl, fun hh m e => by cases e; exact hh⟩
        have h' : opW C Ca f B (feedsA ops o.dst) o fr S (fun (fr' : Fr) (S' : St) => ∀ m, o :: B = m :: B → K (m :: B2) (graft U UB g fr') S') := h
        rw [this] at h'
        exact h')
    · exact h
  have skip : skipW C f B o (fun B' fr' S' => ∀ m, B' = m :: B → K (m :: B2) (graft U UB g fr') S') fr S → skipW C f B2 o K (graft U UB g fr) S := by
    intro h
    unfold skipW at h ⊢
    rw [graft_skip hd]
    exact h _ rfl
  unfold oneW at h ⊢
  cases hg : o.guard with
  | none => rw [hg] at h; exact run h
  | some p =>
    obtain ⟨j, want⟩ := p
    rw [hg] at h
    have hy : yieldedA ops (graft U UB g fr) j = yieldedA ops fr j := by
      unfold yieldedA
      cases hq : (ops[j]?).bind (·.dst) with
      | none => rfl
      | some d => exact graft_v (hR d (by unfold RV; rw [hg]; simp [hq]))
    simp only [hy]
    cases want with
    | true => exact gG_mono h run skip skip
    | false => exact gG_mono h skip run skip

theorem graft_nil {g fr : Fr} : graft [] [] g fr = fr := by cases fr; simp [graft]
theorem oneW_congrB (hres : ∀ x ∈ o.op.operands.toList, resolve C f B2 x = resolve C f B x) (hK : ∀ m fr S, K (m :: B) fr S → K' (m :: B2) fr S) (h : oneW C Ca f ops B o K fr S) (hm : ∀ (K1 K2 : List Oper → Fr → St → Prop), (∀ B' fr' S', K1 B' fr' S' → K2 B' fr' S') → oneW C Ca f ops B o K1 fr S → oneW C Ca f ops B o K2 fr S) :
    oneW C Ca f ops B2 o K' fr S := by
  have := oneW_graft (C := C) (Ca := Ca) (f := f) (ops := ops) (U := []) (UB := []) (g := fr) (fr := fr) (S := S) (K := K') (B := B) (B2 := B2) (o := o) (by simp) (by simp) (by simp) hres
    (hm _ _ (fun B' fr' S' hk m e => by rw [graft_nil]; subst e; exact hK m fr' S' hk) h)
  rw [graft_nil] at this
  exact this
end one
end Go.Av
