/- Parts of the proofs of this seat: abstract values over the model, and what the functions of the program do. No condition. -/
import Derived.Test.YtdjfhghokfiieaaGreatDoorD0
import Derived.Test.YtdjfhghokfiieaaGreatDoorY12
import Derived.Test.YtdjfhghokfiieaaGreatDoorY06
import Derived.Test.YtdjfhghokfiieaaGreatDoorX08d
import Derived.Test.YtdjfhghokfiieaaGreatDoorY10
import Derived.Test.YtdjfhghokfiieaaGreatDoorX10d
import Derived.Test.YtdjfhghokfiieaaGreatDoorX04L
import Derived.Lib.ItoaNum
import Derived.Lib.AtoiAllCases
set_option linter.all false
set_option linter.unusedVariables false
namespace Go.Av
abbrev I64r (n : Int) : Prop := -9223372036854775808 ≤ n ∧ n ≤ 9223372036854775807
end Go.Av
set_option linter.unusedVariables false
namespace Go.Av
structure OpN where
  kind : Int
  path : Str
  off : Int
  n : Int
  id : Int
  image : Str
  deriving DecidableEq
def OpN.zero : OpN := ⟨0, [], 0, 0, 0, []⟩
structure OpN.ok (o : OpN) : Prop where
  kind : I64r o.kind
  off : I64r o.off
  n : I64r o.n
  id : I64r o.id
end Go.Av
set_option linter.unusedVariables false
namespace Go.Av
structure ResN where
  err : Int := 0
  kind : Int := 0
  size : Int := 0
  where_ : Int := 0
  id : Int := 0
  text : Str := []
  names : List Str := []
  end_ : Bool := false
def ResN.c (x : ResN) (r : Rt) : List AV := [.int .i64 x.err, .int .i64 x.kind, .int .i64 x.size, .int .i64 x.where_, .int .i64 x.id, .str x.text, .vs 1 (x.names.map wStr) r, .bool x.end_]
@[simp] theorem ResN.c_len (x : ResN) (r : Rt) : (x.c r).length = 8 := rfl
def faultR (e : Int) : ResN := { err := e }
def OpN.c (o : OpN) : List AV := [.int .i64 o.kind, .str o.path, .int .i64 o.off, .int .i64 o.n, .int .i64 o.id, .str o.image]
@[simp] theorem OpN.c_len (o : OpN) : o.c.length = 6 := rfl
end Go.Av
set_option linter.unusedVariables false
namespace Go.Av
def isK (k : Int) : Bool := decide (1 ≤ k) && decide (k ≤ 4)
def followsK (k : Int) : Bool := decide (k = 2) || (decide (k = 4) || decide (k = 5))
def badOp (o : OpN) : Bool := (decide (o.kind = 4) && (decide (o.off < 0) || decide (o.n < 0))) || (decide (o.kind = 6) && decide (o.n < 1))
def finishR (D : List Node) (ids : Nat → Int) (o : OpN) (w : AtN) : ResN :=
  match w.nodes with
  | [] =>
    if o.kind = 1 then { kind := 2, where_ := -1 }
    else if o.kind = 2 then { kind := 2 }
    else if o.kind = 3 then faultR 1
    else if o.kind = 4 then faultR 5
    else faultR 1
  | y :: _ =>
    if o.kind = 1 then { kind := y.kind, where_ := match levelD D w.names with | some k => ids k | none => -1 }
    else if o.kind = 2 then (if y.kind = 2 then { kind := y.kind } else { kind := y.kind, size := y.size })
    else if o.kind = 3 then (if y.kind = 3 then { text := y.target } else faultR 1)
    else if o.kind = 4 then (if y.kind = 2 then faultR 5 else { text := readP y.size y.exts o.off o.n })
    else faultR 1
def doR (D : List Node) (ids : Nat → Int) (o : OpN) : ResN :=
  if isK o.kind = false then faultR 1
  else if badOp o = true then faultR 1
  else if (walkN D o.path (followsK o.kind)).err ≠ 0 then faultR (walkN D o.path (followsK o.kind)).err
  else finishR D ids o (walkN D o.path (followsK o.kind))
end Go.Av
set_option linter.unusedVariables false
namespace Go.Av
open Go.Proofs
theorem union_Is_A {w0 : World} {S : St} {k : Int} {Q : AV → St → Prop} (hq : Q (.bool (isK k)) S) : AC w0 F_union_Is [.int .i64 k] S Q := by
  apply union_Is_ok
  unfold G_union_Is
  have e : isK k = (decide (k ≥ 1) && decide (k ≤ 4)) := rfl
  rw [e] at hq
  by_cases h : k ≥ 1
  · simp [joinK_eq, h] at hq ⊢; exact hq
  · simp [joinK_eq, h] at hq ⊢; exact hq
theorem union_Follows_A {w0 : World} {S : St} {k : Int} {Q : AV → St → Prop} (hq : Q (.bool (followsK k)) S) : AC w0 F_union_Follows [.int .i64 k] S Q := by
  apply union_Follows_ok
  unfold G_union_Follows
  unfold followsK at hq
  by_cases h : k = 2
  · subst h; simp [joinK_eq]; simpa using hq
  · by_cases h4 : k = 4
    · subst h4; simp [joinK_eq]; simpa using hq
    · have b2 : (k == 2) = false := by simpa using h
      have b4 : (k == 4) = false := by simpa using h4
      have b5 : (k == 5) = decide (k = 5) := rfl
      simp [joinK_eq, b2, b4, b5]
      simp [h, h4] at hq
      exact hq
theorem union_fault_A {w0 : World} {S : St} {e : Int} {Q : AV → St → Prop} (hq : Q (.agg ((faultR e).c .nil)) S) : AC w0 F_union_fault [.int .i64 e] S Q := by
  apply union_fault_ok
  unfold G_union_fault
  exact hq
theorem union_Check_A {w0 : World} {S : St} {o : OpN} {Q : AV → St → Prop} (hq : Q (.int .i64 (if badOp o = true then 1 else 0)) S) : AC w0 F_union_Check [.agg o.c] S Q := by
  unfold OpN.c
  apply union_Check_ok
  unfold G_union_Check
  unfold badOp at hq
  simp
  by_cases h4 : o.kind = 4
  · have h6 : ¬ o.kind = 6 := by omega
    simp [h4, h6] at hq ⊢
    by_cases h : o.off < 0
    · simp [joinK_eq, h] at hq ⊢; exact hq
    · by_cases h2 : o.n < 0
      · simp [joinK_eq, h, h2] at hq ⊢; exact hq
      · simp [joinK_eq, h, h2] at hq ⊢; exact hq
  · by_cases h6 : o.kind = 6
    · simp [h4, h6] at hq ⊢
      by_cases h : o.n < 1
      · simp [joinK_eq, h] at hq ⊢; exact hq
      · simp [joinK_eq, h] at hq ⊢; exact hq
    · simp [joinK_eq, h4, h6] at hq ⊢; exact hq
theorem Ends.empty {L : List (List InoP)} {D : List Node} {want : AtN} {t : Fnd} (h : Ends L D want t) (hn : want.nodes = []) : D = [] := by
  have hf := h.facts
  rw [hn] at hf
  obtain ⟨he, ds, names, hw, hc⟩ := h
  rcases hc with ⟨h1, h2, h3⟩ | ⟨s, y, l, hs, h1, h2, h3, h4, h5⟩
  · have h0 := hf.2
    rw [h1] at h0
    rw [hn, h0] at h2
    cases D with
    | nil => rfl
    | cons n l => simp [hereN, dirsN] at h2
  · rw [hn] at h4; cases h4
structure StkD (S : St) (s : Stk) (D : List Node) (ids : Nat → Int) : Prop where
  leads : Leads S s D
  tabs : s.tabs = D.map fun n => n.tab 0
  ids : ∀ k m, s.l[k]? = some m → ids k = (m.num : Int)
theorem StkD.mono {S S' : St} {s : Stk} {D : List Node} {ids : Nat → Int} (h : StkD S s D ids) (k : Sx S S') : StkD S' s D ids := ⟨h.leads.mono k, h.tabs, h.ids⟩
set_option maxRecDepth 100000 in
theorem union_Finish_A {w0 : World} {S : St} {s : Stk} {D : List Node} {ids : Nat → Int} {want : AtN} {t : Fnd} {rt : Rt} {o : OpN} {p : Str} (hL : StkD S s D ids) (hE : Ends s.tabs D want t) {Q : AV → St → Prop}
    (hq : ∀ S', Sx S S' → Q (.agg ((finishR D ids o want).c .nil)) S') : AC w0 F_union_Finish [.agg s.c, .agg o.c, .agg (.str p :: t.c rt)] S Q := by
  have hc : s.c = [.vs 2 (s.l.map Mnt.c) s.r.strip, .int .i64 s.next] := rfl
  have hf := hE.facts
  have hlv := hE
  rw [hL.tabs] at hlv
  rw [hc]
  unfold OpN.c
  apply union_Finish_ok
  unfold G_union_Finish
  simp [← hc]
  unfold finishR at hq
  cases hn : want.nodes with
  | nil =>
    rw [hn] at hf hq
    obtain ⟨rfl, h2⟩ := hf
    have hD := hE.empty hn
    have hsl : s.l = [] := by
      have := hL.tabs
      rw [hD] at this
      unfold Stk.tabs at this
      simpa using this
    have hat : s.at_ ((0 : Nat) : Int) = none := by simp [Stk.at_, hsl]
    refine stack_At_A ?_
    rw [hat]
    simp only at hq
    by_cases k1 : o.kind = 1
    · simp [k1, joinK_eq] at hq ⊢
      simpa [ResN.c] using hq S (Sx.refl _)
    by_cases k2 : o.kind = 2
    · simp [k2, joinK_eq] at hq ⊢
      simpa [ResN.c] using hq S (Sx.refl _)
    by_cases k3 : o.kind = 3
    · simp [k3, joinK_eq] at hq ⊢
      refine union_fault_A ?_
      simp [ResN.c, faultR]
      simpa [ResN.c, faultR] using hq S (Sx.refl _)
    by_cases k4 : o.kind = 4
    · simp [k4, joinK_eq] at hq ⊢
      refine union_fault_A ?_
      simp [ResN.c, faultR]
      simpa [ResN.c, faultR] using hq S (Sx.refl _)
    · simp [k1, k2, k3, k4, joinK_eq] at hq ⊢
      refine union_fault_A ?_
      simp [ResN.c, faultR]
      simpa [ResN.c, faultR] using hq S (Sx.refl _)
  | cons y l =>
    have hlev := hlv.level (by rw [hn]; simp)
    rw [hn] at hf hq
    obtain ⟨h1, h2, h3, h4, h5⟩ := hf
    obtain ⟨m, a1, a2, a3, a4⟩ := h2.at_
    have hB := hL.leads.on m a2
    have hsz : (inoAt m.tab (t.sp.2 : Int)).size = y.size := by rw [a3]; rfl
    have htg : (inoAt m.tab (t.sp.2 : Int)).target = y.target := by rw [a3]; rfl
    have hex : (inoAt m.tab (t.sp.2 : Int)).exts = y.exts := by rw [a3]; rfl
    have hfit : fitP (inoAt m.tab (t.sp.2 : Int)) := by rw [a3]; exact allB_fit h3 h4 _
    have hid : ids t.sp.1 = (m.num : Int) := by
      refine hL.ids t.sp.1 m ?_
      have := a1
      unfold Stk.at_ at this
      rw [if_neg (by omega)] at this
      simpa using this
    simp only [hlev, hid] at hq
    refine stack_At_A ?_
    rw [a1]
    simp [h1]
    by_cases k1 : o.kind = 1
    · simp [k1, joinK_eq] at hq ⊢
      refine stack_ID_A ?_
      rw [a1]
      simp
      simpa [ResN.c] using hq S (Sx.refl _)
    by_cases k2 : o.kind = 2
    · by_cases y2 : y.kind = 2
      · simp [k2, y2, joinK_eq] at hq ⊢
        simpa [ResN.c] using hq S (Sx.refl _)
      · simp [k2, y2, joinK_eq] at hq ⊢
        refine branch_Size_A hB ?_
        rw [hsz]
        simp
        simpa [ResN.c] using hq S (Sx.refl _)
    by_cases k3 : o.kind = 3
    · by_cases y3 : y.kind = 3
      · simp [k3, y3, joinK_eq] at hq ⊢
        refine branch_Target_A hB ?_
        rw [htg]
        simp
        simpa [ResN.c] using hq S (Sx.refl _)
      · simp [k3, y3, joinK_eq] at hq ⊢
        refine union_fault_A ?_
        simp [ResN.c, faultR]
        simpa [ResN.c, faultR] using hq S (Sx.refl _)
    by_cases k4 : o.kind = 4
    · by_cases y2 : y.kind = 2
      · simp [k4, y2, joinK_eq] at hq ⊢
        refine union_fault_A ?_
        simp [ResN.c, faultR]
        simpa [ResN.c, faultR] using hq S (Sx.refl _)
      · simp [k4, y2, joinK_eq] at hq ⊢
        refine branch_Read_A hB hfit (fun S2 hS2 => ?_)
        rw [hsz, hex]
        simp
        simpa [ResN.c] using hq S2 hS2
    · simp [k1, k2, k3, k4, joinK_eq] at hq ⊢
      refine union_fault_A ?_
      simp [ResN.c, faultR]
      simpa [ResN.c, faultR] using hq S (Sx.refl _)
set_option maxRecDepth 100000 in
theorem union_Do_A {w0 : World} (hm : MaxL w0) {S : St} {s : Stk} {D : List Node} {ids : Nat → Int} {o : OpN} (hL : StkD S s D ids) (hp : o.path.length ≤ 1048576) {Q : AV → St → Prop}
    (hq : ∀ S', Sx S S' → Q (.agg ((doR D ids o).c .nil)) S') : AC w0 F_union_Do [.agg s.c, .agg o.c] S Q := by
  have hc : s.c = [.vs 2 (s.l.map Mnt.c) s.r.strip, .int .i64 s.next] := rfl
  have ho : o.c = [.int .i64 o.kind, .str o.path, .int .i64 o.off, .int .i64 o.n, .int .i64 o.id, .str o.image] := rfl
  rw [hc, ho]
  apply union_Do_ok
  unfold G_union_Do
  unfold doR at hq
  simp [← hc, ← ho]
  refine union_Is_A ?_
  by_cases h1 : isK o.kind = false
  · rw [if_pos h1] at hq
    rw [h1]
    simp
    refine union_fault_A ?_
    simp [ResN.c, faultR]
    simpa [ResN.c, faultR] using hq S (Sx.refl _)
  · rw [if_neg h1] at hq
    have h1' : isK o.kind = true := by simpa using h1
    rw [h1']
    simp
    refine union_Check_A ?_
    by_cases h2 : badOp o = true
    · rw [if_pos h2] at hq ⊢
      simp
      refine union_fault_A ?_
      simp [ResN.c, faultR]
      simpa [ResN.c, faultR] using hq S (Sx.refl _)
    · rw [if_neg h2] at hq ⊢
      simp
      refine union_Follows_A ?_
      simp
      refine walk_Walk_A hm hL.leads hp (fun S2 hS2 => ⟨fun he => ?_, fun he t r hE => ?_⟩)
      · rw [if_pos he] at hq
        simp [Fnd.c, Fnd.none, he]
        refine union_fault_A ?_
        simp [ResN.c, faultR]
        simpa [ResN.c, faultR] using hq S2 hS2
      · rw [if_neg (by rw [he]; simp)] at hq
        simp [Fnd.c]
        refine union_Finish_A (t := t) (rt := r.strip) (hL.mono hS2) hE (fun S3 hS3 => ?_)
        simp [ResN.c]
        simpa [ResN.c] using hq S3 (hS2.trans hS3)
end Go.Av
set_option linter.unusedVariables false
namespace Go.Av
open Go.Proofs
theorem allB_chain {n : Node} (h : n.allB = true) : nchain Option.none n.names.l = true := by
  rw [Node.all_eq] at h
  simp only [Bool.and_eq_true] at h
  obtain ⟨hz, hk⟩ := oneB_zero h.2
  by_cases k : n.kind = 2
  · have hn : namesB n = true := by simpa [kindB, k] using hk
    exact (namesB_iff hn).1
  · have hnm : n.names.l = [] := by simp [zeroB, k] at hz; exact hz.1.1.1.2
    rw [hnm]; rfl
theorem find_nameR {n : Node} (ha : n.allB = true) {s : Str} {x : Node} (h : n.find s = some x) : nameR s = true := by
  unfold Node.find at h
  obtain ⟨k, h1, _⟩ := Option.bind_eq_some_iff.1 h
  obtain ⟨hk, h2, _⟩ := List.findIdx?_eq_some_iff_getElem.1 h1
  have hs : n.names.l[k] = s := by simpa using h2
  have hm : s ∈ n.names.l := by rw [← hs]; exact List.getElem_mem hk
  have hch : nchain none n.names.l = true := allB_chain ha
  exact (chain_pw _ _ hch).2.2 s hm
theorem seenN_nameR {H : List Node} (ha : ∀ n ∈ H, n.allB = true) {s : Str} {y : Node} {l : List Node} (h : seenN H s = y :: l) : nameR s = true := by
  have hy : y ∈ seenN H s := by rw [h]; simp
  have h2 : y ∈ entriesN H s := by
    unfold seenN at hy
    cases he : entriesN H s with
    | nil => rw [he] at hy; cases hy
    | cons z r =>
      rw [he] at hy
      simp only at hy
      split at hy
      · cases hy
      · split at hy
        · rw [List.mem_singleton] at hy; simp [hy]
        · exact (List.takeWhile_sublist _).subset (dirsN_mem hy)
  obtain ⟨n, h3, h4⟩ := List.mem_filterMap.1 h2
  exact find_nameR (ha n h3) h4
theorem walkN_snoc {L : List (List InoP)} {D : List Node} {ds : List Drx} {names : List Str} (hw : WkOn L D ds names) {path s : Str} (hp : splitP path = some (names ++ [s])) (hs : nameR s = true) {y : Node} {l : List Node} (h : seenN (hereN D names) s = y :: l) : walkN D path false = ⟨names ++ [s], y :: l, 0⟩ := by
  unfold walkN
  rw [hp]
  simp only
  rw [alongN_eq]
  have := along_dirs (follow := false) (next := nextN D false 40) [s] names [] (ds := ds) (by simpa using hw)
  rw [List.nil_append] at this
  rw [this, alongS, if_neg (nameR_facts hs).2.2.1, h]
  simp only
  by_cases k2 : y.kind = 2
  · rw [if_pos k2, alongS, hereN_snoc, h]
  · rw [if_neg k2, if_neg (by simp), if_neg (by simp)]
theorem walkN_dir {L : List (List InoP)} {D : List Node} {ds : List Drx} {names : List Str} (hw : WkOn L D ds names) {path : Str} (hp : splitP path = some names) (fl : Bool) : walkN D path fl = ⟨names, hereN D names, 0⟩ := by
  unfold walkN
  rw [hp]
  simp only
  rw [alongN_eq]
  have := along_dirs (follow := fl) (next := nextN D fl 40) [] names [] (ds := ds) (by simpa using hw)
  rw [List.nil_append, List.append_nil] at this
  rw [this, alongS]
theorem Ends.way {L : List (List InoP)} {D : List Node} {want : AtN} {t : Fnd} (h : Ends L D want t) (hk : ∀ y l, want.nodes = y :: l → y.kind = 2) : ∃ ds, WkOn L D ds want.names ∧ want.nodes = hereN D want.names := by
  obtain ⟨he, ds, names, hw, hc⟩ := h
  rcases hc with ⟨h1, h2, h3⟩ | ⟨s, y, l, hs, h1, h2, h3, h4, h5⟩
  · exact ⟨ds, by rw [h1]; exact hw, by rw [h1]; exact h2⟩
  · exact absurd (hk y l h4) h3
def lookO (path : Str) : OpN := ⟨1, path, 0, 0, 0, []⟩
theorem doR_look {D : List Node} {ids : Nat → Int} {path : Str} {names : List Str} {y : Node} {l : List Node} (h : walkN D path false = ⟨names, y :: l, 0⟩) : doR D ids (lookO path) = { kind := y.kind, where_ := match levelD D names with | some k => ids k | none => -1 } := by
  unfold doR lookO
  rw [if_neg (by simp [isK]), if_neg (by simp [badOp])]
  have e : followsK 1 = false := by decide
  simp only [e, h]
  rw [if_neg (by simp)]
  unfold finishR
  simp
  try rfl
end Go.Av
