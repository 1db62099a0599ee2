/- Parts of the proofs of this seat: abstract values over the model, and what the functions of the program do. No condition. -/
import Derived.Test.YtclomnkgpemnaaaDoorX05M
set_option linter.all false
set_option linter.unusedVariables false
namespace Go.Av
open Go.Proofs
theorem dirsN_mem : ∀ {l : List Node} {x : Node}, x ∈ dirsN l → x ∈ l
  | n :: l, x, h => by
    rw [dirsN] at h
    rcases List.mem_cons.1 h with rfl | h
    · simp
    · split at h
      · cases h
      · exact List.mem_cons_of_mem _ (dirsN_mem h)
theorem seenN_mem {l : List Node} {s : Str} {x : Node} (h : x ∈ seenN l s) : ∃ n ∈ l, x ∈ n.items := by
  have h2 : x ∈ entriesN l s := by
    unfold seenN at h
    cases he : entriesN l s with
    | nil => rw [he] at h; cases h
    | cons y r =>
      rw [he] at h
      simp only at h
      split at h
      · cases h
      · split at h
        · rw [List.mem_singleton] at h; simp [h]
        · exact (List.takeWhile_sublist _).subset (dirsN_mem h)
  obtain ⟨n, h3, h4⟩ := List.mem_filterMap.1 h2
  exact ⟨n, h3, find_mem h4⟩
theorem seenN_kind {l : List Node} {s : Str} {x y : Node} {r : List Node} (h : seenN l s = y :: r) (k2 : y.kind = 2) (hx : x ∈ seenN l s) : x.kind = 2 := by
  unfold seenN at h hx
  cases he : entriesN l s with
  | nil => rw [he] at h; cases h
  | cons z t =>
    rw [he] at h hx
    simp only at h hx
    split at h
    · cases h
    · rename_i c4
      rw [if_neg c4] at hx
      split at h
      · rename_i c2
        rw [if_pos c2] at hx
        rw [List.mem_singleton] at hx
        subst hx
        cases h
        exact k2
      · rename_i c2
        rw [if_neg c2] at hx
        have h1 := dirsN_mem hx
        have : ∀ (q : List Node), x ∈ q.takeWhile (fun n => decide (n.kind = 2)) → x.kind = 2 := by
          intro q
          induction q with
          | nil => intro h; simp at h
          | cons a q ih =>
            intro h
            rw [List.takeWhile_cons] at h
            split at h
            · rename_i ha
              rcases List.mem_cons.1 h with rfl | h
              · simpa using ha
              · exact ih h
            · cases h
        exact this _ h1
theorem item_depth {n x : Node} (h : x ∈ n.items) : x.depth < n.depth := by
  have := (counts_mem (l := n.items)).2 x h
  rw [Node.depth_eq n]
  omega
theorem rootP_on : ∀ (l : List Node) (L : List (List InoP)) (k : Nat), L.drop k = l.map (fun n => n.tab 0) → OnP L (rootP (l.map fun n => n.tab 0) k) (dirsN l)
  | [], _, _, _ => trivial
  | n :: l, L, k, h => by
    have h0 : L[k]? = some (n.tab 0) := by
      have := congrArg (fun x => x[0]?) h
      simpa using this
    have h1 : L.drop (k + 1) = l.map (fun n => n.tab 0) := by
      have := congrArg (fun x => x.drop 1) h
      simpa [List.drop_drop, Nat.add_comm] using this
    rw [List.map_cons, rootP, dirsN]
    refine ⟨⟨n.tab 0, h0, At.root n⟩, ?_⟩
    have ho : (inoAt (n.tab 0) 0).opq = n.opq := by rw [tab_root]; rfl
    rw [ho]
    split
    · trivial
    · exact rootP_on l L (k + 1) h1
end Go.Av
set_option linter.unusedVariables false
namespace Go.Av
open Go.Proofs
theorem listN_mem {dirs : List Node} {x : Ent} (h : x ∈ listN dirs) : ∃ y t, seenN dirs x.name = y :: t ∧ x.kind = y.kind := by
  obtain ⟨s, hs, he⟩ := List.mem_filterMap.1 h
  unfold entOf at he
  cases hsn : seenN dirs s with
  | nil => rw [hsn] at he; cases he
  | cons y t =>
    rw [hsn] at he
    cases he
    exact ⟨y, t, hsn, rfl⟩
theorem listN_len (dirs : List Node) (b : Nat) (hd : ∀ n ∈ dirs, n.names.l.length ≤ b) : (listN dirs).length ≤ dirs.length * b := by
  have h0 : (listN dirs).length ≤ (namesOf (dirs.map (·.names))).length := List.length_filterMap_le _ _
  have h1 : (namesOf (dirs.map (·.names))).length ≤ totS (dirs.map (·.names)) := by
    unfold namesOf
    rw [List.length_map]
    exact Nat.le_trans (firstL_len _ _) (mergeS_cap _ _)
  have h2 : ∀ l : List Node, (∀ n ∈ l, n.names.l.length ≤ b) → totS (l.map (·.names)) ≤ l.length * b := by
    intro l
    induction l with
    | nil => intro _; simp [totS]
    | cons x l ih =>
      intro h
      have h3 := ih fun y hy => h y (by simp [hy])
      have h4 := h x (by simp)
      simp only [totS, List.map_cons, List.sum_cons, List.length_cons, Nat.add_mul] at h3 ⊢
      omega
  have h5 := h2 dirs hd
  omega
theorem item_names {n x : Node} (h : n.ok) (hx : x ∈ n.items) : x.ok := ((Node.ok_iff n).1 h).2.2.2.1 x hx
set_option maxRecDepth 100000 in
theorem law10_walk_A {w0 : World} {s : Stk} (hs : s.ok) (hg : goodT s.tabs) : ∀ (d : Nat) {S : St} {p : List Spot} {dirs : List Node} {pr dr : Rt} {Q : AV → St → Prop},
    s.on S → OnP s.tabs p dirs → (∀ n ∈ dirs, n.ok ∧ n.allB = true ∧ n.kind = 2 ∧ n.depth < d ∧ n.count ≤ 100000) → p.length ≤ 64 → (∀ S', Sx S S' → Q (.bool true) S') →
    AC w0 F_law10_walk [.agg s.c, .vs 2 (p.map spC) pr, .vs 7 (dirs.map Node.c) dr] S Q := by
  intro d
  induction d using Nat.strongRecOn with
  | ind d ih =>
    intro S p dirs pr dr Q hon hp hd hpl hq
    have hc : s.c = [.vs 2 (s.l.map Mnt.c) s.r.strip, .int .i64 s.next] := rfl
    have hdl : dirs.length ≤ 64 := by rw [← hp.len]; exact hpl
    have hcn : ∀ n ∈ dirs, n.names.l.length ≤ 100000 := fun n hn => by
      obtain ⟨q1, q2, q3, q4, q5⟩ := hd n hn
      rw [allB_lens q2]
      have := (counts_mem (l := n.items)).1
      rw [Node.count_eq] at q5
      omega
    have hll := listN_len dirs 100000 hcn
    rw [hc]
    apply law10_walk_ok
    unfold G_law10_walk
    simp only [← hc]
    simp
    refine merge_List_A hs hon hg hp (fun n hn => ⟨(hd n hn).1, (hd n hn).2.1, hcn n hn⟩) hpl (fun S1 r1 hS1 hr1 => ?_)
    refine ref10_List_A hdl (fun n hn => ⟨(hd n hn).1, (hd n hn).2.1, hcn n hn⟩) (fun r2 => ?_)
    simp
    refine law10_same_A (by omega) (fun S2 hS2 => ?_)
    simp
    rw [joinK_eq]
    have hlm := fun x (hx : x ∈ listN dirs) => listN_mem hx
    generalize hLL : listN dirs = L at hlm hll
    refine loop_list L (fun i (_ : Unit) => ([.int .i64 i], [some s.c])) (fun i _ S' => Sx S S') () rfl (hS1.trans hS2) ?_ ?_
    · rintro i _ S' v b e c hxi hdr hcc hmem hSx hv
      simp at hv
      obtain ⟨hv1, hv2⟩ := hv
      obtain ⟨y, t, hsn, hyk⟩ := hlm e hmem
      have hagr := look_agrees s.tabs e.name p dirs hp (fun n hn => (hd n hn).2.1)
      simp [hv1, hv2, hcc, hxi]
      refine seen_Look_A hs (hon.mono hSx) hg (by omega) (fun r hr => ?_)
      generalize hf : lookS s.tabs e.name p Fnd.none = f at hagr hr
      rw [hsn] at hagr
      obtain ⟨a1, a2, a3, a4, a5, a6, a7, a8⟩ := hagr
      have hf0 : ¬ f.kind = 0 := by rw [a1]; exact a2
      simp [Fnd.c, hf0, a1, hyk]
      try rw [joinK_eq]
      try simp
      try rw [joinK_eq]
      try simp
      by_cases k2 : y.kind = 2
      case neg =>
        simp [k2, joinK_eq, a2]
        try simp (disch := omega) only [wrap64]
        exact .next c () rfl hSx
      rw [if_pos k2] at a6
      obtain ⟨a61, a62⟩ := a6
      simp [k2]
      refine ref08_Seen_A (by omega) (fun n hn => ⟨(hd n hn).1, (hd n hn).2.1⟩) (fun r2 => ?_)
      simp
      have hmem2 : ∀ z ∈ y :: t, ∃ n ∈ dirs, z ∈ n.items := fun z hz => by rw [← hsn] at hz; exact seenN_mem hz
      have hd1 : 1 ≤ d := by
        obtain ⟨n, h1, _⟩ := hmem2 y (by simp)
        have := (hd n h1).2.2.2.1
        omega
      have hlen2 := a8.length_le
      rw [List.length_map, List.length_map] at hlen2
      rw [hsn]
      refine ih (d - 1) (by omega) (dirs := y :: t) (hon.mono hSx) a61 (fun z hz => ?_) (by omega) (fun S5 hS5 => ?_)
      · obtain ⟨n, h1, h2⟩ := hmem2 z hz
        obtain ⟨q1, q2, q3, q4, q5⟩ := hd n h1
        have h6 := item_depth h2
        have h7 := ((counts_mem (l := n.items)).2 z h2).1
        rw [Node.count_eq] at q5
        rw [← hsn] at hz
        exact ⟨item_names q1 h2, allB_item q2 h2, seenN_kind hsn k2 hz, by omega, by omega⟩
      · simp [joinK_eq]
        try simp (disch := omega) only [wrap64]
        exact .next c () rfl (hSx.trans hS5)
    · rintro _ S' v b hSx hv N
      simp at hv
      obtain ⟨hv1, hv2⟩ := hv
      simp [hv1, hv2]
      exact hq _ hSx
set_option maxRecDepth 100000 in
theorem law10_speaks_A {w0 : World} (hm : MaxL w0) {S : St} {Q : AV → St → Prop} (hq : ∀ S', Sx S S' → Q (.bool true) S') : AC w0 F_law10_speaks [] S Q := by
  apply law10_speaks_ok
  unfold G_law10_speaks
  refine tree_Text_A (by simp) (fun r1 hr1 => ?_)
  refine tree_Text_A (by simp) (fun r2 hr2 => ?_)
  simp
  refine tree_Dir_A (l := [[97], [98]]) (items := [textN [120] r1, textN [121] r2]) okR_full okR_full (by simp) (by simp) (fun q1 q2 k1 k2 => ?_)
  refine tree_White_A ?_
  refine tree_Link_A ?_
  simp
  refine tree_Dir_A (l := [[97], [99]]) (items := [whiteN, .mk 3 false ⟨[], .nil⟩ [] .nil 0 [] .nil [98]]) okR_full okR_full (by simp) (by simp) (fun q3 q4 k3 k4 => ?_)
  have hx := textN_ok (s := [120]) (by simp) hr1
  have hy := textN_ok (s := [121]) (by simp) hr2
  have hlk : (Node.mk 3 false ⟨[], .nil⟩ [] .nil 0 [] .nil [98]).ok := by
    rw [Node.ok_iff]
    simp [Node.kind, Node.names, Node.items, Node.ir, Node.size, Node.exts, Node.er, Node.target, I64, Ss.ok]
  have hok1 := dirN_ok (o := false) (l := [[97], [98]]) (items := [textN [120] r1, textN [121] r2]) (by simp) (by simp [hx, hy]) k1 k2
  have hok2 := dirN_ok (o := false) (l := [[97], [99]]) (items := [whiteN, .mk 3 false ⟨[], .nil⟩ [] .nil 0 [] .nil [98]]) (by simp) (by simp [white_ok, hlk]) k3 k4
  have a1 : oneB (textN [120] r1) = true := textN_right (by simp)
  have a2 : (textN [120] r1).allB = true := by rw [Node.all_eq, a1]; rfl
  have b1 : oneB (textN [121] r2) = true := textN_right (by simp)
  have b2 : (textN [121] r2).allB = true := by rw [Node.all_eq, b1]; rfl
  have hr1 : rightB (dirN false [[97], [98]] q1 [textN [120] r1, textN [121] r2] q2) = true := by
    have a3 : oneB (dirN false [[97], [98]] q1 [textN [120] r1, textN [121] r2] q2) = true := by rfl
    have a4 : (dirN false [[97], [98]] q1 [textN [120] r1, textN [121] r2] q2).allB = true := by
      rw [Node.all_eq, a3]
      show (Node.allsB [_, _] && true) = true
      rw [Node.allsB, a2, Node.allsB, b2]
      rfl
    rw [rightB, a4]
    rfl
  have hr2 : rightB (dirN false [[97], [99]] q3 [whiteN, .mk 3 false ⟨[], .nil⟩ [] .nil 0 [] .nil [98]] q4) = true := by rfl
  have hc1 : (dirN false [[97], [98]] q1 [textN [120] r1, textN [121] r2] q2).names.l.length = 2 := by rfl
  have hc2 : (dirN false [[97], [99]] q3 [whiteN, .mk 3 false ⟨[], .nil⟩ [] .nil 0 [] .nil [98]] q4).names.l.length = 2 := by rfl
  have hL : (namesR [dirN false [[97], [99]] q3 [whiteN, .mk 3 false ⟨[], .nil⟩ [] .nil 0 [] .nil [98]] q4, dirN false [[97], [98]] q1 [textN [120] r1, textN [121] r2] q2]).filterMap (entOf [dirN false [[97], [99]] q3 [whiteN, .mk 3 false ⟨[], .nil⟩ [] .nil 0 [] .nil [98]] q4, dirN false [[97], [98]] q1 [textN [120] r1, textN [121] r2] q2]) = [⟨[98], 1⟩, ⟨[99], 3⟩] := by rfl
  have hdn : dirsN [dirN false [[97], [99]] q3 [whiteN, .mk 3 false ⟨[], .nil⟩ [] .nil 0 [] .nil [98]] q4, dirN false [[97], [98]] q1 [textN [120] r1, textN [121] r2] q2] = [dirN false [[97], [99]] q3 [whiteN, .mk 3 false ⟨[], .nil⟩ [] .nil 0 [] .nil [98]] q4, dirN false [[97], [98]] q1 [textN [120] r1, textN [121] r2] q2] := by rfl
  generalize dirN false [[97], [98]] q1 [textN [120] r1, textN [121] r2] q2 = d1 at hok1 hr1 hc1 hL hdn ⊢
  generalize dirN false [[97], [99]] q3 [whiteN, .mk 3 false ⟨[], .nil⟩ [] .nil 0 [] .nil [98]] q4 = d2 at hok2 hr2 hc2 hL hdn ⊢
  simp
  have h0 := ofErr_all [d1, d2] 0 (by simp [hr1, hr2]) (by simp)
  refine stack_Of_A (l := [d1, d2]) hm (by simp [hok1, hok2]) (by simp) (fun S1 h1 => ⟨fun _ s hs => ?_, fun h => absurd h0 h⟩)
  have hgood := hs.good (by simp [hok1, hok2]) h0
  have htabs := stk_tabs hs
  have hroot := rootP_on [d2, d1] s.tabs 0 (by rw [htabs]; rfl)
  have htabs2 : s.tabs = [d2, d1].map (fun n => n.tab 0) := by rw [htabs]; rfl
  rw [← htabs2, hdn] at hroot
  simp [joinK_eq]
  refine stack_Len_A ?_
  rw [hs.len]
  simp
  refine seen_Root_A hs.ok hs.on (fun r hr => ?_)
  simp
  have hall : ∀ n ∈ [d2, d1], n.allB = true := by simp [(rightB_all hr1).2.1, (rightB_all hr2).2.1]
  have hlist : listN [d2, d1] = [⟨[98], 1⟩, ⟨[99], 3⟩] := by rw [listN, ← namesR_eq hall]; exact hL
  refine merge_List_A hs.ok hs.on hgood hroot (by simp [hok1, hok2, (rightB_all hr1).2.1, (rightB_all hr2).2.1, hc1, hc2]) (by rw [hroot.len]; simp) (fun S2 r5 hS2 hr5 => ?_)
  rw [hlist]
  simp [joinK_eq]
  refine merge_Names_A (l := [⟨[98], 1⟩, ⟨[99], 3⟩]) (by simp) (fun S3 r6 hS3 => ?_)
  simp
  exact hq _ ((h1.trans hS2).trans hS3)
set_option maxRecDepth 100000 in
theorem law10_MergeLists_L (w0 : World) (hm : MaxL w0) (x0 : AV) (h0 : TV t_s_api_Node x0) : AC w0 F_law10_MergeLists [x0] [] fun r _ => r = .bool true := by
  refine law_of fun Q hq => ?_
  obtain ⟨l, lr, e1, hlr, hll, hlok⟩ := (dec_Node_aux (h0.one (by simp [isAgg, un_s_api_Node]))).2 rfl
  have e1' : x0 = .vs 7 (l.map Node.c) lr := by simpa using e1
  subst e1'
  apply law10_MergeLists_ok
  unfold G_law10_MergeLists
  refine law10_speaks_A hm (fun S _ => ?_)
  simp
  refine law08_May_A hlok (fun S2 hS2 => ?_)
  cases hmay : mayB l with
  | false => simp [joinK_eq, hq]
  | true =>
  simp
  obtain ⟨h8, hall⟩ := mayB_iff.1 hmay
  refine law08_Stack_A hm hlok hmay (fun S3 s hS3 hs => ?_)
  simp
  try rw [joinK_eq]
  try simp
  have herr := ofErr_all l 0 (fun n hn => (hall n hn).2) (by omega)
  have hgood := hs.good hlok herr
  have htabs := stk_tabs hs
  refine seen_Root_A hs.ok hs.on (fun r2 hr2 => ?_)
  refine law08_Above_A (by omega) (fun r3 => ?_)
  try simp only [callK, argsA]
  try simp
  try rw [← List.map_reverse]
  refine ref08_Dirs_A (by simp; omega) (fun r4 => ?_)
  simp
  have hroot := rootP_on l.reverse s.tabs 0 (by rw [htabs]; rfl)
  rw [← htabs] at hroot
  refine law10_walk_A hs.ok hgood 16 hs.on hroot (fun n hn => ?_) ?_ (fun S4 _ => by simp [hq])
  · have hn2 : n ∈ l := by have := dirsN_mem hn; simpa using this
    obtain ⟨q1, q2, q3, q4⟩ := rightB_all (hall n hn2).2
    exact ⟨hlok n hn2, q2, q1, by omega, by omega⟩
  · have := rootP_len s.tabs 0
    have h2 : s.tabs.length = l.length := by rw [htabs]; simp
    omega
end Go.Av
