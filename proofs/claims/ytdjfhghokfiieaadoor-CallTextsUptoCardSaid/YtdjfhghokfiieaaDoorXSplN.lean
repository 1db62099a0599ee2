/- Parts of the proofs of this seat: abstract values over the model, and what the functions of the program do. No condition. -/
import Derived.Test.YtdjfhghokfiieaaDoorXCut
import Derived.Test.YtdjfhghokfiieaaDoorA39b
import Derived.Test.YtdjfhghokfiieaaDoorY19c
import Derived.Test.YtdjfhghokfiieaaDoorY19
set_option linter.all false
set_option linter.unusedVariables false
set_option maxRecDepth 100000
namespace Go.Proofs
open Go.Shelf Go.Av
shelf_lay Lays.n147 Nm 147 at Tryd as Tryd.lays147
end Go.Proofs
namespace Go.Av
open Go.Proofs Go.Shelf Go.RowKit
theorem splitK_cut : ∀ (k : Nat) (s : Str), Lib.splitK [32] 0 k s = cutN k s
  | 0, s => rfl
  | k + 1, s => by
    have h := cutB_index s
    rw [Lib.splitK, cutN]
    cases hc : cutB s with
    | none =>
      rw [hc] at h
      simp only at h
      rw [h]
      rfl
    | some p =>
      rw [hc] at h
      obtain ⟨h1, h2⟩ := h
      have e : ¬ (Lib.index s [32] == -1) = true := by rw [h1]; simp
      rw [if_neg e, h1]
      have e2 : ((p.1.length : Int)).toNat = p.1.length := by simp
      rw [e2]
      have e3 : s.take (p.1.length + 0) = p.1 := by conv => lhs; rw [h2]; simp
      have e4 : s.drop (p.1.length + [(32 : UInt8)].length) = p.2 := by
        conv => lhs; rw [h2]
        simp
      rw [e3, e4, splitK_cut k p.2]
set_option maxRecDepth 100000 in
theorem SplitN_A {w0 : World} {S : St} {s : Str} {n : Nat} (hm : MaxL w0) (hs : s.length < 4294967281) (hn : 1 ≤ n) (hn2 : n ≤ 1000000) {Q : AV → St → Prop} (hq : Q (.vs 1 ((cutN (n - 1) s).map fun s => [.str s]) .none) S) :
    AC w0 F_strings_SplitN [.str s, .str [32], .int .i64 n] S Q := by
  refine ACalls.of_strsC fn_strings_SplitN (by kernel_rfl) (by kernel_rfl) fun G w args' hr hl' ha => ?_
  obtain ⟨v, u, t, rfl⟩ : ∃ v u t, args' = #[v, u, t] := by
    match args', hl' with
    | ⟨[v, u, t]⟩, _ => exact ⟨v, u, t, rfl⟩
  have h0' := ha 0 _ v rfl rfl
  have h1' := ha 1 _ u rfl rfl
  have h2' := ha 2 _ t rfl rfl
  cases h0'
  cases h1'
  cases h2'
  obtain ⟨m, hm⟩ := hm
  refine (Any.strings_SplitN Tryd.lays147 (by kernel_rfl) ⟨s.toArray⟩ ⟨#[32]⟩ n m w (by simpa [ByteArray.size] using hs) (cell_old hr hm) (by decide) hn (by omega)).mono ?_
  rintro e w' ⟨rfl, rfl⟩
  have hsz : (⟨s.toArray⟩ : ByteArray).size = s.length := by simp [ByteArray.size]
  rw [hsz]
  have hd : (Lib.splitB ⟨#[32]⟩ 0 (min n (s.length + 1) - 1) ⟨s.toArray⟩).map (·.data.toList) = cutN (n - 1) s := by
    rw [Lib.splitB_data]
    show Lib.splitK [32] 0 _ s = _
    rw [splitK_cut, cutN_min n s hn]
  have hlen : (cutN (n - 1) s).length = (Lib.splitB ⟨#[32]⟩ 0 (min n (s.length + 1) - 1) ⟨s.toArray⟩).length := by
    rw [← hd, List.length_map]
  have he : (Lib.splitB ⟨#[32]⟩ 0 (min n (s.length + 1) - 1) ⟨s.toArray⟩).map Value.string = (cutN (n - 1) s).map fun s => Value.string ⟨s.toArray⟩ := by
    rw [← hd, List.map_map]
    rfl
  refine ⟨cutN (n - 1) s, List.replicate (min n (s.length + 1) - (cutN (n - 1) s).length) (Value.string ByteArray.empty), min n (s.length + 1), Tryd.lays147_ren.t 9, ?_, ?_, ?_, hq⟩
  · rw [hlen]
    have := Lib.splitB_length_le ⟨#[32]⟩ 0 (min n (s.length + 1) - 1) ⟨s.toArray⟩
    omega
  · rw [hlen]
  · rw [Lib.cellsOf, ← hlen, he]
end Go.Av
set_option linter.unusedVariables false
set_option maxRecDepth 100000
namespace Go.Av
open Go.Proofs
def nmA : List AV := [.str [], .str [108, 111, 111, 107, 117, 112], .str [115, 116, 97, 116], .str [114, 101, 97, 100, 108, 105, 110, 107], .str [114, 101, 97, 100], .str [111, 112, 101, 110], .str [112, 97, 103, 101], .str [99, 108, 111, 115, 101], .str [97, 100, 100], .str [114, 101, 109, 111, 118, 101]]
theorem call_names_A {w0 : World} {S : St} {Q : AV → St → Prop} (hq : Q (.agg nmA) S) : AC w0 F_call_names [] S Q := by
  apply call_names_ok
  unfold G_call_names
  exact hq
theorem nm_elem {k : Int} (h0 : 0 ≤ k) (h9 : k ≤ 9) : elemA 10 T_string (.agg nmA) (.int .i64 k) = some (.str (nameK k)) := by
  have : k = 0 ∨ k = 1 ∨ k = 2 ∨ k = 3 ∨ k = 4 ∨ k = 5 ∨ k = 6 ∨ k = 7 ∨ k = 8 ∨ k = 9 := by omega
  rcases this with rfl | rfl | rfl | rfl | rfl | rfl | rfl | rfl | rfl | rfl <;> rfl
theorem ref19_Name_A {w0 : World} {S : St} {k : Int} (h1 : 1 ≤ k) (h9 : k ≤ 9) {Q : AV → St → Prop} (hq : Q (.str (nameK k)) S) : AC w0 F_ref19_Name [.int .i64 k] S Q := by
  apply ref19_Name_ok
  unfold G_ref19_Name
  have : k = 1 ∨ k = 2 ∨ k = 3 ∨ k = 4 ∨ k = 5 ∨ k = 6 ∨ k = 7 ∨ k = 8 ∨ k = 9 := by omega
  rcases this with rfl | rfl | rfl | rfl | rfl | rfl | rfl | rfl | rfl <;> exact hq
theorem nameK_len (k : Int) : (nameK k).length ≤ 8 := by
  unfold nameK
  repeat' split
  all_goals decide
theorem hexS_len (s : Str) : (hexS s).length ≤ 2 * s.length + 1 := by
  unfold hexS
  split
  · simp
  · rw [hexF_len]; omega
set_option maxRecDepth 100000 in
theorem call_Text_A {w0 : World} (ht : TabL w0) {S : St} {o : OpN} (ho : o.ok) (hp : o.path.length ≤ 1048576) (hi : o.image.length ≤ 1048576) {Q : AV → St → Prop} (hq : ∀ S', Sx S S' → Q (.str (textP o)) S') : AC w0 F_call_Text [.agg o.c] S Q := by
  unfold OpN.c
  apply call_Text_ok
  unfold G_call_Text
  unfold textP at hq
  simp
  by_cases h1 : o.kind < 1
  · rw [if_pos (.inl h1)] at hq
    simp [h1, joinK_eq]
    exact hq S (Sx.refl _)
  by_cases h9 : 9 < o.kind
  · rw [if_pos (.inr h9)] at hq
    simp [h1, h9, joinK_eq]
    exact hq S (Sx.refl _)
  rw [if_neg (by omega)] at hq
  simp [h1, h9, joinK_eq]
  refine call_names_A ?_
  rw [nm_elem (by omega) (by omega)]
  have hn := nameK_len o.kind
  simp
  rw [binA_add_str (by simp; omega)]
  simp
  have hl1 := numS_len ho.off
  have hl2 := numS_len ho.n
  have hl3 := numS_len ho.id
  generalize nameK o.kind = nm at hn hq ⊢
  by_cases k4 : o.kind = 4
  · rw [if_pos k4] at hq
    simp [k4]
    refine Itoa_A ht ho.off ?_
    rw [binA_add_str (by simp; omega)]
    simp
    rw [binA_add_str (by simp; omega)]
    simp
    refine Itoa_A ht ho.n ?_
    rw [binA_add_str (by simp; omega)]
    simp
    rw [binA_add_str (by simp; omega)]
    simp
    rw [binA_add_str (by simp; omega)]
    simp
    exact hq S (Sx.refl _)
  rw [if_neg k4] at hq
  by_cases k6 : o.kind = 6
  · rw [if_pos k6] at hq
    simp [k6]
    refine Itoa_A ht ho.id ?_
    rw [binA_add_str (by simp; omega)]
    simp
    rw [binA_add_str (by simp; omega)]
    simp
    refine Itoa_A ht ho.n ?_
    rw [binA_add_str (by simp; omega)]
    simp
    exact hq S (Sx.refl _)
  rw [if_neg k6] at hq
  by_cases k7 : o.kind = 7
  · rw [if_pos (.inl k7)] at hq
    simp [k7]
    refine Itoa_A ht ho.id ?_
    rw [binA_add_str (by simp; omega)]
    simp
    exact hq S (Sx.refl _)
  by_cases k9 : o.kind = 9
  · rw [if_pos (.inr k9)] at hq
    simp [k9]
    refine Itoa_A ht ho.id ?_
    rw [binA_add_str (by simp; omega)]
    simp
    exact hq S (Sx.refl _)
  rw [if_neg (by omega)] at hq
  by_cases k8 : o.kind = 8
  · rw [if_pos k8] at hq
    simp [k8]
    have hhl := hexS_len o.image
    refine call_Hex_A (by omega) (fun S2 hS2 => ?_)
    rw [binA_add_str (by simp; omega)]
    simp
    exact hq S2 hS2
  rw [if_neg k8] at hq
  simp [k4, k6, k7, k9, k8]
  rw [binA_add_str (by simp; omega)]
  simp
  exact hq S (Sx.refl _)
set_option maxRecDepth 100000 in
theorem ref19_Text_A {w0 : World} {S : St} {o : OpN} (ho : o.ok) (hp : o.path.length ≤ 1048576) (hi : o.image.length ≤ 1048576) {Q : AV → St → Prop} (hq : Q (.str (textP o)) S) : AC w0 F_ref19_Text [.agg o.c] S Q := by
  unfold OpN.c
  apply ref19_Text_ok
  unfold G_ref19_Text
  unfold textP at hq
  simp
  by_cases h1 : o.kind < 1
  · rw [if_pos (.inl h1)] at hq
    simp [h1, joinK_eq]
    exact hq
  by_cases h9 : 9 < o.kind
  · rw [if_pos (.inr h9)] at hq
    simp [h1, h9, joinK_eq]
    exact hq
  rw [if_neg (by omega)] at hq
  simp [h1, h9, joinK_eq]
  refine ref19_Name_A (by omega) (by omega) ?_
  have hn := nameK_len o.kind
  rw [binA_add_str (by simp; omega)]
  simp
  have hl1 := numS_len ho.off
  have hl2 := numS_len ho.n
  have hl3 := numS_len ho.id
  generalize nameK o.kind = nm at hn hq ⊢
  by_cases k4 : o.kind = 4
  · rw [if_pos k4] at hq
    simp [k4]
    refine ref19_Num_A _ ho.off (Nat.lt_succ_self _) ?_
    rw [binA_add_str (by simp; omega)]
    simp
    rw [binA_add_str (by simp; omega)]
    simp
    refine ref19_Num_A _ ho.n (Nat.lt_succ_self _) ?_
    rw [binA_add_str (by simp; omega)]
    simp
    rw [binA_add_str (by simp; omega)]
    simp
    rw [binA_add_str (by simp; omega)]
    simp
    exact hq
  rw [if_neg k4] at hq
  by_cases k6 : o.kind = 6
  · rw [if_pos k6] at hq
    simp [k6]
    refine ref19_Num_A _ ho.id (Nat.lt_succ_self _) ?_
    rw [binA_add_str (by simp; omega)]
    simp
    rw [binA_add_str (by simp; omega)]
    simp
    refine ref19_Num_A _ ho.n (Nat.lt_succ_self _) ?_
    rw [binA_add_str (by simp; omega)]
    simp
    exact hq
  rw [if_neg k6] at hq
  by_cases k7 : o.kind = 7
  · rw [if_pos (.inl k7)] at hq
    simp [k7]
    refine ref19_Num_A _ ho.id (Nat.lt_succ_self _) ?_
    rw [binA_add_str (by simp; omega)]
    simp
    exact hq
  by_cases k9 : o.kind = 9
  · rw [if_pos (.inr k9)] at hq
    simp [k9]
    refine ref19_Num_A _ ho.id (Nat.lt_succ_self _) ?_
    rw [binA_add_str (by simp; omega)]
    simp
    exact hq
  rw [if_neg (by omega)] at hq
  by_cases k8 : o.kind = 8
  · rw [if_pos k8] at hq
    simp [k8]
    have hhl := hexS_len o.image
    refine ref19_Hex_A (by omega) ?_
    rw [binA_add_str (by simp; omega)]
    simp
    exact hq
  rw [if_neg k8] at hq
  simp [k4, k6, k7, k9, k8]
  rw [binA_add_str (by simp; omega)]
  simp
  exact hq
end Go.Av
set_option linter.unusedVariables false
set_option maxRecDepth 100000
namespace Go.Av
open Go.Proofs
theorem cutN_mem : ∀ (k : Nat) (s : Str), ∀ w ∈ cutN k s, w.length ≤ s.length
  | 0, s, w, h => by simp [cutN] at h; subst h; exact Nat.le_refl _
  | k + 1, s, w, h => by
    rw [cutN] at h
    cases hc : cutB s with
    | none => rw [hc] at h; simp at h; subst h; exact Nat.le_refl _
    | some p =>
      rw [hc] at h
      have hl := cutB_len hc
      simp only [List.mem_cons] at h
      rcases h with rfl | h
      · omega
      · have := cutN_mem k p.2 w h
        omega
def numsC (x y : Int) (r : Rt) : AV := .vs 1 [[.int .i64 x], [.int .i64 y]] r
set_option maxRecDepth 100000 in
theorem call_numbers_A {w0 : World} (hm : MaxL w0) (ht : TabL w0) (he : AtL w0) {S : St} {s : Str} {rest : Bool} (hs : s.length ≤ 100000000) {Q : AV → St → Prop}
    (hq : match numbersP rest s with | some (x, y, p) => ∀ r : Rt, Q (.tup [numsC x y r.strip, .str p, .bool true]) S | none => Q (.tup [.vs 1 [] .nil, .str [], .bool false]) S) : AC w0 F_call_numbers [.str s, .int .i64 2, .bool rest] S Q := by
  apply call_numbers_ok
  unfold G_call_numbers
  cases rest with
  | true =>
    rw [numbersP_true] at hq
    simp [joinK_eq]
    try rw [show IntKind.i64.wrap (2 + 1) = ((3 : Nat) : Int) from by rw [wrap64 (by omega) (by omega)]; rfl]
    try rw [show IntKind.i64.wrap 3 = ((3 : Nat) : Int) from by rw [wrap64 (by omega) (by omega)]; rfl]
    refine SplitN_A (n := 3) hm (by omega) (by omega) (by omega) ?_
    have hmem := cutN_mem 2 s
    rw [show 3 - 1 = 2 from rfl]
    rcases hL : cutN 2 s with _ | ⟨a, _ | ⟨b, _ | ⟨p, _ | ⟨q, l⟩⟩⟩⟩
    · rw [hL] at hq
      simp
      exact hq
    · rw [hL] at hq
      simp
      exact hq
    · rw [hL] at hq
      simp
      exact hq
    · rw [hL] at hq
      simp at hq
      simp [cutA, bnd]
      have hal : a.length ≤ 100000000 := by have := hmem a (by rw [hL]; simp); omega
      have hbl : b.length ≤ 100000000 := by have := hmem b (by rw [hL]; simp); omega
      have hbad : (numOf a = none ∨ numOf b = none) → Q (.tup [.vs 1 [] .nil, .str [], .bool false]) S := fun hc => by
        rcases hc with hc | hc
        · rw [hc] at hq; exact hq
        · rw [hc] at hq
          cases hn : numOf a with
          | none => rw [hn] at hq; exact hq
          | some x => rw [hn] at hq; exact hq
      rw [show ([[AV.str a], [AV.str b]] : List (List AV)) = ([a, b] : List Str).map wStr from rfl]
      refine loop_list [a, b] (fun i (σ : List Int × Rt) => ([.vs 1 (σ.1.map fun n => [.int .i64 n]) σ.2, .int .i64 i], [])) (fun i σ S' => S' = S ∧ σ.2 ≠ .none ∧ ([a, b].take i).map numOf = σ.1.map some) ([], .nil) rfl ⟨rfl, by simp, rfl⟩ ?_ ?_
      · rintro i ⟨ns, r⟩ S' v bx w hi hxi hd hcc hmem2 ⟨rfl, hr, hns⟩ hv
        simp at hv hr hns
        obtain ⟨hv1, hv2⟩ := hv
        have hwl : w.length ≤ 100000000 := by
          simp at hmem2
          rcases hmem2 with rfl | rfl <;> assumption
        have hnl : ns.length ≤ 2 := by
          have := congrArg List.length hns
          simp at this
          simp at hi
          omega
        have hrow : ([[AV.str a], [AV.str b]] : List (List AV))[i]? = some [AV.str w] := by
          have : (([a, b] : List Str).map wStr)[i]? = some (wStr w) := by rw [List.getElem?_map, hxi]; rfl
          exact this
        have hi2 : (i : Int) < 2 := by simp at hi; omega
        simp [hv1, hv2, hcc, hrow, hi2]
        refine call_Number_A (s := w) ht he (by omega) ?_
        cases hw : numOf w with
        | none =>
          simp
          refine hbad ?_
          simp at hmem2
          rcases hmem2 with rfl | rfl
          · exact .inl hw
          · exact .inr hw
        | some n =>
          rw [atoiV_num hw]
          simp [appendA, elemsA, hr, show ns.length + 1 ≤ lim by unfold lim; omega]
          try simp (disch := omega) only [wrap64]
          refine .next hi (ns ++ [n], .own (rowTy T_int r)) (by simp) ⟨rfl, by simp, ?_⟩
          have hns2 : ([a, b].take i).map numOf = ns.map some := by rw [List.map_take]; exact hns
          have e2 : [numOf a, numOf b].take (i + 1) = ([a, b].take (i + 1)).map numOf := by rw [List.map_take]; rfl
          rw [e2, List.take_succ, hxi, List.map_append, hns2]
          simp [hw]
      · rintro ⟨ns, r⟩ S' v bx ⟨rfl, hr, hns⟩ hv N
        simp at hv hns
        obtain ⟨hv1, hv2⟩ := hv
        obtain ⟨x, y, rfl⟩ : ∃ x y, ns = [x, y] := by
          match ns, hns with
          | [x, y], _ => exact ⟨x, y, rfl⟩
          | [], hns => simp at hns
          | [_], hns => simp at hns
          | _ :: _ :: _ :: _, hns => simp at hns
        simp at hns
        rw [hns.1, hns.2] at hq
        simp [hv1, hv2]
        simpa [numsC] using hq r
    · rw [hL] at hq
      have hne : ¬ ((l.length : Int) + 1 + 1 + 1 + 1 = 3) := by omega
      simp [hne]
      exact hq
  | false =>
    rw [numbersP_false] at hq
    simp [joinK_eq]
    try rw [show IntKind.i64.wrap (2 + 1) = ((3 : Nat) : Int) from by rw [wrap64 (by omega) (by omega)]; rfl]
    try rw [show IntKind.i64.wrap 3 = ((3 : Nat) : Int) from by rw [wrap64 (by omega) (by omega)]; rfl]
    refine SplitN_A (n := 2) hm (by omega) (by omega) (by omega) ?_
    have hmem := cutN_mem 1 s
    rw [show 2 - 1 = 1 from rfl]
    rcases hL : cutN 1 s with _ | ⟨a, _ | ⟨b, _ | ⟨p, _ | ⟨q, l⟩⟩⟩⟩
    · rw [hL] at hq
      simp
      exact hq
    · rw [hL] at hq
      simp
      exact hq
    · rw [hL] at hq
      simp at hq
      simp [cutA, bnd]
      have hal : a.length ≤ 100000000 := by have := hmem a (by rw [hL]; simp); omega
      have hbl : b.length ≤ 100000000 := by have := hmem b (by rw [hL]; simp); omega
      have hbad : (numOf a = none ∨ numOf b = none) → Q (.tup [.vs 1 [] .nil, .str [], .bool false]) S := fun hc => by
        rcases hc with hc | hc
        · rw [hc] at hq; exact hq
        · rw [hc] at hq
          cases hn : numOf a with
          | none => rw [hn] at hq; exact hq
          | some x => rw [hn] at hq; exact hq
      rw [show ([[AV.str a], [AV.str b]] : List (List AV)) = ([a, b] : List Str).map wStr from rfl]
      refine loop_list [a, b] (fun i (σ : List Int × Rt) => ([.vs 1 (σ.1.map fun n => [.int .i64 n]) σ.2, .int .i64 i], [])) (fun i σ S' => S' = S ∧ σ.2 ≠ .none ∧ ([a, b].take i).map numOf = σ.1.map some) ([], .nil) rfl ⟨rfl, by simp, rfl⟩ ?_ ?_
      · rintro i ⟨ns, r⟩ S' v bx w hi hxi hd hcc hmem2 ⟨rfl, hr, hns⟩ hv
        simp at hv hr hns
        obtain ⟨hv1, hv2⟩ := hv
        have hwl : w.length ≤ 100000000 := by
          simp at hmem2
          rcases hmem2 with rfl | rfl <;> assumption
        have hnl : ns.length ≤ 2 := by
          have := congrArg List.length hns
          simp at this
          simp at hi
          omega
        have hrow : ([[AV.str a], [AV.str b]] : List (List AV))[i]? = some [AV.str w] := by
          have : (([a, b] : List Str).map wStr)[i]? = some (wStr w) := by rw [List.getElem?_map, hxi]; rfl
          exact this
        have hi2 : (i : Int) < 2 := by simp at hi; omega
        simp [hv1, hv2, hcc, hrow, hi2]
        refine call_Number_A (s := w) ht he (by omega) ?_
        cases hw : numOf w with
        | none =>
          simp
          refine hbad ?_
          simp at hmem2
          rcases hmem2 with rfl | rfl
          · exact .inl hw
          · exact .inr hw
        | some n =>
          rw [atoiV_num hw]
          simp [appendA, elemsA, hr, show ns.length + 1 ≤ lim by unfold lim; omega]
          try simp (disch := omega) only [wrap64]
          refine .next hi (ns ++ [n], .own (rowTy T_int r)) (by simp) ⟨rfl, by simp, ?_⟩
          have hns2 : ([a, b].take i).map numOf = ns.map some := by rw [List.map_take]; exact hns
          have e2 : [numOf a, numOf b].take (i + 1) = ([a, b].take (i + 1)).map numOf := by rw [List.map_take]; rfl
          rw [e2, List.take_succ, hxi, List.map_append, hns2]
          simp [hw]
      · rintro ⟨ns, r⟩ S' v bx ⟨rfl, hr, hns⟩ hv N
        simp at hv hns
        obtain ⟨hv1, hv2⟩ := hv
        obtain ⟨x, y, rfl⟩ : ∃ x y, ns = [x, y] := by
          match ns, hns with
          | [x, y], _ => exact ⟨x, y, rfl⟩
          | [], hns => simp at hns
          | [_], hns => simp at hns
          | _ :: _ :: _ :: _, hns => simp at hns
        simp at hns
        rw [hns.1, hns.2] at hq
        simp [hv1, hv2]
        simpa [numsC] using hq r
    · rw [hL] at hq
      simp
      exact hq
    · rw [hL] at hq
      have hne : ¬ ((l.length : Int) + 1 + 1 + 1 + 1 = 2) := by omega
      simp [hne]
      exact hq
end Go.Av
set_option linter.unusedVariables false
set_option maxRecDepth 100000
namespace Go.Av
open Go.Proofs
def kf (w : Str) : Nat → Int
  | 0 => 0
  | i + 1 => if 0 < i ∧ nameK i = w then i else kf w i
theorem kf_ten (w : Str) : kf w 10 = kindOf w := by
  by_cases h1 : w = nameK 1
  · subst h1; decide
  by_cases h2 : w = nameK 2
  · subst h2; decide
  by_cases h3 : w = nameK 3
  · subst h3; decide
  by_cases h4 : w = nameK 4
  · subst h4; decide
  by_cases h5 : w = nameK 5
  · subst h5; decide
  by_cases h6 : w = nameK 6
  · subst h6; decide
  by_cases h7 : w = nameK 7
  · subst h7; decide
  by_cases h8 : w = nameK 8
  · subst h8; decide
  by_cases h9 : w = nameK 9
  · subst h9; decide
  have e : ∀ k : Int, ¬ w = nameK k → ¬ nameK k = w := fun k h h' => h h'.symm
  unfold kindOf
  rw [if_neg h1, if_neg h2, if_neg h3, if_neg h4, if_neg h5, if_neg h6, if_neg h7, if_neg h8, if_neg h9]
  simp only [kf]
  simp [e 1 h1, e 2 h2, e 3 h3, e 4 h4, e 5 h5, e 6 h6, e 7 h7, e 8 h8, e 9 h9]
def parseA (line : Str) : AV := match parseP line with | some o => .tup [.agg o.c, .bool true] | none => .tup [.agg OpN.zero.c, .bool false]
set_option maxRecDepth 100000 in
theorem call_Parse_A {w0 : World} (hm : MaxL w0) (ht : TabL w0) (he : AtL w0) {S : St} {line : Str} (hs : line.length ≤ 100000000) {Q : AV → St → Prop} (hq : Q (parseA line) S) : AC w0 F_call_Parse [.str line] S Q := by
  apply call_Parse_ok
  unfold G_call_Parse
  unfold parseA at hq
  rw [parseP_eq] at hq
  refine Cut_A hm (by omega) ?_
  cases hc : cutB line with
  | none =>
    rw [hc] at hq
    simp [joinK_eq]
    exact hq
  | some wr =>
    obtain ⟨w, rest⟩ := wr
    rw [hc] at hq
    have hl := cutB_len hc
    simp only at hq hl
    simp
    rw [joinK_eq]
    refine Contains_A ?_
    by_cases h10 : 10 ∈ line
    · rw [if_pos h10] at hq
      simp [h10]
      exact hq
    rw [if_neg h10] at hq
    simp [h10]
    rw [joinK_eq]
    refine call_names_A ?_
    refine loopQ_by (fun i : Nat => ([.int .i64 i], [some [.int .i64 (kf w i), .str [], .int .i64 0, .int .i64 0, .int .i64 0, .str []]])) (fun k i S2 => S2 = S ∧ i ≤ 10 ∧ k = 10 - i) 10 0 rfl ⟨rfl, by omega, rfl⟩ ?_
    rintro k i S2 v b ⟨rfl, hi, hk⟩ hv
    simp at hv
    obtain ⟨hv1, hv2⟩ := hv
    by_cases h : i < 10
    · have hi2 : (i : Int) < 10 := by omega
      simp [hv1, hv2, hi2]
      rw [joinK_eq, nm_elem (by omega) (by omega)]
      have hkf : kf w (i + 1) = if 0 < i ∧ nameK i = w then (i : Int) else kf w i := rfl
      by_cases h0 : 0 < i
      · have h0' : (0 : Int) < i := by omega
        by_cases hn : nameK i = w
        · rw [if_pos ⟨h0, hn⟩] at hkf
          simp [h0, h0', hn, joinK_eq]
          try simp (disch := omega) only [wrap64]
          exact ⟨10 - (i + 1), i + 1, by omega, by simp [hkf], rfl, by omega, rfl⟩
        · rw [if_neg (fun h => hn h.2)] at hkf
          simp [h0, h0', hn, joinK_eq]
          try simp (disch := omega) only [wrap64]
          exact ⟨10 - (i + 1), i + 1, by omega, by simp [hkf], rfl, by omega, rfl⟩
      · have h0' : ¬ (0 : Int) < i := by omega
        rw [if_neg (fun h => h0 h.1)] at hkf
        simp [h0, h0', joinK_eq]
        try simp (disch := omega) only [wrap64]
        exact ⟨10 - (i + 1), i + 1, by omega, by simp [hkf], rfl, by omega, rfl⟩
    · have e : i = 10 := by omega
      subst e
      simp [hv1, hv2]
      rw [kf_ten]
      generalize hkd : kindOf w = kd at hq ⊢
      by_cases k0 : kd = 0
      · rw [if_pos k0] at hq
        simp [k0, joinK_eq]
        exact hq
      rw [if_neg k0] at hq
      by_cases k4 : kd = 4
      · rw [if_pos k4] at hq
        simp [k4, joinK_eq]
        refine call_numbers_A hm ht he (by omega) ?_
        cases hn : numbersP true rest with
        | none =>
          rw [hn] at hq
          simp
          exact hq
        | some t =>
          obtain ⟨x, y, p⟩ := t
          rw [hn] at hq
          intro r
          simp [numsC]
          exact hq
      rw [if_neg k4] at hq
      by_cases k6 : kd = 6
      · rw [if_pos k6] at hq
        simp [k6, joinK_eq]
        refine call_numbers_A hm ht he (by omega) ?_
        cases hn : numbersP false rest with
        | none =>
          rw [hn] at hq
          simp
          exact hq
        | some t =>
          obtain ⟨x, y, p⟩ := t
          rw [hn] at hq
          intro r
          simp [numsC]
          exact hq
      rw [if_neg k6] at hq
      by_cases k79 : kd = 7 ∨ kd = 9
      · rw [if_pos k79] at hq
        rcases k79 with k7 | k9
        · simp [k7, joinK_eq]
          refine call_Number_A ht he (by omega) ?_
          cases hn : numOf rest with
          | none => rw [hn] at hq; simp; exact hq
          | some x => rw [hn] at hq; rw [atoiV_num hn]; simp; subst k7; exact hq
        · simp [k9, joinK_eq]
          refine call_Number_A ht he (by omega) ?_
          cases hn : numOf rest with
          | none => rw [hn] at hq; simp; exact hq
          | some x => rw [hn] at hq; rw [atoiV_num hn]; simp; subst k9; exact hq
      rw [if_neg k79] at hq
      have k7 : ¬ kd = 7 := fun h => k79 (.inl h)
      have k9 : ¬ kd = 9 := fun h => k79 (.inr h)
      by_cases k8 : kd = 8
      · rw [if_pos k8] at hq
        simp [k8, joinK_eq]
        refine call_Bytes_A (by omega) (fun c hcx => ?_)
        cases hn : bytesS rest with
        | none => rw [hn] at hq; simp; exact hq
        | some x => rw [hn] at hq; rw [hcx x hn]; simp; exact hq
      rw [if_neg k8] at hq
      simp [k0, k4, k6, k7, k9, k8, joinK_eq]
      exact hq
end Go.Av
set_option linter.unusedVariables false
set_option maxRecDepth 100000
namespace Go.Av
open Go.Proofs
theorem textP_len {o : OpN} (ho : o.ok) : (textP o).length ≤ 100 + o.path.length + 2 * o.image.length := by
  have hl1 := numS_len ho.off
  have hl2 := numS_len ho.n
  have hl3 := numS_len ho.id
  have hn := nameK_len o.kind
  have hh := hexS_len o.image
  unfold textP
  split
  · simp
  · repeat' split
    all_goals simp only [List.length_append, List.length_cons]
    all_goals omega
theorem right_iff {o : OpN} (ho : o.ok) : onlyP o = if o.kind < 1 ∨ 9 < o.kind ∨ 10 ∈ o.path then false else match parseP (textP o) with | some x => decide (x = o) | none => false := by
  by_cases h : o.kind < 1 ∨ 9 < o.kind ∨ 10 ∈ o.path
  · rw [if_pos h]
    unfold onlyP
    rcases h with h | h | h
    · have e : ∀ k : Int, 1 ≤ k → ¬ o.kind = k := fun k hk e => by omega
      simp [e 1, e 2, e 3, e 4, e 5, e 6, e 7, e 8, e 9]
    · have e : ∀ k : Int, k ≤ 9 → ¬ o.kind = k := fun k hk e => by omega
      simp [e 1, e 2, e 3, e 4, e 5, e 6, e 7, e 8, e 9]
    · simp [h]
  · rw [if_neg h]
    by_cases hon : onlyP o = true
    · rw [parse_text hon ho, hon]
      simp
    · have : onlyP o = false := by simpa using hon
      rw [this]
      cases hp : parseP (textP o) with
      | none => rfl
      | some x =>
        simp only
        obtain ⟨h1, _, _⟩ := parse_only hp
        have : x ≠ o := fun e => hon (by rw [← e]; exact h1)
        simp [this]
set_option maxRecDepth 100000 in
theorem ref19_Only_A {w0 : World} {S : St} {o : OpN} (hp : o.path.length ≤ 1048576) {Q : AV → St → Prop} (hq : Q (.bool (onlyP o)) S) : AC w0 F_ref19_Only [.agg o.c] S Q := by
  unfold OpN.c
  apply ref19_Only_ok
  unfold G_ref19_Only
  unfold onlyP at hq
  simp
  rw [joinK_eq]
  refine loopQ_by (fun i : Nat => ([.int .i64 i], [some o.c])) (fun k i S2 => S2 = S ∧ i ≤ o.path.length ∧ k = o.path.length - i ∧ 10 ∉ o.path.take i) o.path.length 0 (by simp [OpN.c]) ⟨rfl, by omega, by simp, by simp⟩ ?_
  rintro k i S2 v b ⟨rfl, hi, hk, hno⟩ hv
  simp at hv
  obtain ⟨hv1, hv2⟩ := hv
  have ho : o.c = [.int .i64 o.kind, .str o.path, .int .i64 o.off, .int .i64 o.n, .int .i64 o.id, .str o.image] := rfl
  by_cases h : i < o.path.length
  · have hi2 : (i : Int) < o.path.length := by omega
    obtain ⟨c, hc⟩ : ∃ c, o.path[i]? = some c := ⟨_, List.getElem?_eq_getElem h⟩
    simp [hv1, hv2, ho, hi2, hc]
    by_cases h10 : c = 10
    · subst h10
      have hm : 10 ∈ o.path := List.mem_of_getElem? hc
      simp [hm] at hq
      simp
      exact hq
    · have hcn : ¬ (c.toNat : Int) = 10 := fun e => h10 (UInt8.toNat_inj.1 (by have : c.toNat = 10 := by omega
                                                                               rw [this]; rfl))
      simp [hcn]
      try simp (disch := omega) only [wrap64]
      refine ⟨o.path.length - (i + 1), i + 1, by omega, by simp [ho], rfl, h, rfl, ?_⟩
      rw [List.take_succ, hc]
      simp [hno]
      exact fun e => h10 e.symm
  · have e : i = o.path.length := by omega
    subst e
    rw [List.take_length] at hno
    have hno' : decide (10 ∉ o.path) = true := by simpa using hno
    rw [hno'] at hq
    simp [hv1, hv2, ho]
    simp only [Bool.true_and] at hq
    by_cases k1 : o.kind = 1
    · simp [k1, joinK_eq] at hq ⊢
      simpa [Bool.and_assoc] using hq
    by_cases k2 : o.kind = 2
    · simp [k2, joinK_eq] at hq ⊢
      simpa [Bool.and_assoc] using hq
    by_cases k3 : o.kind = 3
    · simp [k3, joinK_eq] at hq ⊢
      simpa [Bool.and_assoc] using hq
    by_cases k5 : o.kind = 5
    · simp [k5, joinK_eq] at hq ⊢
      simpa [Bool.and_assoc] using hq
    by_cases k4 : o.kind = 4
    · simp [k4, joinK_eq] at hq ⊢
      simpa [Bool.and_assoc] using hq
    by_cases k6 : o.kind = 6
    · simp [k6, joinK_eq] at hq ⊢
      simpa [Bool.and_assoc] using hq
    by_cases k7 : o.kind = 7
    · simp [k7, joinK_eq] at hq ⊢
      simpa [Bool.and_assoc] using hq
    by_cases k9 : o.kind = 9
    · simp [k9, joinK_eq] at hq ⊢
      simpa [Bool.and_assoc] using hq
    by_cases k8 : o.kind = 8
    · simp [k8, joinK_eq] at hq ⊢
      simpa [Bool.and_assoc] using hq
    simp [k1, k2, k3, k5, k4, k6, k7, k9, k8, joinK_eq] at hq ⊢
    exact hq
theorem op_eqA (x o : OpN) : eqA (.agg [.int .i64 0, .str [], .int .i64 0, .int .i64 0, .int .i64 0, .str []]) (.agg x.c) (.agg o.c) = some (decide (x = o)) := by
  obtain ⟨a1, a2, a3, a4, a5, a6⟩ := x
  obtain ⟨b1, b2, b3, b4, b5, b6⟩ := o
  simp only [eqA, OpN.c, typedCells, decide_true, Bool.and_self, if_true, cellsEq, cellEq, OpN.mk.injEq, Bool.true_and]
  by_cases h1 : a1 = b1 <;> by_cases h2 : a2 = b2 <;> by_cases h3 : a3 = b3 <;> by_cases h4 : a4 = b4 <;> by_cases h5 : a5 = b5 <;> by_cases h6 : a6 = b6 <;> simp [h1, h2, h3, h4, h5, h6]
set_option maxRecDepth 100000 in
theorem call_Right_A {w0 : World} (hm : MaxL w0) (ht : TabL w0) (he : AtL w0) {S : St} {o : OpN} (ho : o.ok) (hp : o.path.length ≤ 1048576) (hi : o.image.length ≤ 1048576) {Q : AV → St → Prop} (hq : ∀ S', Sx S S' → Q (.bool (onlyP o)) S') : AC w0 F_call_Right [.agg o.c] S Q := by
  have hoc : o.c = [.int .i64 o.kind, .str o.path, .int .i64 o.off, .int .i64 o.n, .int .i64 o.id, .str o.image] := rfl
  have hr := right_iff ho
  unfold OpN.c
  apply call_Right_ok
  unfold G_call_Right
  simp
  rw [joinK_eq]
  by_cases h1 : o.kind < 1
  · have : onlyP o = false := by rw [hr, if_pos (.inl h1)]
    rw [this] at hq
    simp [h1, joinK_eq]
    exact hq S (Sx.refl _)
  by_cases h9 : 9 < o.kind
  · have : onlyP o = false := by rw [hr, if_pos (.inr (.inl h9))]
    rw [this] at hq
    simp [h1, h9, joinK_eq]
    exact hq S (Sx.refl _)
  simp [h1, h9, joinK_eq]
  refine Contains_A ?_
  by_cases h10 : 10 ∈ o.path
  · have : onlyP o = false := by rw [hr, if_pos (.inr (.inr h10))]
    rw [this] at hq
    simp [h10]
    exact hq S (Sx.refl _)
  rw [if_neg (by simp [h1, h9, h10])] at hr
  simp [h10]
  rw [← hoc]
  refine call_Text_A ht ho hp hi (fun S2 hS2 => ?_)
  simp
  have htl := textP_len ho
  refine call_Parse_A hm ht he (by omega) ?_
  unfold parseA
  cases hps : parseP (textP o) with
  | none =>
    rw [hps] at hr
    have hz : OpN.zero ≠ o := fun e => by rw [← e] at h1; simp [OpN.zero] at h1
    have hoz : OpN.zero.c = [.int .i64 0, .str [], .int .i64 0, .int .i64 0, .int .i64 0, .str []] := rfl
    have := op_eqA OpN.zero o
    rw [decide_eq_false hz, hoz] at this
    simp [binE, hoz, this]
    simp only at hr
    rw [hr] at hq
    exact hq S2 hS2
  | some x =>
    rw [hps] at hr
    have hoz : x.c = [.int .i64 x.kind, .str x.path, .int .i64 x.off, .int .i64 x.n, .int .i64 x.id, .str x.image] := rfl
    have := op_eqA x o
    rw [hoz] at this
    simp [binE, hoz, this]
    simp only at hr
    rw [hr] at hq
    exact hq S2 hS2
end Go.Av
set_option linter.unusedVariables false
set_option maxRecDepth 100000
namespace Go.Av
open Go.Proofs
def okS : Str := [111, 107]
def hexes : List Str → Str
  | [] => []
  | s :: l => 32 :: (hexS s ++ hexes l)
theorem hexes_snoc (l : List Str) (s : Str) : hexes (l ++ [s]) = hexes l ++ 32 :: hexS s := by
  induction l with
  | nil => simp [hexes]
  | cons x l ih => rw [List.cons_append, hexes, ih, hexes]; simp
theorem hexes_len : ∀ (l : List Str), (∀ s ∈ l, s.length ≤ 200) → (hexes l).length ≤ 402 * l.length
  | [], _ => by simp [hexes]
  | x :: l, h => by
    have h1 := hexS_len x
    have h2 := h x (by simp)
    have h3 := hexes_len l fun s hs => h s (by simp [hs])
    simp only [hexes, List.length_cons, List.length_append]
    omega
def showP (k : Int) (r : ResN) : Str :=
  if r.err ≠ 0 then [101, 114, 114, 111, 114, 32] ++ numS r.err
  else if k = 1 then okS ++ (32 :: (numS r.kind ++ 32 :: numS r.where_))
  else if k = 2 then okS ++ (32 :: (numS r.kind ++ 32 :: numS r.size))
  else if k = 3 ∨ k = 4 then okS ++ 32 :: hexS r.text
  else if k = 5 ∨ k = 8 then okS ++ 32 :: numS r.id
  else if k = 6 then (if r.end_ = true then okS ++ [32, 101, 110, 100] else okS) ++ hexes r.names
  else okS
structure ResN.ok (r : ResN) : Prop where
  err : I64r r.err
  kind : I64r r.kind
  size : I64r r.size
  where_ : I64r r.where_
  id : I64r r.id
set_option maxRecDepth 100000 in
theorem call_Show_A {w0 : World} (ht : TabL w0) {S : St} {k : Int} {r : ResN} {rt : Rt} (hr : r.ok) (htx : r.text.length ≤ 1048576) (hn : r.names.length ≤ 100) (hnl : ∀ s ∈ r.names, s.length ≤ 200) {Q : AV → St → Prop} (hq : ∀ S', Sx S S' → Q (.str (showP k r)) S') : AC w0 F_call_Show [.int .i64 k, .agg (r.c rt)] S Q := by
  unfold ResN.c
  apply call_Show_ok
  unfold G_call_Show
  unfold showP okS at hq
  have l1 := numS_len hr.err
  have l2 := numS_len hr.kind
  have l3 := numS_len hr.size
  have l4 := numS_len hr.where_
  have l5 := numS_len hr.id
  have l6 := hexS_len r.text
  simp
  by_cases he : r.err ≠ 0
  · rw [if_pos he] at hq
    simp [he]
    refine Itoa_A ht hr.err ?_
    rw [binA_add_str (by simp; omega)]
    simp
    exact hq S (Sx.refl _)
  rw [if_neg he] at hq
  have he0 : r.err = 0 := by simpa using he
  simp [he0]
  rw [joinK_eq]
  by_cases k1 : k = 1
  · rw [if_pos k1] at hq
    simp [k1]
    refine Itoa_A ht hr.kind ?_
    rw [binA_add_str (by simp; omega)]
    simp
    rw [binA_add_str (by simp; omega)]
    simp
    refine Itoa_A ht hr.where_ ?_
    rw [binA_add_str (by simp; omega)]
    simp
    rw [binA_add_str (by simp; omega)]
    simp
    exact hq S (Sx.refl _)
  rw [if_neg k1] at hq
  by_cases k2 : k = 2
  · rw [if_pos k2] at hq
    simp [k2]
    refine Itoa_A ht hr.kind ?_
    rw [binA_add_str (by simp; omega)]
    simp
    rw [binA_add_str (by simp; omega)]
    simp
    refine Itoa_A ht hr.size ?_
    rw [binA_add_str (by simp; omega)]
    simp
    rw [binA_add_str (by simp; omega)]
    simp
    exact hq S (Sx.refl _)
  rw [if_neg k2] at hq
  by_cases k34 : k = 3 ∨ k = 4
  · rw [if_pos k34] at hq
    have hgo : AC w0 F_call_Hex [.str r.text] S fun t48 S_6 => optK (binA .add (.str [32]) t48) fun t49 => optK (binA .add (.str [111, 107]) t49) fun t50 => Q t50.strip S_6 := by
      refine call_Hex_A (by omega) (fun S2 hS2 => ?_)
      rw [binA_add_str (by simp; omega)]
      simp
      rw [binA_add_str (by simp; omega)]
      simp
      exact hq S2 hS2
    rcases k34 with k3 | k4
    · simp [k3, joinK_eq]
      exact hgo
    · simp [k4, joinK_eq]
      exact hgo
  rw [if_neg k34] at hq
  have k3 : ¬ k = 3 := fun h => k34 (.inl h)
  have k4 : ¬ k = 4 := fun h => k34 (.inr h)
  by_cases k58 : k = 5 ∨ k = 8
  · rw [if_pos k58] at hq
    have hgo : AC w0 F_strconv_Itoa [.int .i64 r.id] S fun t48 S_6 => optK (binA .add (.str [32]) t48) fun t49 => optK (binA .add (.str [111, 107]) t49) fun t50 => Q t50.strip S_6 := by
      refine Itoa_A ht hr.id ?_
      rw [binA_add_str (by simp; omega)]
      simp
      rw [binA_add_str (by simp; omega)]
      simp
      exact hq S (Sx.refl _)
    rcases k58 with k5 | k8
    · simp [k5, joinK_eq]
      exact hgo
    · simp [k8, joinK_eq]
      exact hgo
  rw [if_neg k58] at hq
  have k5 : ¬ k = 5 := fun h => k58 (.inl h)
  have k8 : ¬ k = 8 := fun h => k58 (.inr h)
  by_cases k6 : k = 6
  · rw [if_pos k6] at hq
    cases hend : r.end_ with
    | true =>
      rw [hend, if_pos rfl] at hq
      simp [k1, k2, k3, k4, k5, k8, k6, joinK_eq, hend]
      rw [binA_add_str (by simp)]
      simp
      refine loop_list r.names (fun i (_ : Unit) => ([.str ([111, 107, 32, 101, 110, 100] ++ hexes (r.names.take i)), .int .i64 i], [])) (fun i _ S' => Sx S S') () (by simp [hexes]) (Sx.refl _) ?_ ?_
      · rintro i _ S' v b w hi hxi hd hcc hmem hSx hv
        simp at hv
        obtain ⟨hv1, hv2⟩ := hv
        have hwl := hnl w hmem
        have hhl := hexS_len w
        have htl : (r.names.take i).length ≤ 100 := by simp; omega
        have hhs := hexes_len (r.names.take i) fun s hs => hnl s (List.take_subset _ _ hs)
        simp [hv1, hv2, hcc, hxi]
        refine call_Hex_A (by omega) (fun S2 hS2 => ?_)
        rw [binA_add_str (by simp; omega)]
        simp
        rw [binA_add_str (by simp; omega)]
        simp
        try simp (disch := omega) only [wrap64]
        refine .next hi () ?_ (hSx.trans hS2)
        rw [List.take_succ, hxi]
        simp [hexes_snoc]
      · rintro _ S' v b hSx hv N
        simp at hv
        obtain ⟨hv1, hv2⟩ := hv
        simp [hv1, hv2]
        exact hq _ hSx
    | false =>
      rw [hend, if_neg (by simp)] at hq
      simp [k1, k2, k3, k4, k5, k8, k6, joinK_eq, hend]
      refine loop_list r.names (fun i (_ : Unit) => ([.str ([111, 107] ++ hexes (r.names.take i)), .int .i64 i], [])) (fun i _ S' => Sx S S') () (by simp [hexes]) (Sx.refl _) ?_ ?_
      · rintro i _ S' v b w hi hxi hd hcc hmem hSx hv
        simp at hv
        obtain ⟨hv1, hv2⟩ := hv
        have hwl := hnl w hmem
        have hhl := hexS_len w
        have htl : (r.names.take i).length ≤ 100 := by simp; omega
        have hhs := hexes_len (r.names.take i) fun s hs => hnl s (List.take_subset _ _ hs)
        simp [hv1, hv2, hcc, hxi]
        refine call_Hex_A (by omega) (fun S2 hS2 => ?_)
        rw [binA_add_str (by simp; omega)]
        simp
        rw [binA_add_str (by simp; omega)]
        simp
        try simp (disch := omega) only [wrap64]
        refine .next hi () ?_ (hSx.trans hS2)
        rw [List.take_succ, hxi]
        simp [hexes_snoc]
      · rintro _ S' v b hSx hv N
        simp at hv
        obtain ⟨hv1, hv2⟩ := hv
        simp [hv1, hv2]
        exact hq _ hSx
  · rw [if_neg k6] at hq
    simp [k1, k2, k3, k4, k5, k8, k6, joinK_eq]
    exact hq S (Sx.refl _)
end Go.Av
set_option linter.unusedVariables false
set_option maxRecDepth 100000
namespace Go.Av
open Go.Proofs
set_option maxRecDepth 100000 in
theorem ref19_Show_A {w0 : World} {S : St} {k : Int} {r : ResN} {rt : Rt} (hr : r.ok) (htx : r.text.length ≤ 1048576) (hn : r.names.length ≤ 100) (hnl : ∀ s ∈ r.names, s.length ≤ 200) {Q : AV → St → Prop} (hq : Q (.str (showP k r)) S) : AC w0 F_ref19_Show [.int .i64 k, .agg (r.c rt)] S Q := by
  have hrc : r.c rt = [.int .i64 r.err, .int .i64 r.kind, .int .i64 r.size, .int .i64 r.where_, .int .i64 r.id, .str r.text, .vs 1 (r.names.map wStr) rt, .bool r.end_] := rfl
  unfold ResN.c
  apply ref19_Show_ok
  unfold G_ref19_Show
  unfold showP okS at hq
  have l1 := numS_len hr.err
  have l2 := numS_len hr.kind
  have l3 := numS_len hr.size
  have l4 := numS_len hr.where_
  have l5 := numS_len hr.id
  have l6 := hexS_len r.text
  simp
  by_cases he : r.err ≠ 0
  · rw [if_pos he] at hq
    simp [he]
    refine ref19_Num_A _ hr.err (Nat.lt_succ_self _) ?_
    rw [binA_add_str (by simp; omega)]
    simp
    exact hq
  rw [if_neg he] at hq
  have he0 : r.err = 0 := by simpa using he
  simp [he0]
  try rw [joinK_eq]
  by_cases k1 : k = 1
  · rw [if_pos k1] at hq
    simp [k1]
    refine ref19_Num_A _ hr.kind (Nat.lt_succ_self _) ?_
    rw [binA_add_str (by simp; omega)]
    simp
    rw [binA_add_str (by simp; omega)]
    simp
    refine ref19_Num_A _ hr.where_ (Nat.lt_succ_self _) ?_
    rw [binA_add_str (by simp; omega)]
    simp
    exact hq
  rw [if_neg k1] at hq
  by_cases k2 : k = 2
  · rw [if_pos k2] at hq
    simp [k2]
    refine ref19_Num_A _ hr.kind (Nat.lt_succ_self _) ?_
    rw [binA_add_str (by simp; omega)]
    simp
    rw [binA_add_str (by simp; omega)]
    simp
    refine ref19_Num_A _ hr.size (Nat.lt_succ_self _) ?_
    rw [binA_add_str (by simp; omega)]
    simp
    exact hq
  rw [if_neg k2] at hq
  by_cases k34 : k = 3 ∨ k = 4
  · rw [if_pos k34] at hq
    have hgo : AC w0 F_ref19_Hex [.str r.text] S fun t48 S_6 => optK (binA .add (.str [111, 107, 32]) t48) fun t49 => Q t49 S_6 := by
      refine ref19_Hex_A (by omega) ?_
      rw [binA_add_str (by simp; omega)]
      simp
      exact hq
    rcases k34 with k3 | k4
    · simp [k3, joinK_eq]
      exact hgo
    · simp [k4, joinK_eq]
      exact hgo
  rw [if_neg k34] at hq
  have k3 : ¬ k = 3 := fun h => k34 (.inl h)
  have k4 : ¬ k = 4 := fun h => k34 (.inr h)
  by_cases k58 : k = 5 ∨ k = 8
  · rw [if_pos k58] at hq
    have hgo : AC w0 F_ref19_Num [.int .i64 r.id] S fun t48 S_6 => optK (binA .add (.str [111, 107, 32]) t48) fun t49 => Q t49 S_6 := by
      refine ref19_Num_A _ hr.id (Nat.lt_succ_self _) ?_
      rw [binA_add_str (by simp; omega)]
      simp
      exact hq
    rcases k58 with k5 | k8
    · simp [k5, joinK_eq]
      exact hgo
    · simp [k8, joinK_eq]
      exact hgo
  rw [if_neg k58] at hq
  have k5 : ¬ k = 5 := fun h => k58 (.inl h)
  have k8 : ¬ k = 8 := fun h => k58 (.inr h)
  by_cases k6 : k = 6
  · rw [if_pos k6] at hq
    cases hend : r.end_ with
    | true =>
      rw [hend, if_pos rfl] at hq
      simp [k1, k2, k3, k4, k5, k8, k6, joinK_eq, hend]
      refine loop_list r.names (fun i (_ : Unit) => ([.str ([111, 107, 32, 101, 110, 100] ++ hexes (r.names.take i)), .int .i64 i], [some [.int .i64 0, .int .i64 r.kind, .int .i64 r.size, .int .i64 r.where_, .int .i64 r.id, .str r.text, .vs 1 (r.names.map wStr) rt, .bool true]])) (fun i _ S' => S' = S) () (by simp [hexes]) rfl ?_ ?_
      · rintro i _ S' v b w hi hxi hd hcc hmem rfl hv
        simp at hv
        obtain ⟨⟨hv1, hv2⟩, hv3⟩ := hv
        have hwl := hnl w hmem
        have hhl := hexS_len w
        have htl : (r.names.take i).length ≤ 100 := by simp; omega
        have hhs := hexes_len (r.names.take i) fun s hs => hnl s (List.take_subset _ _ hs)
        simp [hv1, hv2, hv3, hcc, hxi, hrc]
        rw [binA_add_str (by simp; omega)]
        simp
        refine ref19_Hex_A (by omega) ?_
        rw [binA_add_str (by simp; omega)]
        simp
        try simp (disch := omega) only [wrap64]
        refine .next hi () ?_ rfl
        rw [List.take_succ, hxi]
        simp [hexes_snoc, hrc]
      · rintro _ S' v b rfl hv N
        simp at hv
        obtain ⟨⟨hv1, hv2⟩, hv3⟩ := hv
        simp [hv1, hv2, hv3, hrc]
        exact hq
    | false =>
      rw [hend, if_neg (by simp)] at hq
      simp [k1, k2, k3, k4, k5, k8, k6, joinK_eq, hend]
      refine loop_list r.names (fun i (_ : Unit) => ([.str ([111, 107] ++ hexes (r.names.take i)), .int .i64 i], [some [.int .i64 0, .int .i64 r.kind, .int .i64 r.size, .int .i64 r.where_, .int .i64 r.id, .str r.text, .vs 1 (r.names.map wStr) rt, .bool false]])) (fun i _ S' => S' = S) () (by simp [hexes]) rfl ?_ ?_
      · rintro i _ S' v b w hi hxi hd hcc hmem rfl hv
        simp at hv
        obtain ⟨⟨hv1, hv2⟩, hv3⟩ := hv
        have hwl := hnl w hmem
        have hhl := hexS_len w
        have htl : (r.names.take i).length ≤ 100 := by simp; omega
        have hhs := hexes_len (r.names.take i) fun s hs => hnl s (List.take_subset _ _ hs)
        simp [hv1, hv2, hv3, hcc, hxi, hrc]
        rw [binA_add_str (by simp; omega)]
        simp
        refine ref19_Hex_A (by omega) ?_
        rw [binA_add_str (by simp; omega)]
        simp
        try simp (disch := omega) only [wrap64]
        refine .next hi () ?_ rfl
        rw [List.take_succ, hxi]
        simp [hexes_snoc, hrc]
      · rintro _ S' v b rfl hv N
        simp at hv
        obtain ⟨⟨hv1, hv2⟩, hv3⟩ := hv
        simp [hv1, hv2, hv3, hrc]
        exact hq
  · rw [if_neg k6] at hq
    simp [k1, k2, k3, k4, k5, k8, k6, joinK_eq]
    exact hq
end Go.Av
set_option linter.unusedVariables false
set_option maxRecDepth 100000
namespace Go.Av
open Go.Proofs
theorem law_ofC {w0 : World} {f : Nat} {args : List AV} (h : ∀ Q : AV → St → Prop, (∀ S, Q (.bool true) S) → AC w0 f args [] Q) : AC w0 f args [] fun r _ => r = .bool true := h _ (fun _ => rfl)
theorem numbersP_len {rest : Bool} {s : Str} {t : Int × Int × Str} (h : numbersP rest s = some t) : t.2.2.length ≤ s.length := by
  unfold numbersP at h
  cases hc : cutB s with
  | none => rw [hc] at h; cases h
  | some p =>
    obtain ⟨a, r2⟩ := p
    have hl := cutB_len hc
    rw [hc] at h
    simp only at h hl
    split at h
    · cases hc2 : cutB r2 with
      | none => rw [hc2] at h; cases h
      | some q =>
        obtain ⟨b, p⟩ := q
        have hl2 := cutB_len hc2
        rw [hc2] at h
        simp only at h hl2
        cases hx : numOf a with
        | none => rw [hx] at h; cases h
        | some x =>
          cases hy : numOf b with
          | none => rw [hx, hy] at h; cases h
          | some y => rw [hx, hy] at h; cases h; simp only; omega
    · cases hx : numOf a with
      | none => rw [hx] at h; cases h
      | some x =>
        cases hy : numOf r2 with
        | none => rw [hx, hy] at h; cases h
        | some y => rw [hx, hy] at h; cases h; simp
theorem hexS_ge (s : Str) : s.length ≤ (hexS s).length := by
  unfold hexS
  split
  · rename_i h; rw [h]; simp
  · rw [hexF_len]; omega
theorem parse_lens {line : Str} {o : OpN} (h : parseP line = some o) : o.path.length ≤ line.length ∧ o.image.length ≤ line.length := by
  rw [parseP_eq] at h
  cases hc : cutB line with
  | none => rw [hc] at h; cases h
  | some wr =>
    obtain ⟨w, rest⟩ := wr
    have hl := cutB_len hc
    rw [hc] at h
    simp only at h hl
    split at h
    · cases h
    split at h
    · cases h
    split at h
    · obtain ⟨t, ht, rfl⟩ := Option.map_eq_some_iff.1 h
      have := numbersP_len ht
      exact ⟨by simp only; omega, by simp⟩
    split at h
    · obtain ⟨t, ht, rfl⟩ := Option.map_eq_some_iff.1 h
      simp
    split at h
    · obtain ⟨t, ht, rfl⟩ := Option.map_eq_some_iff.1 h
      simp
    split at h
    · obtain ⟨t, ht, rfl⟩ := Option.map_eq_some_iff.1 h
      have h1 := bytes_some ht
      have h2 := hexS_ge t
      rw [← h1] at h2
      exact ⟨by simp, by simp only; omega⟩
    · cases h
      exact ⟨by simp only; omega, by simp⟩
theorem sp1 : textP ⟨4, [47, 97, 32, 98], 0, 9, 0, []⟩ = [114, 101, 97, 100, 32, 48, 32, 57, 32, 47, 97, 32, 98] := by
  have h0 : numS 0 = [48] := by rw [numS_pos (by decide) (by decide)]; rfl
  have h9 : numS 9 = [57] := by rw [numS_pos (by decide) (by decide)]; rfl
  unfold textP
  simp only [h0, h9]
  rfl
theorem op1_ok : (⟨4, [47, 97, 32, 98], 0, 9, 0, []⟩ : OpN).ok := ⟨⟨by decide, by decide⟩, ⟨by decide, by decide⟩, ⟨by decide, by decide⟩, ⟨by decide, by decide⟩⟩
theorem sp1b : parseP [114, 101, 97, 100, 32, 48, 32, 57, 32, 47, 97, 32, 98] = some ⟨4, [47, 97, 32, 98], 0, 9, 0, []⟩ := by
  rw [← sp1]
  exact parse_text (by decide) op1_ok
theorem sp2 : parseP [114, 101, 97, 100, 32, 48, 32, 47, 97, 32, 98] = none := by
  rw [parseP_eq]
  have hc : cutB [114, 101, 97, 100, 32, 48, 32, 47, 97, 32, 98] = some ([114, 101, 97, 100], [48, 32, 47, 97, 32, 98]) := rfl
  rw [hc]
  simp only
  rw [if_neg (by decide), if_neg (by decide), if_pos (by decide)]
  have hn : numbersP true [48, 32, 47, 97, 32, 98] = none := by
    rw [numbersP_true]
    have h2 : cutN 2 [48, 32, 47, 97, 32, 98] = [[48], [47, 97], [98]] := rfl
    have h3 : numOf [47, 97] = none := rfl
    rw [h2]
    simp only [h3]
    cases numOf [48] <;> rfl
  rw [hn]
  rfl
set_option maxRecDepth 100000 in
theorem law19_speaks_A {w0 : World} (hm : MaxL w0) (ht : TabL w0) (he : AtL w0) {S : St} {Q : AV → St → Prop} (hq : ∀ S', Sx S S' → Q (.bool true) S') : AC w0 F_law19_speaks [] S Q := by
  apply law19_speaks_ok
  unfold G_law19_speaks
  refine call_Parse_A hm ht he (by simp) ?_
  unfold parseA
  rw [sp1b]
  have hoc : (⟨4, [47, 97, 32, 98], 0, 9, 0, []⟩ : OpN).c = [.int .i64 4, .str [47, 97, 32, 98], .int .i64 0, .int .i64 9, .int .i64 0, .str []] := rfl
  have hzc : OpN.zero.c = [.int .i64 0, .str [], .int .i64 0, .int .i64 0, .int .i64 0, .str []] := rfl
  simp [hoc]
  refine call_Parse_A hm ht he (by simp) ?_
  unfold parseA
  rw [sp2]
  simp [hzc, joinK_eq]
  have heq := op_eqA ⟨4, [47, 97, 32, 98], 0, 9, 0, []⟩ ⟨4, [47, 97, 32, 98], 0, 9, 0, []⟩
  rw [hoc] at heq
  simp at heq
  simp [binE, heq]
  rw [← hoc]
  refine call_Text_A ht op1_ok (by simp) (by simp) (fun S2 hS2 => ?_)
  rw [sp1]
  simp
  have hsh : [AV.int .i64 0, .int .i64 0, .int .i64 0, .int .i64 0, .int .i64 0, .str [], .vs 1 [[.str [97]]] .full, .bool true] = ({ end_ := true, names := [[97]] } : ResN).c .full := rfl
  rw [hsh]
  refine call_Show_A ht ⟨⟨by decide, by decide⟩, ⟨by decide, by decide⟩, ⟨by decide, by decide⟩, ⟨by decide, by decide⟩, ⟨by decide, by decide⟩⟩ (by simp) (by simp) (by simp) (fun S3 hS3 => ?_)
  have hsp : showP 6 ({ end_ := true, names := [[97]] } : ResN) = [111, 107, 32, 101, 110, 100, 32, 54, 49] := rfl
  rw [hsp]
  simp
  exact hq _ (hS2.trans hS3)
set_option maxRecDepth 100000 in
theorem law19_CallParses_L (w0 : World) (hm : MaxL w0) (ht : TabL w0) (he : AtL w0) (x0 : AV) (h0 : TV t_string x0) : AC w0 F_law19_CallParses [x0] [] fun r _ => r = .bool true := by
  refine law_ofC fun Q hq => ?_
  obtain ⟨line, rfl, hl⟩ := h0.str un_string
  apply law19_CallParses_ok
  unfold G_law19_CallParses
  refine law19_speaks_A hm ht he (fun S _ => ?_)
  simp
  by_cases hp : 2000 < line.length
  · have : (2000 : Int) < line.length := by omega
    simp [this, hq]
  have hpi : ¬ (2000 : Int) < line.length := by omega
  simp [hpi]
  refine call_Parse_A hm ht he (by omega) ?_
  unfold parseA
  cases hps : parseP line with
  | none =>
    have hzc : OpN.zero.c = [.int .i64 0, .str [], .int .i64 0, .int .i64 0, .int .i64 0, .str []] := rfl
    have heq := op_eqA OpN.zero OpN.zero
    rw [hzc] at heq
    simp at heq
    simp [hzc, binE, heq, hq]
  | some o =>
    obtain ⟨h1, h2, h3⟩ := parse_only hps
    have hoc : o.c = [.int .i64 o.kind, .str o.path, .int .i64 o.off, .int .i64 o.n, .int .i64 o.id, .str o.image] := rfl
    have hlens := parse_lens hps
    simp [hoc]
    rw [← hoc]
    refine ref19_Only_A (by omega) ?_
    rw [h1]
    simp [joinK_eq]
    try rw [← hoc]
    refine ref19_Text_A h3 (by omega) (by omega) ?_
    rw [h2]
    simp [hq]
set_option maxRecDepth 100000 in
theorem law19_CallWords_L (w0 : World) (hm : MaxL w0) (ht : TabL w0) (he : AtL w0) (x0 x1 : AV) (h0 : TV t_string x0) (h1 : TV t_int x1) : AC w0 F_law19_CallWords [x0, x1] [] fun r _ => r = .bool true := by
  refine law_ofC fun Q hq => ?_
  obtain ⟨s, rfl, hl⟩ := h0.str un_string
  obtain ⟨n, rfl, hn⟩ := h1.int un_int
  have hn' : I64r n := hn
  apply law19_CallWords_ok
  unfold G_law19_CallWords
  refine law19_speaks_A hm ht he (fun S _ => ?_)
  simp
  by_cases hp : 2000 < s.length
  · have : (2000 : Int) < s.length := by omega
    simp [this, hq]
  have hpi : ¬ (2000 : Int) < s.length := by omega
  have hhl := hexS_len s
  have hnl := numS_len hn'
  simp [hpi]
  refine call_Hex_A (by omega) (fun S2 hS2 => ?_)
  simp
  refine call_Bytes_A (by omega) (fun b hb => ?_)
  rw [bytes_hex] at hb ⊢
  have hbs : s = b := (hb s rfl).symm
  subst hbs
  simp
  refine ref19_Num_A _ hn' (Nat.lt_succ_self _) ?_
  simp
  refine call_Number_A ht he (by omega) ?_
  rw [atoiV_num (numOf_num hn'), numOf_num hn']
  simp
  refine call_Bytes_A (by omega) (fun c hc => ?_)
  simp
  refine call_Number_A ht he (by omega) ?_
  simp
  refine call_Hex_A (by omega) (fun S3 hS3 => ?_)
  refine ref19_Hex_A (by omega) ?_
  simp [joinK_eq]
  have hnum : ∀ x, numOf s = some x → s = numS x ∧ I64r x ∧ atoiV s = x := fun x hx => by
    obtain ⟨h1, h2⟩ := numOf_some hx
    exact ⟨h1, h2, atoiV_num hx⟩
  cases hbv : bytesS s with
  | none =>
    simp
    cases hnv : numOf s with
    | none => simp [hq]
    | some x =>
      obtain ⟨q1, q2, q3⟩ := hnum x hnv
      rw [q3]
      simp
      refine ref19_Num_A _ q2 (Nat.lt_succ_self _) ?_
      rw [← q1]
      simp [hq]
  | some cc =>
    have hcc := hc cc hbv
    subst hcc
    have hs := bytes_some hbv
    have hge := hexS_ge c
    rw [← hs] at hge
    simp
    refine ref19_Hex_A (by omega) ?_
    rw [← hs]
    simp
    cases hnv : numOf s with
    | none => simp [hq]
    | some x =>
      obtain ⟨q1, q2, q3⟩ := hnum x hnv
      rw [q3]
      simp
      refine ref19_Num_A _ q2 (Nat.lt_succ_self _) ?_
      rw [← q1]
      simp [hq]
set_option maxRecDepth 100000 in
theorem law19_CallTexts_L (w0 : World) (hm : MaxL w0) (ht : TabL w0) (he : AtL w0) (x0 : AV) (h0 : TV t_api_Op x0) : AC w0 F_law19_CallTexts [x0] [] fun r _ => r = .bool true := by
  refine law_ofC fun Q hq => ?_
  obtain ⟨o, rfl, hok, hpl, hil⟩ := h0.opN
  have hoc : o.c = [.int .i64 o.kind, .str o.path, .int .i64 o.off, .int .i64 o.n, .int .i64 o.id, .str o.image] := rfl
  unfold OpN.c
  apply law19_CallTexts_ok
  unfold G_law19_CallTexts
  simp
  refine law19_speaks_A hm ht he (fun S _ => ?_)
  simp
  have hw : IntKind.i64.wrap ((o.path.length : Int) + o.image.length) = (o.path.length : Int) + o.image.length := wrap64 (by omega) (by omega)
  rw [hw]
  by_cases hp : 3000 < (o.path.length : Int) + o.image.length
  · simp [hp, hq]
  simp [hp]
  rw [← hoc]
  refine call_Text_A ht hok hpl hil (fun S2 hS2 => ?_)
  simp
  refine ref19_Only_A hpl ?_
  simp
  refine ref19_Text_A hok hpl hil ?_
  simp [joinK_eq]
  refine call_Right_A hm ht he hok hpl hil (fun S3 hS3 => ?_)
  simp [binE, eqA]
  have htl := textP_len hok
  refine call_Parse_A hm ht he (by omega) ?_
  unfold parseA
  cases hon : onlyP o with
  | false =>
    cases hps : parseP (textP o) with
    | none =>
      have hzc : OpN.zero.c = [.int .i64 0, .str [], .int .i64 0, .int .i64 0, .int .i64 0, .str []] := rfl
      simp [hzc, hq]
    | some x =>
      have hxc : x.c = [.int .i64 x.kind, .str x.path, .int .i64 x.off, .int .i64 x.n, .int .i64 x.id, .str x.image] := rfl
      simp [hxc, hq]
  | true =>
    rw [parse_text hon hok]
    simp [hoc, typedCells, cellsEq, cellEq, hq]
end Go.Av
