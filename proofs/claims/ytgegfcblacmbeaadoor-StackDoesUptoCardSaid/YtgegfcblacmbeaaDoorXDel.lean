/- Parts of the proofs of this seat: abstract values over the model, and what the functions of the program do. No condition. -/
import Derived.Test.YtgegfcblacmbeaaDoorM9
import Derived.Test.YtgegfcblacmbeaaDoorD0
import Derived.Test.YtgegfcblacmbeaaDoorXDelW
import Derived.Test.YtgegfcblacmbeaaDoorXDelR
import Derived.Test.YtgegfcblacmbeaaDoorY05d
import Derived.Test.YtgegfcblacmbeaaDoorX05e
import Derived.Test.YtgegfcblacmbeaaDoorX04L
import Derived.Shelf.Lay
import Derived.Shelf.LaySoft
import Derived.Shelf.SlGeneric
import Derived.Ground.SlgnProg
import Derived.Shelf.SlicesE.Clone
set_option linter.all false
set_option linter.unusedVariables false
/-! slices.Clone and slices.Delete of rows of mounts. -/
namespace Go.Proofs
open Go.Shelf Go.Av
shelf_lay_g SlLaysE0.n41 Slgn 41 at Tryd 69 as Tryd.laysClm
shelf_lay_g SlLaysE0.n45 Slgn 45 at Tryd 68 as Tryd.laysDlm
end Go.Proofs
namespace Go.Av
open Go.Proofs Go.Shelf Go.RowKit

/-- What the program tells of a mount. -/
theorem mount_ty (w0 : World) : ∃ i z, Tryd.prog.info? t_stack_mount = some i ∧ i.size = 2 ∧ i.bytes = 16 ∧ i.zero = some z ∧ z.cells.size = 2 ∧ ∀ u ∈ z.cells, u.oneCell' = true := by
  obtain ⟨i, z, d, h1, h2, h3, h4, h5, h6, h7, h8, h9, h10⟩ := ((agree w0).ty t_stack_mount (by kernel_rfl)).ex
  refine ⟨i, z, h1, h2, h3, h4, h8, fun u hu => ?_⟩
  have hz : (zeroA ((En w0).C.ty t_stack_mount)) = .agg [.int .i64 0, .nil] := by kernel_rfl
  have hv := h10 (Gh.mk (fun _ _ => none) (fun _ => none) (fun _ => .ext) (fun _ => 0))
  rw [hz] at hv
  obtain ⟨k, hk⟩ := List.getElem?_of_mem (Array.mem_toList_iff.2 hu)
  rw [Array.getElem?_toList] at hk
  have hk2 : k < 2 := by have := (Array.getElem?_eq_some_iff.1 hk).1; rw [h8] at this; exact this
  have := fun x hx => (hv.cells rfl k x u hx hk)
  match k, hk2 with
  | 0, _ => exact (this (.int .i64 0) rfl).oneCell rfl
  | 1, _ => exact (this .nil rfl).oneCell rfl

theorem Clone_rs_A {w0 : World} {S : St} {es : List (List AV)} {r : Rt} (h0 : es ≠ []) (hn : es.length ≤ 1000000) {Q : AV → St → Prop} (hq : Q (.rs 2 S.length 0 es.length) (S ++ [.cells es.flatten 0])) :
    AC w0 F_slices_Clone_s_stack_mount_stack_mount [.vs 2 es r] S Q := by
  refine ⟨⟨_, fn_slices_Clone_s_stack_mount_stack_mount, by kernel_rfl, by kernel_rfl⟩, fun G w hrel hrole args' hl ha => ?_⟩
  obtain ⟨v, rfl⟩ : ∃ v, args' = #[v] := by
    match args', hl with
    | ⟨[v]⟩, _ => exact ⟨v, rfl⟩
  have h0' := (ha 0 _ v rfl rfl).1
  cases h0' with
  | vsnil => exact (h0 rfl).elim
  | vse a sz r hr => exact (h0 rfl).elim
  | vs b o cap sz es' r f hr hc hf hs h h2 =>
    obtain ⟨news, hnews⟩ : ∃ news, news = (List.range (es.length * 2)).map fun k => f (k / 2) (k % 2) := ⟨_, rfl⟩
    have hlen : news.length = es.length * 2 := by rw [hnews]; simp
    have hE : ElemsV G 2 news es := ⟨hlen, hs, fun i e j x hi hj => by
      have h3 := (hs e (List.mem_of_getElem? hi)).1
      have h4 := (List.getElem?_eq_some_iff.1 hj).1
      have h5 := (List.getElem?_eq_some_iff.1 hi).1
      refine ⟨f i j, ?_, h2 i e j x hi hj⟩
      rw [hnews, List.getElem?_map, List.getElem?_range (by omega)]
      simp only [Option.map_some]
      rw [show (i * 2 + j) / 2 = i by omega, show (i * 2 + j) % 2 = j by omega]⟩
    have hcell : ∀ j u, news[j]? = some u → w.cell? ⟨b, o + j, none⟩ = some u := fun j u hu => by
      have h4 := (List.getElem?_eq_some_iff.1 hu).1
      rw [hlen] at h4
      rw [hnews, List.getElem?_map, List.getElem?_range h4] at hu
      simp only [Option.map_some, Option.some.injEq] at hu
      have hi : es[j / 2]? = some es[j / 2] := List.getElem?_eq_getElem (by omega)
      have h3 := (hs _ (List.mem_of_getElem? hi)).1
      have hj : es[j / 2][j % 2]? = some (es[j / 2][j % 2]) := List.getElem?_eq_getElem (by omega)
      have := hrel.imm _ _ _ (h _ _ _ _ hi hj)
      rw [hu, show o + j / 2 * 2 + j % 2 = o + j by omega] at this
      exact this
    obtain ⟨i0, z, i1, i2, i3, i4, i5, i6⟩ := mount_ty w0
    have hmax : es.length ≤ maxLen := Nat.le_trans hn (by decide)
    refine (AnyE.slices_Clone Tryd.laysClm i0 z 2 16 i1 i4 i2 i3 i5 (by decide) (sizeOf_run i1 i2) b o es.length cap news w hlen hmax (by omega) hcell hE.oneCell).mono ?_
    rintro e w' ⟨v', rfl, ⟨k1, k2⟩, k3, k4⟩
    rcases k2 with ⟨rfl, _⟩ | ⟨g, cp, cur, rfl, g1, g2, g3, g4, g5, g6⟩
    · exact (k3 rfl).elim
    obtain ⟨hf1, hf2⟩ := hE.flat
    have hcur : ∀ j, j < es.length * 2 → cur[j]? = news[j]? := fun j hj => by
      rw [← g6, List.getElem?_take, if_pos hj, Array.getElem?_toList]
    obtain ⟨q1, q2⟩ := hrel.ownRow k4 g1 g2 (cs := es.flatten) (by rw [← hf1, hlen, g5]; exact Nat.mul_le_mul_right _ g3) (fun j x v hx hv => hf2 j x v hx (by
      have := (List.getElem?_eq_some_iff.1 hx).1
      rw [← hf1, hlen] at this
      rw [← hcur j this]; exact hv))
    refine ⟨_, .rs 2 S.length 0 es.length, _, _, rfl, hq, q1, .of_cell1 (.rs g _ 0 _ cp 2 (by simp [Gh.obj]) g3 (by simp [Gh.obj, Gh.row, g5])) rfl, q2.weaken (by simp), fun b => ?_⟩
    by_cases hbg : b = g
    · left; exact ⟨S.length, by simp [Gh.obj, Gh.row, hbg]⟩
    · have : ((G.row g S.length cur.size).obj S.length g).role b = G.role b := by simp [Gh.obj, Gh.row, hbg]
      rw [this]
      rcases hrole b with h | h | h
      · exact .inl h
      · exact .inr (.inl h)
      · exact .inr (.inr (.inl h))
theorem Delete_rs_A {w0 : World} {S : St} {id t : Nat} {es : List (List AV)} (hS : S[id]? = some (.cells es.flatten t)) (hes : ∀ e ∈ es, e.length = 2 ∧ ∀ x ∈ e, x.cell1 = true) (hn : es.length ≤ 1000000) {i : Nat} (hi : i < es.length) {Q : AV → St → Prop}
    (hq : Q (.vs 2 (es.eraseIdx i) .none) (S.set id .dead)) :
    AC w0 F_slices_Delete_s_stack_mount_stack_mount [.rs 2 id 0 es.length, .int .i64 i, .int .i64 ((i : Int) + 1)] S Q := by
  refine ⟨⟨_, fn_slices_Delete_s_stack_mount_stack_mount, by kernel_rfl, by kernel_rfl⟩, fun G w hrel hrole args' hl ha => ?_⟩
  obtain ⟨v, u, u2, rfl⟩ : ∃ v u u2, args' = #[v, u, u2] := by
    match args', hl with
    | ⟨[v, u, u2]⟩, _ => exact ⟨v, u, u2, rfl⟩
  have h0' := (ha 0 _ v rfl rfl).1
  have h1' := (ha 1 _ u rfl rfl).1
  have h2' := (ha 2 _ u2 rfl rfl).1
  cases h1'
  cases h2'
  obtain ⟨fl1, fl2⟩ := flatten_get (ys := es) (sz := 2) fun e he => (hes e he).1
  generalize hnn : es.length = n at h0' hi hn fl1
  cases h0' with
  | rs b _ _ _ cap _ hrho hcap hlenb =>
    obtain ⟨b', arr, e, k1, k2, k3, k4, k5⟩ := hrel.obj id _ hS
    rw [hrho] at k1
    cases k1
    have hfit : cap * 2 ≤ arr.size := by
      rw [Nat.zero_add] at hlenb
      obtain ⟨a2, e2, f2, q1, q2⟩ := hrel.len b (by omega)
      rw [k3] at q1; cases q1; omega
    have hcell : ∀ k u, k < n * 2 → arr[k]? = some u → ∃ x, es.flatten[k]? = some x ∧ VR G u x ∧ x.cell1 = true := fun k u hk hu => by
      have hx : es.flatten[k]? = some es.flatten[k] := List.getElem?_eq_getElem (by omega)
      refine ⟨_, hx, (k4.2 k _ u hx hu).vr, ?_⟩
      obtain ⟨e1, h1, h2⟩ := List.mem_flatten.1 (List.getElem_mem (l := es.flatten) (n := k) (by omega))
      exact (hes e1 h1).2 _ h2
    obtain ⟨i0, z, i1, i2, i3, i4, i5, i6⟩ := mount_ty w0
    have := delete_row2 Tryd.laysDlm z i0 i1 i2 (sizeOf_run i1 i2) (zeroValue_run i1 i4) i5 i6 b cap i (i + 1) n rfl arr e w k3 hcap hi hfit fun k u hk hu => by
      obtain ⟨x, _, h1, h2⟩ := hcell k u hk hu
      exact h1.oneCell (AV.cell1.free1 h2)
    refine this.mono ?_
    rintro ex w' ⟨rfl, arr', rfl, hsz, hlo, hhi⟩
    have hget : ∀ k, k < (n - 1) * 2 → arr'[k]? = arr[if k < i * 2 then k else k + 2]? := fun k hk => by
      split
      · exact hlo k (by omega)
      · exact hhi k (by omega) hk
    obtain ⟨q1, q2⟩ := hrel.drew.freezeRow k2 (arr := arr) (arr' := arr') (e := e) k3 hsz (fun k => if k < (n - 1) * 2 then arr'[k]? else none) (fun k v hv => by
      split at hv
      · exact hv
      · cases hv)
    have hd : Chg (fun κ => κ ≠ .ext) G w G w.drew := ⟨.refl G, Nat.le_refl _, fun _ _ _ => ⟨rfl, rfl, fun _ => rfl⟩⟩
    have hle : (es.eraseIdx i).length = n - 1 := by rw [List.length_eraseIdx, hnn, if_pos hi]
    refine ⟨_, .vs 2 (es.eraseIdx i) .none, _, _, rfl, hq, q1, .of_cell1 ?_ rfl, hd.trans (q2.weaken (by rintro κ rfl; simp)), fun b2 => ?_⟩
    · have := VR.vs (G := G.freeze b fun k => if k < (n - 1) * 2 then arr'[k]? else none) b 0 cap 2 (es.eraseIdx i) .none (fun p q => (arr'[p * 2 + q]?).getD undef) (by simp) (by rw [hle]; omega) (by simp) (fun e he => hes e (List.mem_of_mem_eraseIdx he))
        (fun p e q x hp hq => by
          have h1 : p < n - 1 := by rw [← hle]; exact (List.getElem?_eq_some_iff.1 hp).1
          have h2 := (hes e (List.mem_of_mem_eraseIdx (List.mem_of_getElem? hp))).1
          have h3 := (List.getElem?_eq_some_iff.1 hq).1
          have h4 : p * 2 + q < arr'.size := by omega
          simp only [Gh.freeze, if_true, Nat.zero_add]
          rw [if_pos (by omega), Array.getElem?_eq_getElem h4]
          rfl)
        (fun p e q x hp hq => by
          have h1 : p < n - 1 := by rw [← hle]; exact (List.getElem?_eq_some_iff.1 hp).1
          have h2 := (hes e (List.mem_of_mem_eraseIdx (List.mem_of_getElem? hp))).1
          have h3 := (List.getElem?_eq_some_iff.1 hq).1
          have h4 : p * 2 + q < arr'.size := by omega
          have hg := hget (p * 2 + q) (by omega)
          rw [List.getElem?_eraseIdx] at hp
          rw [hg]
          have key : ∀ p', es[p']? = some e → p' < n → VR G ((arr[p' * 2 + q]?).getD undef) x := fun p' hp' hlt => by
            have h5 : p' * 2 + q < arr.size := by omega
            rw [Array.getElem?_eq_getElem h5]
            obtain ⟨y, y1, y2, y3⟩ := hcell (p' * 2 + q) _ (by omega) (Array.getElem?_eq_getElem h5)
            rw [fl2 p' e q hp' (by omega), hq] at y1
            cases y1
            exact y2
          refine VR.mono q2.le ?_
          split at hp
          · rw [if_pos (by omega)]; exact key p hp (by omega)
          · rw [if_neg (by omega), show p * 2 + q + 2 = (p + 1) * 2 + q by omega]; exact key (p + 1) hp (by omega))
      rw [hle] at this
      exact this
    · by_cases hb : b2 = b
      · subst hb; right; right; left; simp [Gh.freeze]
      · have : (G.freeze b fun k => if k < (n - 1) * 2 then arr'[k]? else none).role b2 = G.role b2 := by simp [Gh.freeze, hb]
        rw [this]
        rcases hrole b2 with h | h | h
        · exact .inl h
        · exact .inr (.inl h)
        · exact .inr (.inr (.inl h))
end Go.Av
set_option linter.unusedVariables false
/-! Stacks: a branch taken out; held against numbers. -/
namespace Go.Av
open Go.Proofs
theorem stack_Remove_1_A {w0 : World} {S : St} {m : Mnt} {id t : Nat} {k : Int} (hS : S[id]? = some (.cells [.int .i64 k] t)) {Q : AV → St → Prop} (hq : Q (.bool (decide ((m.num : Int) = k))) S) : AC w0 F_stack_Stack_Remove_1 [.agg m.c, .ptr id 0] S Q := by
  unfold Mnt.c
  apply stack_Stack_Remove_1_ok
  unfold G_stack_Stack_Remove_1
  simp [loadA_ptr hS]
  simpa [BEq.beq] using hq
theorem IndexFunc_mount_A {w0 : World} {S : St} {l : List Mnt} {r : Rt} {id t : Nat} {k : Int} (hS : S[id]? = some (.cells [.int .i64 k] t)) (hl : l.length ≤ 1000000) {Q : AV → St → Prop}
    (h1 : (∀ m ∈ l, (m.num : Int) ≠ k) → Q (.int .i64 (-1)) S) (h2 : ∀ i m, l[i]? = some m → (m.num : Int) = k → (∀ m' ∈ l.take i, (m'.num : Int) ≠ k) → Q (.int .i64 i) S) :
    AC w0 F_slices_IndexFunc_s_stack_mount_stack_mount [.vs 2 (l.map Mnt.c) r, .fn F_stack_Stack_Remove_1 [] [.ptr id 0]] S Q := by
  apply slices_IndexFunc_s_stack_mount_stack_mount_ok
  unfold G_slices_IndexFunc_s_stack_mount_stack_mount
  simp [joinK_eq]
  refine loop_list l (fun i (_ : Unit) => ([.int .i64 i], [])) (fun i _ S' => S' = S ∧ ∀ m' ∈ l.take i, (m'.num : Int) ≠ k) () rfl ⟨rfl, by simp⟩ ?_ ?_
  · rintro i _ S' v b m c hxi hd hc hmem ⟨rfl, hno⟩ hv
    simp at hv
    simp [hv, hc, hxi]
    refine stack_Remove_1_A hS ?_
    by_cases e : (m.num : Int) = k
    · simp [e]
      exact h2 i m hxi e hno
    · simp [e]
      try simp (disch := omega) only [wrap64]
      refine .next c () rfl ⟨rfl, ?_⟩
      have htk : l.take (i + 1) = l.take i ++ [m] := by rw [List.take_succ, hxi]; rfl
      rw [htk]
      intro m' hm'
      rcases List.mem_append.1 hm' with hm' | hm'
      · exact hno m' hm'
      · rw [List.mem_singleton] at hm'; subst hm'; exact e
  · rintro _ S' v b ⟨rfl, hno⟩ hv N
    simp at hv
    rw [List.take_length] at hno
    simp [hv]
    exact h1 hno
theorem stack_Remove_A {w0 : World} {S : St} {s : Stk} {k : Int} (hs : s.ok) {Q : AV → St → Prop} (h1 : (∀ m ∈ s.l, (m.num : Int) ≠ k) → ∀ S', Sx S S' → Q (.tup [.agg s.c, .int .i64 2]) S')
    (h2 : ∀ i m, s.l[i]? = some m → (m.num : Int) = k → (∀ m' ∈ s.l.take i, (m'.num : Int) ≠ k) → ∀ S', Sx S S' → Q (.tup [.agg (Stk.c ⟨s.l.eraseIdx i, .none, s.next⟩), .int .i64 0]) S') :
    AC w0 F_stack_Stack_Remove [.agg s.c, .int .i64 k] S Q := by
  unfold Stk.c at *
  apply stack_Stack_Remove_ok
  unfold G_stack_Stack_Remove
  have hl := hs.len
  simp [funcA]
  refine IndexFunc_mount_A (id := S.length) (t := t_int) (k := k) (by simp) (by omega) (fun hno => ?_) (fun i m hi hk hno => ?_)
  · have := h1 hno _ (Sx.app S [.cells [.int .i64 k] t_int])
    simp
    simpa using this
  · have hlt := (List.getElem?_eq_some_iff.1 hi).1
    simp [show ¬ ((i : Int) < 0) by omega]
    try simp (disch := omega) only [wrap64]
    have hne : s.l.map Mnt.c ≠ [] := by
      intro e
      have := congrArg List.length e
      simp at this
      rw [this] at hlt
      simp at hlt
    refine Clone_rs_A hne (by simp; omega) ?_
    simp
    have hdel := @Delete_rs_A w0 (S ++ [.cells [.int .i64 k] t_int] ++ [.cells (s.l.map Mnt.c).flatten 0]) (S.length + 1) 0 (s.l.map Mnt.c) (by simp) (fun e he => by
      obtain ⟨m', _, rfl⟩ := List.mem_map.1 he
      exact ⟨rfl, by simp [Mnt.c, AV.cell1, AV.free1, AV.own]⟩) (by simp; omega) i (by simpa using hlt)
    simp at hdel
    refine hdel ?_
    have h3 := h2 i m hi hk hno ((S ++ [Obj.cells [.int .i64 k] t_int, Obj.cells (s.l.map Mnt.c).flatten 0]).set (S.length + 1) .dead) (fun j hj => by
      rw [List.getElem?_set_ne (by omega), List.getElem?_append_left hj])
    have herase : (s.l.map Mnt.c).eraseIdx i = (s.l.eraseIdx i).map Mnt.c := by simp [List.eraseIdx_eq_take_drop_succ, List.map_take, List.map_drop]
    rw [herase]
    simp
    simpa using h3
end Go.Av
set_option linter.unusedVariables false
/-! Stacks held against numbers; two branches. -/
namespace Go.Av
open Go.Proofs
def nI (l : List Nat) : List (List AV) := l.map fun i : Nat => [AV.int .i64 i]
def pI (l : List Nat) : List (List AV) := l.map fun i : Nat => [AV.ptr i 0]
/-- These numbers, and of all branches those that they name. -/
structure Like (s : Stk) (ids all : List Nat) : Prop where
  nums : s.l.map Mnt.num = ids
  at_ : ∀ m ∈ s.l, all[m.num]? = some m.id
set_option maxRecDepth 100000 in
theorem law07_same_A {w0 : World} {s : Stk} {ids all : List Nat} {r1 r2 : Rt} {S : St} (hs : s.ok) (h : Like s ids all) {Q : AV → St → Prop} (hq : Q (.bool true) S) : AC w0 F_law07_same [.agg s.c, .vs 1 (nI ids) r1, .vs 1 (pI all) r2] S Q := by
  have hlen : ids.length = s.l.length := by rw [← h.nums, List.length_map]
  have hl := hs.len
  have hsc : s.c = [.vs 2 (s.l.map Mnt.c) s.r.strip, .int .i64 s.next] := rfl
  rw [hsc]
  apply law07_same_ok
  unfold G_law07_same
  simp only [← hsc]
  have hn : (nI ids).length = s.l.length := by rw [nI, List.length_map, hlen]
  have hm1 : s.at_ (-1) = none := by simp [Stk.at_]
  have hml : s.at_ (s.l.length : Int) = none := by simp [Stk.at_]
  simp [joinK_eq]
  refine stack_Len_A ?_
  simp [hn]
  refine stack_At_A ?_
  simp [hm1]
  refine stack_ID_A ?_
  simp [hm1]
  refine stack_At_A ?_
  simp [hml]
  refine stack_ID_A ?_
  simp [hml]
  refine loop_list s.l (fun i (_ : Unit) => ([.int .i64 i], [some s.c])) (fun i _ S' => S' = S) () rfl rfl ?_ ?_
  · rintro i _ S' v b m c hxi hd hc hmem rfl hv
    simp at hv
    obtain ⟨hv1, hv2⟩ := hv
    have hat : s.at_ (i : Int) = some m := by simp [Stk.at_, hxi]
    have hid : ids[i]? = some m.num := by rw [← h.nums, List.getElem?_map, hxi]; rfl
    have hni : (nI ids)[i]? = some [.int .i64 m.num] := by simp [nI, hid]
    have hpi : (pI all)[m.num]? = some [.ptr m.id 0] := by simp [pI, h.at_ m hmem]
    simp [hv1, hv2, hc, hni]
    refine stack_ID_A ?_
    simp [hat, hpi]
    refine stack_At_A ?_
    simp [hat, binP, eqPtrA]
    try simp (disch := omega) only [wrap64]
    exact .next c () rfl rfl
  · rintro _ S' v b rfl hv N
    simp at hv
    obtain ⟨hv1, hv2⟩ := hv
    simp [hv1, hv2]
    exact hq
set_option maxRecDepth 100000 in
theorem law07_speaks_A {w0 : World} (hm : MaxL w0) {S : St} {Q : AV → St → Prop} (hq : ∀ S', Sx S S' → Q (.bool true) S') : AC w0 F_law07_speaks [] S Q := by
  apply law07_speaks_ok
  unfold G_law07_speaks
  refine tree_Dir_A (l := []) (items := []) (r1 := .nil) (r2 := .nil) (by intro _; rfl) (by intro _; rfl) (by simp) (by simp) (fun q1 q2 k1 k2 => ?_)
  refine tree_White_A ?_
  simp
  refine tree_Dir_A (l := [[97]]) (items := [whiteN]) okR_full okR_full (by simp) (by simp) (fun q3 q4 k3 k4 => ?_)
  have hok1 := dirN_ok (o := false) (l := []) (items := []) (by simp) (by simp) k1 k2
  have hok2 := dirN_ok (o := false) (l := [[97]]) (items := [whiteN]) (by simp) (by simp [white_ok]) k3 k4
  have hr1 : rightB (dirN false [] q1 [] q2) = true := by rfl
  have hr2 : rightB (dirN false [[97]] q3 [whiteN] q4) = true := by rfl
  have e1 : ((dirN false [] q1 [] q2).tab 0).length = 1 := by rfl
  have e2 : ((dirN false [[97]] q3 [whiteN] q4).tab 0).length = 2 := by rfl
  generalize dirN false [] q1 [] q2 = d1 at hok1 hr1 e1 ⊢
  generalize dirN false [[97]] q3 [whiteN] q4 = d2 at hok2 hr2 e2 ⊢
  simp
  have h0 := ofErr_all [d1, d2] 0 (by simp [hr1, hr2]) (by simp)
  refine stack_Of_A (l := [d1, d2]) hm (by simp [hok1, hok2]) (by simp) (fun S1 h1 => ⟨fun _ s hs => ?_, fun h => absurd h0 h⟩)
  have htabs := hs.tabs
  have hnums := hs.nums
  have hon := hs.on
  have hok := hs.ok
  obtain ⟨l, r, next⟩ := s
  obtain ⟨m0, m1, rfl⟩ : ∃ m0 m1, l = [m0, m1] := by
    have := hs.len
    match l, this with
    | [a, b], _ => exact ⟨a, b, rfl⟩
  simp [List.range_succ] at htabs hnums
  obtain ⟨t0, t1⟩ := htabs
  obtain ⟨n0, n1⟩ := hnums
  have hB := hon m0 (by simp)
  have a0 : (Stk.mk [m0, m1] r next).at_ 0 = some m0 := by simp [Stk.at_]
  simp [joinK_eq]
  refine stack_Len_A ?_
  simp
  refine stack_ID_A ?_
  simp [a0, n0]
  refine stack_At_A ?_
  simp [a0]
  refine stack_At_A ?_
  simp [a0]
  refine branch_Count_A hB ?_
  rw [t0, e2]
  simp
  refine stack_Remove_A hok (fun hno => absurd n0 (by have := hno m0 (by simp); omega)) (fun i m hi hk hno S2 hS2 => ?_)
  have hi0 : i = 0 := by
    match i with
    | 0 => rfl
    | 1 => simp at hi; subst hi; omega
    | j + 2 => simp at hi
  subst hi0
  simp
  have hok' : (Stk.mk [m1] .none next).ok := ⟨by simp [Rt.strip], by simp, hok.next, fun m hm' => hok.num m (by simp at hm'; simp [hm'])⟩
  refine stack_Remove_A hok' (fun hno S3 hS3 => ?_) (fun i m hi hk hno S3 hS3 => ?_)
  · simp
    have b0 : (Stk.mk [m1] .none next).at_ 0 = some m1 := by simp [Stk.at_]
    refine stack_Len_A ?_
    simp
    refine stack_ID_A ?_
    simp [b0, n1]
    refine stack_Len_A ?_
    simp
    exact hq _ ((h1.trans hS2).trans hS3)
  · have hm' := List.mem_of_getElem? hi
    simp at hm'
    subst hm'
    omega
end Go.Av
set_option linter.unusedVariables false
/-! The law of what stacks do. -/
namespace Go.Av
open Go.Proofs
structure Act7 where
  out : Bool
  id : Int
@[simp] def Act7.c (a : Act7) : List AV := [.bool a.out, .int .i64 a.id]
set_option maxRecDepth 100000 in
theorem dec_Act7 (ys : List AV) (h : TT t_socagelaw07_Act ys) : ∃ a : Act7, ys = a.c ∧ True := by
  obtain ⟨h1, h2⟩ := h.struct_inv un_socagelaw07_Act
  match ys, h1 with
  | [a, b], _ =>
    obtain ⟨o, h3⟩ := dec_bool (h2 _ (List.mem_cons_self)) un_bool
    obtain ⟨n, h5, h6⟩ := dec_int (h2 _ (List.mem_cons_of_mem _ List.mem_cons_self)) un_int
    cases h3
    cases h5
    exact ⟨⟨o, n⟩, rfl, trivial⟩
theorem erase_filter : ∀ {l : List Mnt} {i : Nat} {m : Mnt}, (l.map Mnt.num).Nodup → l[i]? = some m → l.eraseIdx i = l.filter (fun x => decide (x.num ≠ m.num))
  | [], _, _, _, h => by simp at h
  | x :: l, 0, m, hn, h => by
    simp at h
    subst h
    simp at hn
    simp
    exact (List.filter_eq_self.2 fun a ha => by simpa using hn.1 a ha).symm
  | x :: l, i + 1, m, hn, h => by
    simp at h hn
    have ih := erase_filter hn.2 h
    have hm := List.mem_of_getElem? h
    have hx := hn.1 m hm
    rw [List.eraseIdx_cons_succ, ih, List.filter_cons_of_pos (by simp; omega)]
theorem erase_less {l : List Mnt} {i : Nat} {m : Mnt} (h : l[i]? = some m) : (l.eraseIdx i).length < l.length := by
  have := (List.getElem?_eq_some_iff.1 h).1
  rw [List.length_eraseIdx, if_pos this]; omega
/-- What is at hand, act by act. -/
structure SD where
  ids : List Nat
  rid : Rt
  all : List Nat
  ra : Rt
  was : List Stk
  rw : Rt
  had : List (List Nat × Rt)
  rh : Rt
  s : Stk
def hadE (l : List (List Nat × Rt)) : List (List AV) := l.map fun p => [.vs 1 (nI p.1) p.2.strip]
structure SD.good (σ : SD) (i : Nat) : Prop where
  ok : σ.s.ok
  like : Like σ.s σ.ids σ.all
  nodup : σ.ids.Nodup
  next : σ.s.next = σ.all.length
  few : σ.all.length ≤ i
  wlen : σ.was.length = i
  hlen : σ.had.length = i
  ra : σ.ra ≠ .none
  rw : σ.rw ≠ .none
  rh : σ.rh ≠ .none
  past : ∀ (j : Nat) (s : Stk) (p : List Nat × Rt), σ.was[j]? = some s → σ.had[j]? = some p → s.ok ∧ Like s p.1 σ.all
theorem Like.more {s : Stk} {ids all : List Nat} (h : Like s ids all) (x : Nat) : Like s ids (all ++ [x]) :=
  ⟨h.nums, fun m hm => by
    have := h.at_ m hm
    rw [List.getElem?_append_left (List.getElem?_eq_some_iff.1 this).1]; exact this⟩
/-- An act that leaves 'all' or adds to it. -/
theorem SD.good.step {σ : SD} {i : Nat} (h : σ.good i) {ids all : List Nat} {rid ra rw rh : Rt} {s : Stk} (h1 : s.ok) (h2 : Like s ids all) (h3 : ids.Nodup) (h4 : s.next = all.length) (h5 : all = σ.all ∨ ∃ x, all = σ.all ++ [x]) (h6 : ra ≠ .none) (h7 : rw ≠ .none) (h8 : rh ≠ .none) :
    (SD.mk ids rid all ra (σ.was ++ [σ.s]) rw (σ.had ++ [(σ.ids, σ.rid)]) rh s).good (i + 1) := by
  have hall : ∀ s p, Like s p σ.all → Like s p all := fun s p hl => by
    rcases h5 with rfl | ⟨x, rfl⟩
    · exact hl
    · exact hl.more x
  refine ⟨h1, h2, h3, h4, ?_, by simp [h.wlen], by simp [h.hlen], h6, h7, h8, fun j s' p hs hp => ?_⟩
  · have := h.few
    rcases h5 with rfl | ⟨x, rfl⟩
    · show σ.all.length ≤ i + 1; omega
    · simp; omega
  · simp only at hs hp
    by_cases c : j < i
    · rw [List.getElem?_append_left (by rw [h.wlen]; exact c)] at hs
      rw [List.getElem?_append_left (by rw [h.hlen]; exact c)] at hp
      obtain ⟨q1, q2⟩ := h.past j s' p hs hp
      exact ⟨q1, hall _ _ q2⟩
    · have hj : j = i := by
        have := (List.getElem?_eq_some_iff.1 hs).1
        simp [h.wlen] at this; omega
      subst hj
      rw [List.getElem?_append_right (by rw [h.wlen]; exact Nat.le_refl _), h.wlen, Nat.sub_self] at hs
      rw [List.getElem?_append_right (by rw [h.hlen]; exact Nat.le_refl _), h.hlen, Nat.sub_self] at hp
      simp at hs hp
      subst hs hp
      exact ⟨h.ok, hall _ _ h.like⟩
theorem Like.gone {s : Stk} {ids all : List Nat} (h : Like s ids all) (k : Int) (r : Rt) : Like ⟨s.l.filter (fun m => decide ((m.num : Int) ≠ k)), r, s.next⟩ (ids.filter fun i : Nat => decide ((i : Int) ≠ k)) all := by
  refine ⟨?_, fun m hm => h.at_ m (List.mem_filter.1 hm).1⟩
  rw [← h.nums, List.filter_map]
  rfl
def SD.e (i : Nat) (σ : SD) : Lv := ([.vs 1 (nI σ.ids) σ.rid, .vs 1 (pI σ.all) σ.ra, .vs 2 (σ.was.map Stk.c) σ.rw, .vs 1 (hadE σ.had) σ.rh, .int .i64 i], [some σ.s.c])
theorem nI_snoc (l : List Nat) (n : Nat) : nI (l ++ [n]) = nI l ++ [[.int .i64 n]] := by simp [nI]
@[simp] theorem nI_len (l : List Nat) : (nI l).length = l.length := by simp [nI]
@[simp] theorem pI_len (l : List Nat) : (pI l).length = l.length := by simp [pI]
@[simp] theorem hadE_len (l : List (List Nat × Rt)) : (hadE l).length = l.length := by simp [hadE]
set_option maxRecDepth 100000 in
theorem law07_StackDoes_L (w0 : World) (hm : MaxL w0) (x0 : AV) (h0 : TV t_s_socagelaw07_Act x0) : AC w0 F_law07_StackDoes [x0] [] fun r _ => r = .bool true := by
  refine law_of fun Q hq => ?_
  obtain ⟨l, lr, rfl, hlr, hll, _⟩ := h0.slice (enc := Act7.c) (ok := fun _ => True) un_s_socagelaw07_Act ce_socagelaw07_Act dec_Act7
  apply law07_StackDoes_ok
  unfold G_law07_StackDoes
  refine law07_speaks_A hm (fun S _ => ?_)
  simp
  by_cases c200 : (200 : Int) < l.length
  · simp [c200, hq]
  simp [c200, joinK_eq]
  refine loop_list l SD.e (fun i σ S' => Sx S S' ∧ σ.good i) ⟨[], .nil, [], .nil, [], .nil, [], .nil, Stk.none⟩ (by simp [SD.e, nI, pI, hadE, Stk.none_c]) ⟨Sx.refl _, ⟨⟨fun _ => rfl, by simp [Stk.none], by simp [Stk.none], by simp [Stk.none]⟩, ⟨rfl, by simp [Stk.none]⟩, by simp, rfl, by simp, rfl, rfl, by simp, by simp, by simp, by simp⟩⟩ ?_ ?_
  · rintro i σ S' v b a c hxi hd hc hmem ⟨hSx, hg⟩ hv
    obtain ⟨ids, rid, all, ra, was, rw_, had, rh, s⟩ := σ
    simp [SD.e] at hv
    obtain ⟨⟨hv4, hv5, hv6, hv7, hv29⟩, hb3⟩ := hv
    have g1 := hg.ok
    have g2 := hg.like
    have g3 := hg.nodup
    have g4 := hg.next
    have g5 := hg.few
    have g6 := hg.wlen
    have g7 := hg.hlen
    have g8 := hg.ra
    have g9 := hg.rw
    have g10 := hg.rh
    simp only at g1 g2 g3 g4 g5 g6 g7 g8 g9 g10
    have hlen : ids.length = s.l.length := by rw [← g2.nums, List.length_map]
    have h64 := g1.len
    simp [hv4, hv5, hv6, hv7, hv29, hb3, hc, hxi]
    have hap1 : ∀ S2 : St, appendA T_stack_Stack S2 (.vs 2 (was.map Stk.c) rw_) (.vs 2 [s.c] .full) = some (.vs 2 (was.map Stk.c ++ [s.c]) (.own (rowTy T_stack_Stack rw_))) := fun S2 => by
      simp [appendA, elemsA, g9, show was.length + 1 ≤ lim by unfold lim; omega]
    have hap2 : ∀ S2 : St, appendA T_s_int S2 (.vs 1 (hadE had) rh) (.vs 1 [[.vs 1 (nI ids) rid.strip]] .full) = some (.vs 1 (hadE (had ++ [(ids, rid)])) (.own (rowTy T_s_int rh))) := fun S2 => by
      simp [appendA, elemsA, g10, show had.length + 1 ≤ lim by unfold lim; omega]
      simp [hadE]
    have hgo : ∀ {ids' all' : List Nat} {rid' ra' : Rt} {s' : Stk} {S2 : St}, s'.ok → Like s' ids' all' → ids'.Nodup → s'.next = all'.length → (all' = all ∨ ∃ x, all' = all ++ [x]) → ra' ≠ .none → Sx S' S2 →
        Nl SD.e (fun i σ S' => Sx S S' ∧ σ.good i) l.length i ([.vs 1 (nI ids') rid', .vs 1 (pI all') ra', .vs 2 (was.map Stk.c ++ [s.c]) (.own (rowTy T_stack_Stack rw_)), .vs 1 (hadE (had ++ [(ids, rid)])) (.own (rowTy T_s_int rh)), .int .i64 ((i : Int) + 1)], [some s'.c]) S2 := fun {ids' all' rid' ra' s' S2} k1 k2 k3 k4 k5 k6 k7 => by
      refine .next c ⟨ids', rid', all', ra', was ++ [s], .own (rowTy T_stack_Stack rw_), had ++ [(ids, rid)], .own (rowTy T_s_int rh), s'⟩ (by simp [SD.e]) ⟨hSx.trans k7, ?_⟩
      exact hg.step k1 k2 k3 k4 k5 k6 (by simp) (by simp)
    simp only [hap1, hap2]
    obtain ⟨out, k⟩ := a
    cases out with
    | true =>
      simp
      refine loop_list ids (fun j (σ : List Nat × Rt) => ([.vs 1 (nI σ.1) σ.2, .int .i64 j], [some [.bool true, .int .i64 k]])) (fun j σ S2 => S2 = S' ∧ σ.1 = (ids.take j).filter (fun i : Nat => decide ((i : Int) ≠ k)) ∧ σ.2 ≠ .none) ([], .nil) (by simp [nI]) ⟨rfl, by simp, by simp⟩ ?_ ?_
      · rintro j ⟨left, r⟩ S2 v2 b2 x c2 hxj hd2 hc2 hmem2 ⟨rfl, hleft, hr⟩ hv2
        simp at hv2 hleft hr
        obtain ⟨⟨hv10, hv45⟩, hb9⟩ := hv2
        have hnj : (nI ids)[j]? = some [.int .i64 x] := by simp [nI, hxj]
        have htk : ids.take (j + 1) = ids.take j ++ [x] := by rw [List.take_succ, hxj]; rfl
        simp [hv10, hv45, hb9, hc2, hnj]
        have hll2 : left.length ≤ 64 := by
          rw [hleft]
          exact Nat.le_trans (List.length_filter_le _ _) (by rw [List.length_take]; omega)
        by_cases e : (x : Int) = k
        · simp [e]
          try simp (disch := omega) only [wrap64]
          refine .next c2 (left, r) rfl ⟨rfl, ?_, hr⟩
          simp only
          rw [htk, List.filter_append, hleft]
          simp [e]
        · have hap : ∀ S2 : St, appendA T_int S2 (.vs 1 (nI left) r) (.vs 1 [[.int .i64 x]] .full) = some (.vs 1 (nI (left ++ [x])) (.own (rowTy T_int r))) := fun S2 => by
            simp [appendA, elemsA, hr, show left.length + 1 ≤ lim by unfold lim; omega, nI_snoc]
          simp [e, hap]
          try simp (disch := omega) only [wrap64]
          refine .next c2 (left ++ [x], .own (rowTy T_int r)) rfl ⟨rfl, ?_, by simp⟩
          simp only
          rw [htk, List.filter_append, hleft]
          simp [e]
      · rintro ⟨left, r⟩ S2 v2 b2 ⟨rfl, hleft, hr⟩ hv2 N
        simp at hv2 hleft hr
        obtain ⟨⟨hv10, hv45⟩, hb9⟩ := hv2
        simp [hv10, hv45, hb9]
        have hleft' : left = ids.filter (fun i : Nat => decide ((i : Int) ≠ k)) := by
          rw [hleft]
          congr 1
          funext x
          simp
        clear hleft
        refine stack_Remove_A g1 (fun hno S3 hS3 => ?_) (fun j m hj hk hno S3 hS3 => ?_)
        · have hsame : left = ids := by
            rw [hleft']
            refine List.filter_eq_self.2 fun x hx => ?_
            rw [← g2.nums] at hx
            obtain ⟨m, hm1, rfl⟩ := List.mem_map.1 hx
            simpa using hno m hm1
          subst hsame
          simp
          refine law07_same_A g1 g2 ?_
          simp
          try simp (disch := omega) only [wrap64]
          exact hgo g1 g2 g3 g4 (.inl rfl) (by simpa using g8) hS3
        · have herase : s.l.eraseIdx j = s.l.filter (fun m => decide ((m.num : Int) ≠ k)) := by
            rw [erase_filter (by rw [g2.nums]; exact g3) hj]
            congr 1
            funext x
            rw [← hk]
            simp
            omega
          have hless := erase_less hj
          have hlike : Like ⟨s.l.eraseIdx j, .none, s.next⟩ left all := by
            rw [herase, hleft']
            exact g2.gone k .none
          have hln : left.length < ids.length := by
            rw [← hlike.nums, List.length_map, hlen]; exact hless
          have hok' : (Stk.mk (s.l.eraseIdx j) .none s.next).ok := ⟨by simp [Rt.strip], by simp only; omega, g1.next, fun m hm' => g1.num m (List.mem_of_mem_eraseIdx hm')⟩
          have hnd : left.Nodup := by rw [hleft']; exact g3.filter _
          have hnx : (Stk.mk (s.l.eraseIdx j) .none s.next).next = all.length := g4
          generalize Stk.mk (s.l.eraseIdx j) .none s.next = s2 at hlike hok' hnx ⊢
          simp [hln]
          refine law07_same_A hok' hlike ?_
          simp
          try simp (disch := omega) only [wrap64]
          exact hgo hok' hlike hnd hnx (.inl rfl) (by simpa using g8) hS3
    | false =>
      simp
      refine tree_Dir_A (l := []) (items := []) (r1 := .nil) (r2 := .nil) (by intro _; rfl) (by intro _; rfl) (by simp) (by simp) (fun q1 q2 k1 k2 => ?_)
      have hok1 := dirN_ok (o := false) (l := []) (items := []) (by simp) (by simp) k1 k2
      have hr1 : rightB (dirN false [] q1 [] q2) = true := by rfl
      generalize dirN false [] q1 [] q2 = d1 at hok1 hr1 ⊢
      simp
      refine branch_New_A hm hok1 (fun _ S3 id hS3 hid hB => ?_) (fun hno => by rw [hr1] at hno; cases hno)
      simp
      refine stack_Add_A (P := []) g1 (fun h64 => ?_) (fun h64 r2 hr2 => ?_)
      · simp [show (64 : Int) ≤ ids.length by omega]
        refine law07_same_A g1 g2 ?_
        simp
        try simp (disch := omega) only [wrap64]
        exact hgo g1 g2 g3 g4 (.inl rfl) (by simpa using g8) hS3
      · have hlt : ∀ x ∈ ids, x < all.length := fun x hx => by
          rw [← g2.nums] at hx
          obtain ⟨m, hm1, rfl⟩ := List.mem_map.1 hx
          exact (List.getElem?_eq_some_iff.1 (g2.at_ m hm1)).1
        have hlike : Like ⟨⟨s.next, id, []⟩ :: s.l, r2, s.next + 1⟩ (all.length :: ids) (all ++ [id]) := by
          refine ⟨by simp [g4, g2.nums], fun m hm' => ?_⟩
          rcases List.mem_cons.1 hm' with rfl | hm'
          · simp [g4]
          · have := g2.at_ m hm'
            rw [List.getElem?_append_left (List.getElem?_eq_some_iff.1 this).1]; exact this
        have hok' : (Stk.mk (⟨s.next, id, []⟩ :: s.l) r2 (s.next + 1)).ok := ⟨fun e => absurd e hr2, by simp; omega, by simp only; omega, fun m hm' => by
          rcases List.mem_cons.1 hm' with rfl | hm'
          · simp only; omega
          · exact g1.num m hm'⟩
        have hnd : (all.length :: ids).Nodup := by
          rw [List.nodup_cons]
          exact ⟨fun h => by have := hlt _ h; omega, g3⟩
        have hnx : (Stk.mk (⟨s.next, id, []⟩ :: s.l) r2 (s.next + 1)).next = (all ++ [id]).length := by simp [g4]
        have hap3 : ∀ S2 : St, appendA T_p_branch_Branch S2 (.vs 1 (pI all) ra) (.vs 1 [[.ptr id 0]] .full) = some (.vs 1 (pI (all ++ [id])) (.own (rowTy T_p_branch_Branch ra))) := fun S2 => by
          simp [appendA, elemsA, g8, show all.length + 1 ≤ lim by unfold lim; omega]
          simp [pI]
        have hap4 : ∀ S2 : St, ∃ r4, appendA T_int S2 (.vs 1 [[.int .i64 (all.length : Int)]] .full) (.vs 1 (nI ids) rid.strip) = some (.vs 1 (nI (all.length :: ids)) r4) := fun S2 => by
          by_cases e : ids = []
          · subst e
            exact ⟨.full, by simp [appendA, elemsA, nI]⟩
          · have e2 : nI ids ≠ [] := by simpa [nI] using e
            exact ⟨.own (rowTy T_int .full), by simp [appendA, elemsA, e2, show 1 + ids.length ≤ lim by unfold lim; omega, show ids.length + 1 ≤ lim by unfold lim; omega]; simp [nI]⟩
        generalize Stk.mk (⟨s.next, id, []⟩ :: s.l) r2 (s.next + 1) = s2 at hlike hok' hnx ⊢
        simp [show ¬ (64 : Int) ≤ ids.length by omega, g4]
        simp [hap3]
        obtain ⟨r4, hr4⟩ := hap4 S3
        simp [hr4]
        refine law07_same_A hok' hlike ?_
        simp
        try simp (disch := omega) only [wrap64]
        exact hgo hok' hlike hnd hnx (.inr ⟨id, rfl⟩) (by simp) hS3
  · rintro σ S' v b ⟨hSx, hg⟩ hv N
    obtain ⟨ids, rid, all, ra, was, rw_, had, rh, s⟩ := σ
    simp [SD.e] at hv
    obtain ⟨⟨hv4, hv5, hv6, hv7, hv29⟩, hb3⟩ := hv
    have g6 := hg.wlen
    have g7 := hg.hlen
    have g8 := hg.past
    simp only at g6 g7 g8
    simp [hv4, hv5, hv6, hv7, hv29, hb3]
    refine loop_list was (fun i (_ : Unit) => ([.int .i64 i], [])) (fun i _ S2 => S2 = S') () rfl rfl ?_ ?_
    · rintro i _ S2 v2 b2 t c hxi hd hc hmem rfl hv2
      simp at hv2
      obtain ⟨p, hp⟩ : ∃ p, had[i]? = some p := ⟨had[i]'(by omega), List.getElem?_eq_getElem (by omega)⟩
      obtain ⟨q1, q2⟩ := g8 i t p hxi hp
      have hh : (hadE had)[i]? = some [.vs 1 (nI p.1) p.2.strip] := by simp [hadE, hp]
      simp [hv2, hc, hxi, hh]
      refine law07_same_A q1 q2 ?_
      simp
      try simp (disch := omega) only [wrap64]
      exact .next c () rfl rfl
    · rintro _ S2 v2 b2 rfl hv2 N
      simp at hv2
      simp [hv2]
      exact hq _
end Go.Av
