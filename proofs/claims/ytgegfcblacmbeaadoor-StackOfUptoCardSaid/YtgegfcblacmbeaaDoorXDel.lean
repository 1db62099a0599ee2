/- Parts of the proofs of this seat: abstract values over the model, and what the functions of the program do. No condition. -/
import Derived.Test.YtgegfcblacmbeaaDoorM9
import Derived.Test.YtgegfcblacmbeaaDoorD0
import Derived.Test.YtgegfcblacmbeaaDoorXDelW
import Derived.Test.YtgegfcblacmbeaaDoorXDelR
import Derived.Test.YtgegfcblacmbeaaDoorY05d
import Derived.Test.YtgegfcblacmbeaaDoorX05e
import Derived.Test.YtgegfcblacmbeaaDoorX04L
import Derived.Shelf.Lay
import Derived.Shelf.LaySoft
import Derived.Shelf.SlGeneric
import Derived.Ground.SlgnProg
import Derived.Shelf.SlicesE.Clone
set_option linter.all false
set_option linter.unusedVariables false
/-! slices.Clone and slices.Delete of rows of mounts. -/
namespace Go.Proofs
open Go.Shelf Go.Av
shelf_lay_g SlLaysE0.n41 Slgn 41 at Tryd 69 as Tryd.laysClm
shelf_lay_g SlLaysE0.n45 Slgn 45 at Tryd 68 as Tryd.laysDlm
end Go.Proofs
namespace Go.Av
open Go.Proofs Go.Shelf Go.RowKit

/-- What the program tells of a mount. -/
theorem mount_ty (w0 : World) : ∃ i z, Tryd.prog.info? t_stack_mount = some i ∧ i.size = 2 ∧ i.bytes = 16 ∧ i.zero = some z ∧ z.cells.size = 2 ∧ ∀ u ∈ z.cells, u.oneCell' = true := by
  obtain ⟨i, z, d, h1, h2, h3, h4, h5, h6, h7, h8, h9, h10⟩ := ((agree w0).ty t_stack_mount (by kernel_rfl)).ex
  refine ⟨i, z, h1, h2, h3, h4, h8, fun u hu => ?_⟩
  have hz : (zeroA ((En w0).C.ty t_stack_mount)) = .agg [.int .i64 0, .nil] := by kernel_rfl
  have hv := h10 (Gh.mk (fun _ _ => none) (fun _ => none) (fun _ => .ext) (fun _ => 0))
  rw [hz] at hv
  obtain ⟨k, hk⟩ := List.getElem?_of_mem (Array.mem_toList_iff.2 hu)
  rw [Array.getElem?_toList] at hk
  have hk2 : k < 2 := by have := (Array.getElem?_eq_some_iff.1 hk).1; rw [h8] at this; exact this
  have := fun x hx => (hv.cells rfl k x u hx hk)
  match k, hk2 with
  | 0, _ => exact (this (.int .i64 0) rfl).oneCell rfl
  | 1, _ => exact (this .nil rfl).oneCell rfl

theorem Clone_rs_A {w0 : World} {S : St} {es : List (List AV)} {r : Rt} (h0 : es ≠ []) (hn : es.length ≤ 1000000) {Q : AV → St → Prop} (hq : Q (.rs 2 S.length 0 es.length) (S ++ [.cells es.flatten 0])) :
    AC w0 F_slices_Clone_s_stack_mount_stack_mount [.vs 2 es r] S Q := by
  refine ⟨⟨_, fn_slices_Clone_s_stack_mount_stack_mount, by kernel_rfl, by kernel_rfl⟩, fun G w hrel hrole args' hl ha => ?_⟩
  obtain ⟨v, rfl⟩ : ∃ v, args' = #[v] := by
    match args', hl with
    | ⟨[v]⟩, _ => exact ⟨v, rfl⟩
  have h0' := (ha 0 _ v rfl rfl).1
  cases h0' with
  | vsnil => exact (h0 rfl).elim
  | vse a sz r hr => exact (h0 rfl).elim
  | vs b o cap sz es' r f hr hc hf hs h h2 =>
    obtain ⟨news, hnews⟩ : ∃ news, news = (List.range (es.length * 2)).map fun k => f (k / 2) (k % 2) := ⟨_, rfl⟩
    have hlen : news.length = es.length * 2 := by rw [hnews]; simp
    have hE : ElemsV G 2 news es := ⟨hlen, hs, fun i e j x hi hj => by
      have h3 := (hs e (List.mem_of_getElem? hi)).1
      have h4 := (List.getElem?_eq_some_iff.1 hj).1
      have h5 := (List.getElem?_eq_some_iff.1 hi).1
      refine ⟨f i j, ?_, h2 i e j x hi hj⟩
      rw [hnews, List.getElem?_map, List.getElem?_range (by omega)]
      simp only [Option.map_some]
      rw [show (i * 2 + j) / 2 = i by omega, show (i * 2 + j) % 2 = j by omega]⟩
    have hcell : ∀ j u, news[j]? = some u → w.cell? ⟨b, o + j, none⟩ = some u := fun j u hu => by
      have h4 := (List.getElem?_eq_some_iff.1 hu).1
      rw [hlen] at h4
      rw [hnews, List.getElem?_map, List.getElem?_range h4] at hu
      simp only [Option.map_some, Option.some.injEq] at hu
      have hi : es[j / 2]? = some es[j / 2] := List.getElem?_eq_getElem (by omega)
      have h3 := (hs _ (List.mem_of_getElem? hi)).1
      have hj : es[j / 2][j % 2]? = some (es[j / 2][j % 2]) := List.getElem?_eq_getElem (by omega)
      have := hrel.imm _ _ _ (h _ _ _ _ hi hj)
      rw [hu, show o + j / 2 * 2 + j % 2 = o + j by omega] at this
      exact this
    obtain ⟨i0, z, i1, i2, i3, i4, i5, i6⟩ := mount_ty w0
    have hmax : es.length ≤ maxLen := Nat.le_trans hn (by decide)
    refine (AnyE.slices_Clone Tryd.laysClm i0 z 2 16 i1 i4 i2 i3 i5 (by decide) (sizeOf_run i1 i2) b o es.length cap news w hlen hmax (by omega) hcell hE.oneCell).mono ?_
    rintro e w' ⟨v', rfl, ⟨k1, k2⟩, k3, k4⟩
    rcases k2 with ⟨rfl, _⟩ | ⟨g, cp, cur, rfl, g1, g2, g3, g4, g5, g6⟩
    · exact (k3 rfl).elim
    obtain ⟨hf1, hf2⟩ := hE.flat
    have hcur : ∀ j, j < es.length * 2 → cur[j]? = news[j]? := fun j hj => by
      rw [← g6, List.getElem?_take, if_pos hj, Array.getElem?_toList]
    obtain ⟨q1, q2⟩ := hrel.ownRow k4 g1 g2 (cs := es.flatten) (by rw [← hf1, hlen, g5]; exact Nat.mul_le_mul_right _ g3) (fun j x v hx hv => hf2 j x v hx (by
      have := (List.getElem?_eq_some_iff.1 hx).1
      rw [← hf1, hlen] at this
      rw [← hcur j this]; exact hv))
    refine ⟨_, .rs 2 S.length 0 es.length, _, _, rfl, hq, q1, .of_cell1 (.rs g _ 0 _ cp 2 (by simp [Gh.obj]) g3 (by simp [Gh.obj, Gh.row, g5])) rfl, q2.weaken (by simp), fun b => ?_⟩
    by_cases hbg : b = g
    · left; exact ⟨S.length, by simp [Gh.obj, Gh.row, hbg]⟩
    · have : ((G.row g S.length cur.size).obj S.length g).role b = G.role b := by simp [Gh.obj, Gh.row, hbg]
      rw [this]
      rcases hrole b with h | h | h
      · exact .inl h
      · exact .inr (.inl h)
      · exact .inr (.inr (.inl h))
theorem Delete_rs_A {w0 : World} {S : St} {id t : Nat} {es : List (List AV)} (hS : S[id]? = some (.cells es.flatten t)) (hes : ∀ e ∈ es, e.length = 2 ∧ ∀ x ∈ e, x.cell1 = true) (hn : es.length ≤ 1000000) {i : Nat} (hi : i < es.length) {Q : AV → St → Prop}
    (hq : Q (.vs 2 (es.eraseIdx i) .none) (S.set id .dead)) :
    AC w0 F_slices_Delete_s_stack_mount_stack_mount [.rs 2 id 0 es.length, .int .i64 i, .int .i64 ((i : Int) + 1)] S Q := by
  refine ⟨⟨_, fn_slices_Delete_s_stack_mount_stack_mount, by kernel_rfl, by kernel_rfl⟩, fun G w hrel hrole args' hl ha => ?_⟩
  obtain ⟨v, u, u2, rfl⟩ : ∃ v u u2, args' = #[v, u, u2] := by
    match args', hl with
    | ⟨[v, u, u2]⟩, _ => exact ⟨v, u, u2, rfl⟩
  have h0' := (ha 0 _ v rfl rfl).1
  have h1' := (ha 1 _ u rfl rfl).1
  have h2' := (ha 2 _ u2 rfl rfl).1
  cases h1'
  cases h2'
  obtain ⟨fl1, fl2⟩ := flatten_get (ys := es) (sz := 2) fun e he => (hes e he).1
  generalize hnn : es.length = n at h0' hi hn fl1
  cases h0' with
  | rs b _ _ _ cap _ hrho hcap hlenb =>
    obtain ⟨b', arr, e, k1, k2, k3, k4, k5⟩ := hrel.obj id _ hS
    rw [hrho] at k1
    cases k1
    have hfit : cap * 2 ≤ arr.size := by
      rw [Nat.zero_add] at hlenb
      obtain ⟨a2, e2, f2, q1, q2⟩ := hrel.len b (by omega)
      rw [k3] at q1; cases q1; omega
    have hcell : ∀ k u, k < n * 2 → arr[k]? = some u → ∃ x, es.flatten[k]? = some x ∧ VR G u x ∧ x.cell1 = true := fun k u hk hu => by
      have hx : es.flatten[k]? = some es.flatten[k] := List.getElem?_eq_getElem (by omega)
      refine ⟨_, hx, (k4.2 k _ u hx hu).vr, ?_⟩
      obtain ⟨e1, h1, h2⟩ := List.mem_flatten.1 (List.getElem_mem (l := es.flatten) (n := k) (by omega))
      exact (hes e1 h1).2 _ h2
    obtain ⟨i0, z, i1, i2, i3, i4, i5, i6⟩ := mount_ty w0
    have := delete_row2 Tryd.laysDlm z i0 i1 i2 (sizeOf_run i1 i2) (zeroValue_run i1 i4) i5 i6 b cap i (i + 1) n rfl arr e w k3 hcap hi hfit fun k u hk hu => by
      obtain ⟨x, _, h1, h2⟩ := hcell k u hk hu
      exact h1.oneCell (AV.cell1.free1 h2)
    refine this.mono ?_
    rintro ex w' ⟨rfl, arr', rfl, hsz, hlo, hhi⟩
    have hget : ∀ k, k < (n - 1) * 2 → arr'[k]? = arr[if k < i * 2 then k else k + 2]? := fun k hk => by
      split
      · exact hlo k (by omega)
      · exact hhi k (by omega) hk
    obtain ⟨q1, q2⟩ := hrel.drew.freezeRow k2 (arr := arr) (arr' := arr') (e := e) k3 hsz (fun k => if k < (n - 1) * 2 then arr'[k]? else none) (fun k v hv => by
      split at hv
      · exact hv
      · cases hv)
    have hd : Chg (fun κ => κ ≠ .ext) G w G w.drew := ⟨.refl G, Nat.le_refl _, fun _ _ _ => ⟨rfl, rfl, fun _ => rfl⟩⟩
    have hle : (es.eraseIdx i).length = n - 1 := by rw [List.length_eraseIdx, hnn, if_pos hi]
    refine ⟨_, .vs 2 (es.eraseIdx i) .none, _, _, rfl, hq, q1, .of_cell1 ?_ rfl, hd.trans (q2.weaken (by rintro κ rfl; simp)), fun b2 => ?_⟩
    · have := VR.vs (G := G.freeze b fun k => if k < (n - 1) * 2 then arr'[k]? else none) b 0 cap 2 (es.eraseIdx i) .none (fun p q => (arr'[p * 2 + q]?).getD undef) (by simp) (by rw [hle]; omega) (by simp) (fun e he => hes e (List.mem_of_mem_eraseIdx he))
        (fun p e q x hp hq => by
          have h1 : p < n - 1 := by rw [← hle]; exact (List.getElem?_eq_some_iff.1 hp).1
          have h2 := (hes e (List.mem_of_mem_eraseIdx (List.mem_of_getElem? hp))).1
          have h3 := (List.getElem?_eq_some_iff.1 hq).1
          have h4 : p * 2 + q < arr'.size := by omega
          simp only [Gh.freeze, if_true, Nat.zero_add]
          rw [if_pos (by omega), Array.getElem?_eq_getElem h4]
          rfl)
        (fun p e q x hp hq => by
          have h1 : p < n - 1 := by rw [← hle]; exact (List.getElem?_eq_some_iff.1 hp).1
          have h2 := (hes e (List.mem_of_mem_eraseIdx (List.mem_of_getElem? hp))).1
          have h3 := (List.getElem?_eq_some_iff.1 hq).1
          have h4 : p * 2 + q < arr'.size := by omega
          have hg := hget (p * 2 + q) (by omega)
          rw [List.getElem?_eraseIdx] at hp
          rw [hg]
          have key : ∀ p', es[p']? = some e → p' < n → VR G ((arr[p' * 2 + q]?).getD undef) x := fun p' hp' hlt => by
            have h5 : p' * 2 + q < arr.size := by omega
            rw [Array.getElem?_eq_getElem h5]
            obtain ⟨y, y1, y2, y3⟩ := hcell (p' * 2 + q) _ (by omega) (Array.getElem?_eq_getElem h5)
            rw [fl2 p' e q hp' (by omega), hq] at y1
            cases y1
            exact y2
          refine VR.mono q2.le ?_
          split at hp
          · rw [if_pos (by omega)]; exact key p hp (by omega)
          · rw [if_neg (by omega), show p * 2 + q + 2 = (p + 1) * 2 + q by omega]; exact key (p + 1) hp (by omega))
      rw [hle] at this
      exact this
    · by_cases hb : b2 = b
      · subst hb; right; right; left; simp [Gh.freeze]
      · have : (G.freeze b fun k => if k < (n - 1) * 2 then arr'[k]? else none).role b2 = G.role b2 := by simp [Gh.freeze, hb]
        rw [this]
        rcases hrole b2 with h | h | h
        · exact .inl h
        · exact .inr (.inl h)
        · exact .inr (.inr (.inl h))
end Go.Av
set_option linter.unusedVariables false
/-! Stacks: a branch taken out; held against numbers. -/
namespace Go.Av
open Go.Proofs
theorem stack_Remove_1_A {w0 : World} {S : St} {m : Mnt} {id t : Nat} {k : Int} (hS : S[id]? = some (.cells [.int .i64 k] t)) {Q : AV → St → Prop} (hq : Q (.bool (decide ((m.num : Int) = k))) S) : AC w0 F_stack_Stack_Remove_1 [.agg m.c, .ptr id 0] S Q := by
  unfold Mnt.c
  apply stack_Stack_Remove_1_ok
  unfold G_stack_Stack_Remove_1
  simp [loadA_ptr hS]
  simpa [BEq.beq] using hq
theorem IndexFunc_mount_A {w0 : World} {S : St} {l : List Mnt} {r : Rt} {id t : Nat} {k : Int} (hS : S[id]? = some (.cells [.int .i64 k] t)) (hl : l.length ≤ 1000000) {Q : AV → St → Prop}
    (h1 : (∀ m ∈ l, (m.num : Int) ≠ k) → Q (.int .i64 (-1)) S) (h2 : ∀ i m, l[i]? = some m → (m.num : Int) = k → (∀ m' ∈ l.take i, (m'.num : Int) ≠ k) → Q (.int .i64 i) S) :
    AC w0 F_slices_IndexFunc_s_stack_mount_stack_mount [.vs 2 (l.map Mnt.c) r, .fn F_stack_Stack_Remove_1 [] [.ptr id 0]] S Q := by
  apply slices_IndexFunc_s_stack_mount_stack_mount_ok
  unfold G_slices_IndexFunc_s_stack_mount_stack_mount
  simp [joinK_eq]
  refine loop_list l (fun i (_ : Unit) => ([.int .i64 i], [])) (fun i _ S' => S' = S ∧ ∀ m' ∈ l.take i, (m'.num : Int) ≠ k) () rfl ⟨rfl, by simp⟩ ?_ ?_
  · rintro i _ S' v b m c hxi hd hc hmem ⟨rfl, hno⟩ hv
    simp at hv
    simp [hv, hc, hxi]
    refine stack_Remove_1_A hS ?_
    by_cases e : (m.num : Int) = k
    · simp [e]
      exact h2 i m hxi e hno
    · simp [e]
      try simp (disch := omega) only [wrap64]
      refine .next c () rfl ⟨rfl, ?_⟩
      have htk : l.take (i + 1) = l.take i ++ [m] := by rw [List.take_succ, hxi]; rfl
      rw [htk]
      intro m' hm'
      rcases List.mem_append.1 hm' with hm' | hm'
      · exact hno m' hm'
      · rw [List.mem_singleton] at hm'; subst hm'; exact e
  · rintro _ S' v b ⟨rfl, hno⟩ hv N
    simp at hv
    rw [List.take_length] at hno
    simp [hv]
    exact h1 hno
theorem stack_Remove_A {w0 : World} {S : St} {s : Stk} {k : Int} (hs : s.ok) {Q : AV → St → Prop} (h1 : (∀ m ∈ s.l, (m.num : Int) ≠ k) → ∀ S', Sx S S' → Q (.tup [.agg s.c, .int .i64 2]) S')
    (h2 : ∀ i m, s.l[i]? = some m → (m.num : Int) = k → (∀ m' ∈ s.l.take i, (m'.num : Int) ≠ k) → ∀ S', Sx S S' → Q (.tup [.agg (Stk.c ⟨s.l.eraseIdx i, .none, s.next⟩), .int .i64 0]) S') :
    AC w0 F_stack_Stack_Remove [.agg s.c, .int .i64 k] S Q := by
  unfold Stk.c at *
  apply stack_Stack_Remove_ok
  unfold G_stack_Stack_Remove
  have hl := hs.len
  simp [funcA]
  refine IndexFunc_mount_A (id := S.length) (t := t_int) (k := k) (by simp) (by omega) (fun hno => ?_) (fun i m hi hk hno => ?_)
  · have := h1 hno _ (Sx.app S [.cells [.int .i64 k] t_int])
    simp
    simpa using this
  · have hlt := (List.getElem?_eq_some_iff.1 hi).1
    simp [show ¬ ((i : Int) < 0) by omega]
    try simp (disch := omega) only [wrap64]
    have hne : s.l.map Mnt.c ≠ [] := by
      intro e
      have := congrArg List.length e
      simp at this
      rw [this] at hlt
      simp at hlt
    refine Clone_rs_A hne (by simp; omega) ?_
    simp
    have hdel := @Delete_rs_A w0 (S ++ [.cells [.int .i64 k] t_int] ++ [.cells (s.l.map Mnt.c).flatten 0]) (S.length + 1) 0 (s.l.map Mnt.c) (by simp) (fun e he => by
      obtain ⟨m', _, rfl⟩ := List.mem_map.1 he
      exact ⟨rfl, by simp [Mnt.c, AV.cell1, AV.free1, AV.own]⟩) (by simp; omega) i (by simpa using hlt)
    simp at hdel
    refine hdel ?_
    have h3 := h2 i m hi hk hno ((S ++ [Obj.cells [.int .i64 k] t_int, Obj.cells (s.l.map Mnt.c).flatten 0]).set (S.length + 1) .dead) (fun j hj => by
      rw [List.getElem?_set_ne (by omega), List.getElem?_append_left hj])
    have herase : (s.l.map Mnt.c).eraseIdx i = (s.l.eraseIdx i).map Mnt.c := by simp [List.eraseIdx_eq_take_drop_succ, List.map_take, List.map_drop]
    rw [herase]
    simp
    simpa using h3
end Go.Av
set_option linter.unusedVariables false
/-! Stacks held against numbers; two branches. -/
namespace Go.Av
open Go.Proofs
def nI (l : List Nat) : List (List AV) := l.map fun i : Nat => [AV.int .i64 i]
def pI (l : List Nat) : List (List AV) := l.map fun i : Nat => [AV.ptr i 0]
/-- These numbers, and of all branches those that they name. -/
structure Like (s : Stk) (ids all : List Nat) : Prop where
  nums : s.l.map Mnt.num = ids
  at_ : ∀ m ∈ s.l, all[m.num]? = some m.id
set_option maxRecDepth 100000 in
theorem law07_same_A {w0 : World} {s : Stk} {ids all : List Nat} {r1 r2 : Rt} {S : St} (hs : s.ok) (h : Like s ids all) {Q : AV → St → Prop} (hq : Q (.bool true) S) : AC w0 F_law07_same [.agg s.c, .vs 1 (nI ids) r1, .vs 1 (pI all) r2] S Q := by
  have hlen : ids.length = s.l.length := by rw [← h.nums, List.length_map]
  have hl := hs.len
  have hsc : s.c = [.vs 2 (s.l.map Mnt.c) s.r.strip, .int .i64 s.next] := rfl
  rw [hsc]
  apply law07_same_ok
  unfold G_law07_same
  simp only [← hsc]
  have hn : (nI ids).length = s.l.length := by rw [nI, List.length_map, hlen]
  have hm1 : s.at_ (-1) = none := by simp [Stk.at_]
  have hml : s.at_ (s.l.length : Int) = none := by simp [Stk.at_]
  simp [joinK_eq]
  refine stack_Len_A ?_
  simp [hn]
  refine stack_At_A ?_
  simp [hm1]
  refine stack_ID_A ?_
  simp [hm1]
  refine stack_At_A ?_
  simp [hml]
  refine stack_ID_A ?_
  simp [hml]
  refine loop_list s.l (fun i (_ : Unit) => ([.int .i64 i], [some s.c])) (fun i _ S' => S' = S) () rfl rfl ?_ ?_
  · rintro i _ S' v b m c hxi hd hc hmem rfl hv
    simp at hv
    obtain ⟨hv1, hv2⟩ := hv
    have hat : s.at_ (i : Int) = some m := by simp [Stk.at_, hxi]
    have hid : ids[i]? = some m.num := by rw [← h.nums, List.getElem?_map, hxi]; rfl
    have hni : (nI ids)[i]? = some [.int .i64 m.num] := by simp [nI, hid]
    have hpi : (pI all)[m.num]? = some [.ptr m.id 0] := by simp [pI, h.at_ m hmem]
    simp [hv1, hv2, hc, hni]
    refine stack_ID_A ?_
    simp [hat, hpi]
    refine stack_At_A ?_
    simp [hat, binP, eqPtrA]
    try simp (disch := omega) only [wrap64]
    exact .next c () rfl rfl
  · rintro _ S' v b rfl hv N
    simp at hv
    obtain ⟨hv1, hv2⟩ := hv
    simp [hv1, hv2]
    exact hq
set_option maxRecDepth 100000 in
theorem law07_speaks_A {w0 : World} (hm : MaxL w0) {S : St} {Q : AV → St → Prop} (hq : ∀ S', Sx S S' → Q (.bool true) S') : AC w0 F_law07_speaks [] S Q := by
  apply law07_speaks_ok
  unfold G_law07_speaks
  refine tree_Dir_A (l := []) (items := []) (r1 := .nil) (r2 := .nil) (by intro _; rfl) (by intro _; rfl) (by simp) (by simp) (fun q1 q2 k1 k2 => ?_)
  refine tree_White_A ?_
  simp
  refine tree_Dir_A (l := [[97]]) (items := [whiteN]) okR_full okR_full (by simp) (by simp) (fun q3 q4 k3 k4 => ?_)
  have hok1 := dirN_ok (o := false) (l := []) (items := []) (by simp) (by simp) k1 k2
  have hok2 := dirN_ok (o := false) (l := [[97]]) (items := [whiteN]) (by simp) (by simp [white_ok]) k3 k4
  have hr1 : rightB (dirN false [] q1 [] q2) = true := by rfl
  have hr2 : rightB (dirN false [[97]] q3 [whiteN] q4) = true := by rfl
  have e1 : ((dirN false [] q1 [] q2).tab 0).length = 1 := by rfl
  have e2 : ((dirN false [[97]] q3 [whiteN] q4).tab 0).length = 2 := by rfl
  generalize dirN false [] q1 [] q2 = d1 at hok1 hr1 e1 ⊢
  generalize dirN false [[97]] q3 [whiteN] q4 = d2 at hok2 hr2 e2 ⊢
  simp
  have h0 := ofErr_all [d1, d2] 0 (by simp [hr1, hr2]) (by simp)
  refine stack_Of_A (l := [d1, d2]) hm (by simp [hok1, hok2]) (by simp) (fun S1 h1 => ⟨fun _ s hs => ?_, fun h => absurd h0 h⟩)
  have htabs := hs.tabs
  have hnums := hs.nums
  have hon := hs.on
  have hok := hs.ok
  obtain ⟨l, r, next⟩ := s
  obtain ⟨m0, m1, rfl⟩ : ∃ m0 m1, l = [m0, m1] := by
    have := hs.len
    match l, this with
    | [a, b], _ => exact ⟨a, b, rfl⟩
  simp [List.range_succ] at htabs hnums
  obtain ⟨t0, t1⟩ := htabs
  obtain ⟨n0, n1⟩ := hnums
  have hB := hon m0 (by simp)
  have a0 : (Stk.mk [m0, m1] r next).at_ 0 = some m0 := by simp [Stk.at_]
  simp [joinK_eq]
  refine stack_Len_A ?_
  simp
  refine stack_ID_A ?_
  simp [a0, n0]
  refine stack_At_A ?_
  simp [a0]
  refine stack_At_A ?_
  simp [a0]
  refine branch_Count_A hB ?_
  rw [t0, e2]
  simp
  refine stack_Remove_A hok (fun hno => absurd n0 (by have := hno m0 (by simp); omega)) (fun i m hi hk hno S2 hS2 => ?_)
  have hi0 : i = 0 := by
    match i with
    | 0 => rfl
    | 1 => simp at hi; subst hi; omega
    | j + 2 => simp at hi
  subst hi0
  simp
  have hok' : (Stk.mk [m1] .none next).ok := ⟨by simp [Rt.strip], by simp, hok.next, fun m hm' => hok.num m (by simp at hm'; simp [hm'])⟩
  refine stack_Remove_A hok' (fun hno S3 hS3 => ?_) (fun i m hi hk hno S3 hS3 => ?_)
  · simp
    have b0 : (Stk.mk [m1] .none next).at_ 0 = some m1 := by simp [Stk.at_]
    refine stack_Len_A ?_
    simp
    refine stack_ID_A ?_
    simp [b0, n1]
    refine stack_Len_A ?_
    simp
    exact hq _ ((h1.trans hS2).trans hS3)
  · have hm' := List.mem_of_getElem? hi
    simp at hm'
    subst hm'
    omega
end Go.Av
set_option linter.unusedVariables false
/-! The laws of stacks. -/
namespace Go.Av
open Go.Proofs
theorem ofErr_few : ∀ (l : List Node) (k : Nat), l.length + k ≤ 64 → ofErr l k = if l.all rightB = true then 0 else 1
  | [], _, _ => rfl
  | n :: l, k, hk => by
    have hk' : l.length + 1 + k ≤ 64 := by simpa using hk
    rw [ofErr, ofErr_few l (k + 1) (by omega), List.all_cons]
    cases rightB n <;> simp
    omega
theorem ofErr_many : ∀ (l : List Node) (k : Nat), (∀ n ∈ l, rightB n = true) → k ≤ 64 → ofErr l k = if l.length + k ≤ 64 then 0 else 6
  | [], k, _, hk => by simp [ofErr, hk]
  | n :: l, k, h, hk => by
    rw [ofErr, if_neg (by rw [h n (by simp)]; simp)]
    by_cases c : 64 ≤ k
    · rw [if_pos c, if_neg (by simp; omega)]
    · rw [if_neg c, ofErr_many l (k + 1) (fun x hx => h x (by simp [hx])) (by omega)]
      simp only [List.length_cons]
      rw [show l.length + (k + 1) = l.length + 1 + k by omega]
theorem StkOf.get {S0 S : St} {l : List Node} {s : Stk} (h : StkOf S0 S l s) {k : Nat} (hk : k < l.length) : ∃ m n, s.l[k]? = some m ∧ l[l.length - 1 - k]? = some n ∧ m.num = l.length - 1 - k ∧ m.tab = n.tab 0 ∧ m ∈ s.l := by
  have h1 : k < s.l.length := by rw [h.len]; exact hk
  have hm : s.l[k]? = some s.l[k] := List.getElem?_eq_getElem h1
  have hn : l[l.length - 1 - k]? = some (l[l.length - 1 - k]'(by omega)) := List.getElem?_eq_getElem (by omega)
  refine ⟨_, _, hm, hn, ?_, ?_, List.getElem_mem h1⟩
  · have := congrArg (fun x => x[k]?) h.nums
    simp only [List.getElem?_map, hm, Option.map_some] at this
    rw [List.getElem?_reverse (by simpa using hk), List.length_range, List.getElem?_range (by omega)] at this
    exact Option.some.inj this
  · have := congrArg (fun x => x[k]?) h.tabs
    simp only [List.getElem?_map, hm, Option.map_some] at this
    rw [List.getElem?_reverse hk, hn] at this
    exact Option.some.inj this
/-- 1: a tree is not right. -/
def wantI (l : List Node) : Int := if l.all rightB = true then 0 else 1
theorem wantI_snoc (l : List Node) (n : Node) : wantI (l ++ [n]) = if rightB n = true then wantI l else 1 := by
  unfold wantI
  cases h : rightB n <;> simp [h]
theorem wantI_cases (l : List Node) : wantI l = 0 ∨ wantI l = 1 := by
  unfold wantI
  split
  · exact .inl rfl
  · exact .inr rfl
structure OfS (l : List Node) (s : Stk) (S : St) : Prop where
  ok : s.ok
  on : s.on S
  len0 : wantI l = 0 → s.l.length = l.length
  len1 : wantI l = 1 → s.l.length = 0
  get : ∀ k : Nat, k < s.l.length → ∃ m n, s.l[k]? = some m ∧ l[l.length - 1 - k]? = some n ∧ m.num = l.length - 1 - k ∧ m.tab = n.tab 0 ∧ m ∈ s.l ∧ k < l.length
theorem stack_Of_few_A {w0 : World} (hm : MaxL w0) {l : List Node} {r : Rt} {S : St} (hok : ∀ n ∈ l, n.ok) (hl : l.length ≤ 64) {Q : AV → St → Prop}
    (hq : ∀ S' s, Sx S S' → OfS l s S' → Q (.tup [.agg s.c, .int .i64 (wantI l)]) S') : AC w0 F_stack_Of [.vs 7 (l.map Node.c) r] S Q := by
  have hfew := ofErr_few l 0 (by omega)
  refine stack_Of_A hm hok (by omega) (fun S2 hS2 => ⟨fun he s hs => ?_, fun he => ?_⟩)
  · have e1 : wantI l = 0 := by
      unfold wantI
      rw [hfew] at he
      split at he
      · rename_i h; rw [if_pos h]
      · cases he
    have := hq S2 s hS2 ⟨hs.ok, hs.on, fun _ => hs.len, fun h => by omega, fun k hk => by
      rw [hs.len] at hk
      obtain ⟨m, n, h1, h2, h3, h4, h5⟩ := hs.get hk
      exact ⟨m, n, h1, h2, h3, h4, h5, hk⟩⟩
    rw [e1] at this
    exact this
  · have e1 : wantI l = 1 ∧ ofErr l 0 = 1 := by
      unfold wantI
      rw [hfew] at he ⊢
      split at he
      · exact (he rfl).elim
      · rename_i h; rw [if_neg h, if_neg h]; exact ⟨rfl, rfl⟩
    have := hq S2 Stk.none hS2 ⟨⟨fun _ => rfl, by simp [Stk.none], by simp [Stk.none], by simp [Stk.none]⟩, by simp [Stk.on, Stk.none], fun h => by omega, fun _ => rfl, fun k hk => by simp [Stk.none] at hk⟩
    rw [e1.1] at this
    rw [e1.2]
    exact this
set_option maxRecDepth 100000 in
theorem law07_StackOf_L (w0 : World) (hm : MaxL w0) (x0 x1 : AV) (h0 : TV t_s_api_Node x0) (h1 : TV t_uint8 x1) : AC w0 F_law07_StackOf [x0, x1] [] fun r _ => r = .bool true := by
  refine law_of fun Q hq => ?_
  obtain ⟨l, lr, e1, hlr, hll, hlok⟩ := (dec_Node_aux (h0.one (by simp [isAgg, un_s_api_Node]))).2 rfl
  obtain ⟨many, rfl, hmany⟩ := h1.u8 un_uint8
  have e1' : x0 = .vs 7 (l.map Node.c) lr := by simpa using e1
  subst e1'
  apply law07_StackOf_ok
  unfold G_law07_StackOf
  refine law07_speaks_A hm (fun S _ => ?_)
  simp
  by_cases c20 : (20 : Int) < l.length
  · simp [c20, hq]
  simp [c20, joinK_eq]
  obtain ⟨N, hN, hN1, hN2⟩ : ∃ N : Nat, IntKind.i64.wrap (55 + (Int.tmod (IntKind.i64.wrap many) 20)) = (N : Int) ∧ 55 ≤ N ∧ N ≤ 74 := by
    refine ⟨55 + many % 20, ?_, by omega, by omega⟩
    have e1 : IntKind.i64.wrap (many : Int) = many := wrap64 (by omega) (by omega)
    have e2 : Int.tmod (many : Int) 20 = ((many % 20 : Nat) : Int) := by
      rw [show (20 : Int) = ((20 : Nat) : Int) from rfl]
      exact (Int.ofNat_tmod many 20).symm
    rw [e1, e2, wrap64 (by omega) (by omega)]
    omega
  simp only [hN]
  refine loop_list l (fun i (_ : Unit) => ([.int .i64 (wantI (l.take i)), .int .i64 i], [])) (fun i _ S' => Sx S S' ∧ ∀ n ∈ l.take i, n.small = true) () rfl ⟨Sx.refl _, by simp⟩ ?_ ?_
  · rintro i _ S' v b n c hxi hd hc hmem ⟨hSx, hsm⟩ hv
    simp at hv
    obtain ⟨hv1, hv2⟩ := hv
    simp [hv1, hv2, hc, hxi]
    have htk : l.take (i + 1) = l.take i ++ [n] := by rw [List.take_succ, hxi]; rfl
    have hw := wantI_snoc (l.take i) n
    rw [← htk] at hw
    refine law04_Small_A (hlok n hmem) (fun S2 hS2 => ?_)
    cases hs : n.small with
    | false => simp [hq]
    | true =>
      obtain ⟨b1, b2⟩ := Node.small_spec hs
      have b3 := n.count_weight
      simp
      refine ref04_Right_A (hlok n hmem) (by omega) (by omega) ?_
      have hsm' : ∀ n ∈ l.take (i + 1), n.small = true := by
        rw [htk]
        intro x hx
        rcases List.mem_append.1 hx with hx | hx
        · exact hsm x hx
        · rw [List.mem_singleton] at hx; subst hx; exact hs
      cases hr : rightB n with
      | false =>
        rw [hr] at hw
        simp
        try simp (disch := omega) only [wrap64]
        exact .next c () (by simp at hw; simp [hw]) ⟨hSx.trans hS2, hsm'⟩
      | true =>
        rw [hr] at hw
        simp
        try simp (disch := omega) only [wrap64]
        exact .next c () (by simp at hw; simp [hw]) ⟨hSx.trans hS2, hsm'⟩
  · rintro _ S1 v b ⟨hSx, hsm⟩ hv NN
    rw [List.take_length] at hsm
    simp at hv
    obtain ⟨hv1, hv2⟩ := hv
    simp [hv1, hv2]
    refine stack_Of_few_A hm hlok (by omega) (fun S2 s hS2 hs => ?_)
    simp
    have hok := hs.ok
    have hlen := hok.len
    have hsub : ∀ i : Nat, i < l.length → IntKind.i64.wrap (IntKind.i64.wrap ((l.length : Int) - 1) - i) = ((l.length - 1 - i : Nat) : Int) := fun i hi => by
      have e1 : IntKind.i64.wrap ((l.length : Int) - 1) = (l.length : Int) - 1 := wrap64 (by omega) (by omega)
      rw [e1, wrap64 (by omega) (by omega)]
      omega
    have hcase : (wantI l = 0 ∧ s.l.length = l.length) ∨ (wantI l = 1 ∧ s.l = []) := by
      rcases wantI_cases l with e | e
      · exact .inl ⟨e, hs.len0 e⟩
      · exact .inr ⟨e, List.eq_nil_of_length_eq_zero (hs.len1 e)⟩
    rcases hcase with ⟨e, hl⟩ | ⟨e, hl⟩
    all_goals
      simp [e]
      refine stack_Len_A ?_
      simp [hl]
      clear hl e
      refine stack_Len_A ?_
      try simp
      refine loop_list (List.range s.l.length) (fun i (_ : Unit) => ([.int .i64 i], [some s.c])) (fun i _ S' => S' = S2) () rfl rfl ?_ ?_
      · rintro i _ S' v b x c hxi hd hc hmem rfl hv
        simp at hv c
        obtain ⟨hv1, hv2⟩ := hv
        obtain ⟨m, n, g1, g2, g3, g4, g5, g6⟩ := hs.get i c
        have hat : s.at_ (i : Int) = some m := by simp [Stk.at_, g1]
        have hmn := List.mem_of_getElem? g2
        obtain ⟨b1, b2⟩ := Node.small_spec (hsm n hmn)
        have b3 := n.count_weight
        have hm3 : (m.num : Int) = ((l.length - 1 - i : Nat) : Int) := by rw [g3]
        simp [hv1, hv2, c]
        refine stack_At_A ?_
        simp [hat, hsub i g6]
        refine stack_ID_A ?_
        simp [hat, hm3, g2]
        refine branch_Count_A (hs.on m g5) ?_
        try simp
        refine ref04_Count_A n (hlok n hmn) (by omega) ?_
        rw [g4, Node.tab_len]
        simp
        try simp (disch := omega) only [wrap64]
        exact .next (by simpa using c) () rfl rfl
      · rintro _ S3 v b rfl hv NN
        simp at hv
        obtain ⟨hv1, hv2⟩ := hv
        simp [hv1, hv2]
        refine loop_list (List.range N) (fun i (σ : List Node × Rt) => ([.vs 7 (σ.1.map Node.c) σ.2, .int .i64 i], [])) (fun i σ S' => σ.1.length = i ∧ σ.2 ≠ .none ∧ ∀ n ∈ σ.1, n.ok ∧ rightB n = true) ([], .nil) rfl ⟨rfl, by simp, by simp⟩ ?_ ?_
        · rintro i ⟨L, r⟩ S' v b x c hxi hd hc hmem ⟨hi, hr, hL⟩ hv
          simp at hv hi hr hL c
          obtain ⟨hv1, hv2⟩ := hv
          simp [hv1, hv2, c]
          refine tree_Dir_A (l := []) (items := []) (r1 := .nil) (r2 := .nil) (by intro _; rfl) (by intro _; rfl) (by simp) (by simp) (fun q1 q2 k1 k2 => ?_)
          have hok1 := dirN_ok (o := false) (l := []) (items := []) (by simp) (by simp) k1 k2
          have hr1 : rightB (dirN false [] q1 [] q2) = true := by rfl
          generalize dirN false [] q1 [] q2 = d1 at hok1 hr1 ⊢
          simp [appendA, elemsA, hr, show L.length + 1 ≤ lim by unfold lim; omega]
          try simp (disch := omega) only [wrap64]
          refine .next (by simpa using c) (L ++ [d1], .own (rowTy T_api_Node r)) (by simp) ⟨by simp [hi], by simp, fun n hn => ?_⟩
          rcases List.mem_append.1 hn with hn | hn
          · exact hL n hn
          · rw [List.mem_singleton] at hn; subst hn; exact ⟨hok1, hr1⟩
        · rintro ⟨L, r⟩ S4 v b ⟨hi, hr, hL⟩ hv NN2
          simp at hv hi hL
          obtain ⟨hv1, hv2⟩ := hv
          simp [hv1, hv2]
          have hmany2 := ofErr_many L 0 (fun n hn => (hL n hn).2) (by omega)
          refine stack_Of_A hm (fun n hn => (hL n hn).1) (by omega) (fun S5 hS5 => ⟨fun he s5 hs5 => ?_, fun he => ?_⟩)
          · have hle : N ≤ 64 := by
              rw [hmany2] at he
              split at he
              · omega
              · cases he
            simp [show (N : Int) ≤ 64 by omega]
            refine stack_Len_A ?_
            simp [hs5.len, hi, hq]
          · rw [hmany2] at he ⊢
            split at he
            · exact (he rfl).elim
            · rename_i hgt
              rw [if_neg hgt]
              simp [show ¬ (N : Int) ≤ 64 by omega]
              refine stack_Len_A ?_
              simp [Stk.none, hq]
end Go.Av
