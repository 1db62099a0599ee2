/- Parts of the proofs of this seat: abstract values over the model, and what the functions of the program do. No condition. -/
import Derived.Test.YtgegfcblacmbeaaDoorM11
import Derived.Test.YtgegfcblacmbeaaDoorDStr
import Derived.Test.YtgegfcblacmbeaaDoorM13
import Derived.Shelf.Lay
import Derived.Shelf.LaySoft
import Derived.Shelf.Strings.OnBuilder
import Derived.Shelf.Strings.LastIndex
set_option linter.all false
set_option linter.unusedVariables false
/-! strings.Join, strings.LastIndexByte. -/
namespace Go.Proofs
open Go.Shelf Go.Av
shelf_lay Lays.n156 Nm 156 at Tryd as Tryd.lays156
shelf_lay Lays.n149 Nm 149 at Tryd as Tryd.lays149
theorem Tryd.Builder_Extra_156 : Builder.Extra Tryd.prog Tryd.lays156_ren where
  sizeBuilder := by kernel_rfl
  liesBuilder := by kernel_rfl
  t5 := un_uint8
  a5 := ag_uint8
  z5 := sz_uint8
  v5 := zv_uint8
  infoByte := by kernel_rfl
  cellsByte := by kernel_rfl
  sizeByte := by kernel_rfl
  neB5 := by decide
end Go.Proofs
namespace Go.Av
open Go.Proofs Go.Shelf
set_option maxRecDepth 100000 in
theorem Join_A {w0 : World} {S : St} {l : List Str} {r : Rt} {sep : Str} (hl : l.length ≤ 140737488355328) (hn : (Lib.join l sep).length ≤ 140737488355328) {Q : AV → St → Prop} (hq : Q (.str (Lib.join l sep)) S) :
    AC w0 F_strings_Join [.vs 1 (l.map wStr) r, .str sep] S Q := by
  refine ACalls.of_below_rel fn_strings_Join (by kernel_rfl) (by kernel_rfl) fun G w args' hrel hl' ha => ?_
  obtain ⟨v, u, rfl⟩ : ∃ v u, args' = #[v, u] := by
    match args', hl' with
    | ⟨[v, u]⟩, _ => exact ⟨v, u, rfl⟩
  have h0' := ha 0 _ v rfl rfl
  have h1' := ha 1 _ u rfl rfl
  cases h1'
  have emp : l = [] → ∀ (a : Option Addr) (c : Nat), Calls Tryd.prog (Tryd.lays156_ren.f 156) #[.slice a 0 c, .string ⟨sep.toArray⟩] w fun e w' => ∃ v r, e = .returned v ∧ RowKit.Below w.heap.size w w' ∧ VR G v r ∧ r.cell1 = true ∧ Q r S := fun hl0 a c => by
    subst hl0
    refine (Any.strings_Join_none Tryd.lays156 Tryd.Builder_Extra_156 a c ⟨sep.toArray⟩ w).mono ?_
    rintro e w' ⟨rfl, rfl⟩
    exact ⟨_, .str _, rfl, RowKit.Below.refl _ _, .str [], rfl, hq⟩
  have hlm : (l.map wStr).length = l.length := List.length_map ..
  generalize hes : l.map wStr = es at h0' hlm
  cases h0' with
  | vsnil => exact emp (List.length_eq_zero_iff.1 hlm.symm) _ _
  | vse a sz r hr => exact emp (List.length_eq_zero_iff.1 hlm.symm) _ _
  | vs b o cap sz es' r f hr hc hf hs h h2 =>
    subst hes
    rw [hlm] at hc ⊢
    have hcell : ∀ (j : Nat) (x : ByteArray), (l.map fun s : Str => (⟨s.toArray⟩ : ByteArray))[j]? = some x → w.cell? ⟨b, o + j, none⟩ = some (.string x) := fun j x hx => by
      rw [List.getElem?_map, Option.map_eq_some_iff] at hx
      obtain ⟨s, hs', rfl⟩ := hx
      have e1 : (l.map wStr)[j]? = some (wStr s) := by simp [hs']
      have k1 := h j _ 0 _ e1 rfl
      have k2 := h2 j _ 0 _ e1 rfl
      have k3 := hrel.imm _ _ _ k1
      have : f j 0 = .string ⟨s.toArray⟩ := by
        generalize f j 0 = y at k2
        cases k2
        rfl
      rw [this] at k3
      simpa using k3
    by_cases hl0 : l = []
    · subst hl0
      exact emp rfl _ _
    have hb : b < w.heap.size := by
      obtain ⟨s, tl, rfl⟩ : ∃ s tl, l = s :: tl := by
        cases l with
        | nil => exact absurd rfl hl0
        | cons s tl => exact ⟨s, tl, rfl⟩
      have := hcell 0 _ rfl
      unfold World.cell? at this
      split at this
      · rename_i c e fz hh
        exact (Array.getElem?_eq_some_iff.1 hh).1
      · cases this
    have hm : (l.map fun s : Str => (⟨s.toArray⟩ : ByteArray)).map (fun x : ByteArray => x.data.toList) = l := by
      rw [List.map_map]
      conv => rhs; rw [← List.map_id l]
      congr 1
    have := Any.strings_Join Tryd.lays156 Tryd.Builder_Extra_156 b o cap (l.map fun s : Str => (⟨s.toArray⟩ : ByteArray)) ⟨sep.toArray⟩ w hcell hb (by simpa using hl) (by simpa using hc) (by rw [hm]; exact hn)
    rw [hm, List.length_map] at this
    refine this.mono ?_
    rintro e w' ⟨rfl, hbl⟩
    exact ⟨_, .str _, rfl, hbl, .str _, rfl, hq⟩
theorem get!_toArray (s : Str) (j : Nat) (b : UInt8) (h : s[j]? = some b) : (s.toArray)[j]! = b := by
  simp [getElem!_def, h]
set_option maxRecDepth 100000 in
theorem LastIndexByte_A {w0 : World} {S : St} {s : Str} {c : UInt8} (hs : s.length ≤ 1000000000) {Q : AV → St → Prop}
    (hq : ∀ i : Int, (i = -1 ∧ c ∉ s) ∨ (∃ d t : Str, s = d ++ c :: t ∧ i = d.length ∧ c ∉ t) → Q (.int .i64 i) S) :
    AC w0 F_strings_LastIndexByte [.str s, .int .u8 c.toNat] S Q := by
  refine ACalls.of_below fn_strings_LastIndexByte (by kernel_rfl) (by kernel_rfl) fun G w args' hl' ha => ?_
  obtain ⟨v, u, rfl⟩ : ∃ v u, args' = #[v, u] := by
    match args', hl' with
    | ⟨[v, u]⟩, _ => exact ⟨v, u, rfl⟩
  have h0' := ha 0 _ v rfl rfl
  have h1' := ha 1 _ u rfl rfl
  cases h0'
  cases h1'
  refine (Any.strings_LastIndexByte Tryd.lays149 ⟨s.toArray⟩ c.toNat (by simp [ByteArray.size]; omega) w).mono ?_
  rintro e w' ⟨rfl, rfl⟩
  refine ⟨_, .int .i64 _, rfl, RowKit.Below.refl _ _, .int _ _, rfl, hq _ ?_⟩
  have hsz : (ByteArray.mk s.toArray).size = s.length := by simp [ByteArray.size]
  unfold Lib.lastIndexByte
  rw [hsz]
  rcases Lib.lastIdx_spec ⟨s.toArray⟩ c.toNat s.length with ⟨h1, h2⟩ | ⟨i, h1, h2, h3, h4⟩
  · refine .inl ⟨h1, fun hm => ?_⟩
    obtain ⟨j, hj⟩ := List.getElem?_of_mem hm
    have hlt := (List.getElem?_eq_some_iff.1 hj).1
    refine h2 j hlt ?_
    show (((s.toArray)[j]!).toNat : Int) = c.toNat
    rw [get!_toArray s j c hj]
  · right
    have hi : s[i]? = some s[i] := by simp [h1]
    have e1 : s[i] = c := by
      have : (((s.toArray)[i]!).toNat : Int) = c.toNat := h3
      rw [get!_toArray s i _ hi] at this
      exact UInt8.toNat_inj.1 (by omega)
    refine ⟨s.take i, s.drop (i + 1), ?_, ?_, fun hm => ?_⟩
    · rw [← e1, ← List.drop_eq_getElem_cons h1, List.take_append_drop]
    · rw [h2, List.length_take, Nat.min_eq_left (by omega)]
    · obtain ⟨j, hj⟩ := List.getElem?_of_mem hm
      rw [List.getElem?_drop] at hj
      have hlt := (List.getElem?_eq_some_iff.1 hj).1
      refine h4 (i + 1 + j) (by omega) hlt ?_
      show (((s.toArray)[i + 1 + j]!).toNat : Int) = c.toNat
      rw [get!_toArray s _ c hj]
end Go.Av
