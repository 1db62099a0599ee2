/- Parts of the proofs of this seat: abstract values over the model, and what the functions of the program do. No condition. -/
import Derived.Test.YtdjfhghokfiieaaDoorD0
import Derived.Test.YtdjfhghokfiieaaDoorD1
import Derived.Lib.ItoaNum
import Derived.Lib.AtoiAllCases
set_option linter.all false
set_option linter.unusedVariables false
namespace Go.Av
abbrev I64r (n : Int) : Prop := -9223372036854775808 ≤ n ∧ n ≤ 9223372036854775807
abbrev numS (n : Int) : Str := Lib.itoa n
def digC (d : Nat) : UInt8 := UInt8.ofNat (48 + d)
theorem digC_toNat {d : Nat} (h : d < 10) : (digC d).toNat = 48 + d := by
  unfold digC
  rw [UInt8.toNat_ofNat']
  omega
theorem dec_step (u : Nat) : Lib.decDigits u = if u < 10 then [digC u] else Lib.decDigits (u / 10) ++ [digC (u % 10)] := by
  conv => lhs; rw [Lib.decDigits]
  by_cases h : u < 10 <;> simp [h, digC]
theorem numS_pos {n : Int} (h : 0 ≤ n) (h2 : n < 10) : numS n = [digC n.toNat] := by
  simp only [numS, Lib.itoa]
  rw [if_neg (by omega), dec_step, if_pos (by omega)]
theorem numS_big {n : Int} (h : 10 ≤ n) : numS n = numS (n.tdiv 10) ++ [digC (n.toNat % 10)] := by
  simp only [numS, Lib.itoa]
  have e : n.tdiv 10 = ((n.toNat / 10 : Nat) : Int) := by rw [Int.tdiv_eq_ediv_of_nonneg (by omega)]; omega
  rw [if_neg (by omega), e, if_neg (by omega), dec_step, if_neg (by omega), Int.toNat_natCast]
theorem numS_neg {n : Int} (h : -10 < n) (h2 : n < 0) : numS n = [45, digC (-n).toNat] := by
  simp only [numS, Lib.itoa]
  rw [if_pos h2, dec_step, if_pos (by omega)]
  congr 3
  omega
theorem numS_low {n : Int} (h : n ≤ -10) : numS n = numS (n.tdiv 10) ++ [digC ((-n).toNat % 10)] := by
  simp only [numS, Lib.itoa]
  have e : n.tdiv 10 = -(((-n).toNat / 10 : Nat) : Int) := by
    have h1 : n = -((-n).toNat : Int) := by omega
    rw [h1, Int.neg_tdiv, Int.tdiv_eq_ediv_of_nonneg (by omega)]
    simp
  rw [if_pos (by omega), e, if_pos (by omega), dec_step, if_neg (by omega)]
  have e2 : n.natAbs = (-n).toNat := by omega
  have e3 : (-(((-n).toNat / 10 : Nat) : Int)).natAbs = (-n).toNat / 10 := by omega
  rw [e2, e3]
  rfl
theorem decDigits_dig : ∀ (u : Nat), Lib.decDigits u ≠ [] ∧ ∀ c ∈ Lib.decDigits u, 48 ≤ c.toNat ∧ c.toNat ≤ 57 := by
  intro u
  induction u using Nat.strongRecOn with
  | ind u ih =>
    rw [dec_step]
    by_cases h : u < 10
    · rw [if_pos h]
      refine ⟨by simp, fun c hc => ?_⟩
      rw [List.mem_singleton] at hc
      subst hc
      rw [digC_toNat h]; omega
    · rw [if_neg h]
      refine ⟨by simp, fun c hc => ?_⟩
      rcases List.mem_append.1 hc with hc | hc
      · exact (ih (u / 10) (by omega)).2 c hc
      · rw [List.mem_singleton] at hc
        subst hc
        rw [digC_toNat (by omega)]; omega
theorem parse_snoc (c : UInt8) (hc : 48 ≤ c.toNat ∧ c.toNat ≤ 57) : ∀ (l : Str) (acc v : Nat), Lib.parseUint10 acc l = .ok v → v * 10 + (c.toNat - 48) < 18446744073709551616 → Lib.parseUint10 acc (l ++ [c]) = .ok (v * 10 + (c.toNat - 48))
  | [], acc, v, h, hv => by
    simp only [Lib.parseUint10] at h
    cases h
    simp only [List.nil_append, Lib.parseUint10, hc, and_self, if_true]
    rw [if_neg (by omega), if_neg (by omega)]
  | d :: l, acc, v, h, hv => by
    rw [List.cons_append]
    simp only [Lib.parseUint10] at h ⊢
    split at h
    · rename_i h1
      rw [if_pos h1]
      split at h
      · cases h
      · rename_i h2
        rw [if_neg h2]
        split at h
        · cases h
        · rename_i h3
          rw [if_neg h3]
          exact parse_snoc c hc l _ v h hv
    · cases h
theorem parse_dec : ∀ (u : Nat), u < 18446744073709551616 → Lib.parseUint10 0 (Lib.decDigits u) = .ok u := by
  intro u
  induction u using Nat.strongRecOn with
  | ind u ih =>
    intro hu
    rw [dec_step]
    by_cases h : u < 10
    · rw [if_pos h]
      have := parse_snoc (digC u) (by rw [digC_toNat h]; omega) [] 0 0 rfl (by rw [digC_toNat h]; omega)
      rw [digC_toNat h] at this
      simpa using this
    · rw [if_neg h]
      have h10 : u % 10 < 10 := by omega
      have := parse_snoc (digC (u % 10)) (by rw [digC_toNat h10]; omega) _ 0 (u / 10) (ih (u / 10) (by omega) (by omega)) (by rw [digC_toNat h10]; omega)
      rw [this, digC_toNat h10]
      congr 1
      omega
theorem atoi_num {n : Int} (h : I64r n) : Lib.atoiAll (numS n) = .ok n := by
  simp only [numS, Lib.itoa]
  by_cases c : n < 0
  · rw [if_pos c, Lib.atoiAll_minus, Lib.parseMag, if_neg (decDigits_dig _).1, parse_dec _ (by omega)]
    simp only [Lib.signed]
    rw [if_neg (by omega)]
    congr 1
    omega
  · rw [if_neg c]
    obtain ⟨h1, h2⟩ := decDigits_dig n.toNat
    cases hd : Lib.decDigits n.toNat with
    | nil => exact absurd hd h1
    | cons x r =>
      have hx := h2 x (by rw [hd]; simp)
      rw [Lib.atoiAll_plain x r (by omega) (by omega), Lib.parseMag, if_neg (by simp), ← hd, parse_dec _ (by omega)]
      simp only [Lib.signless]
      rw [if_neg (by omega)]
      congr 1
      omega
theorem numS_mem {n : Int} : numS n ≠ [] ∧ ∀ c ∈ numS n, c = 45 ∨ (48 ≤ c.toNat ∧ c.toNat ≤ 57) := by
  simp only [numS, Lib.itoa]
  split
  · refine ⟨by simp, fun c hc => ?_⟩
    rcases List.mem_cons.1 hc with rfl | hc
    · exact .inl rfl
    · exact .inr ((decDigits_dig _).2 c hc)
  · exact ⟨(decDigits_dig _).1, fun c hc => .inr ((decDigits_dig _).2 c hc)⟩
def digB (d : Nat) : UInt8 := if d < 10 then UInt8.ofNat (48 + d) else UInt8.ofNat (87 + d)
def hexF : Str → Str
  | [] => []
  | b :: l => digB (b.toNat / 16) :: digB (b.toNat % 16) :: hexF l
def hexS (s : Str) : Str := if s = [] then [45] else hexF s
def digV (c : UInt8) : Option Nat := if 48 ≤ c.toNat ∧ c.toNat ≤ 57 then some (c.toNat - 48) else if 97 ≤ c.toNat ∧ c.toNat ≤ 102 then some (c.toNat - 87) else none
def unhex : Str → Option Str
  | [] => some []
  | [_] => none
  | a :: b :: l => match digV a, digV b with
    | some x, some y => (unhex l).map (UInt8.ofNat (x * 16 + y) :: ·)
    | _, _ => none
def bytesS (w : Str) : Option Str := if w = [45] then some [] else if w = [] then none else unhex w
theorem digB_toNat {d : Nat} (h : d < 16) : (digB d).toNat = if d < 10 then 48 + d else 87 + d := by
  unfold digB
  split <;> (rw [UInt8.toNat_ofNat']; omega)
theorem digV_digB {d : Nat} (h : d < 16) : digV (digB d) = some d := by
  have := digB_toNat h
  unfold digV
  split at this
  · rw [if_pos (by omega), this]; congr 1; omega
  · rw [if_neg (by omega), if_pos (by omega), this]; congr 1; omega
theorem digV_some {c : UInt8} {d : Nat} (h : digV c = some d) : d < 16 ∧ c = digB d := by
  unfold digV at h
  split at h
  · cases h
    refine ⟨by omega, UInt8.toNat_inj.1 ?_⟩
    rw [digB_toNat (by omega), if_pos (by omega)]; omega
  · split at h
    · cases h
      refine ⟨by omega, UInt8.toNat_inj.1 ?_⟩
      rw [digB_toNat (by omega), if_neg (by omega)]; omega
    · cases h
theorem unhex_hexF : ∀ s : Str, unhex (hexF s) = some s
  | [] => rfl
  | b :: l => by
    have hb := b.toNat_lt
    rw [hexF, unhex, digV_digB (by omega), digV_digB (by omega), unhex_hexF l]
    simp only [Option.map_some]
    congr 2
    apply UInt8.toNat_inj.1
    rw [UInt8.toNat_ofNat']
    omega
theorem unhex_some : ∀ {w c : Str}, unhex w = some c → w = hexF c
  | [], c, h => by simp [unhex] at h; subst h; rfl
  | [_], c, h => by simp [unhex] at h
  | a :: b :: l, c, h => by
    rw [unhex] at h
    cases ha : digV a with
    | none => rw [ha] at h; cases h
    | some x =>
      cases hb : digV b with
      | none => rw [ha, hb] at h; cases h
      | some y =>
        rw [ha, hb] at h
        simp only [Option.map_eq_some_iff] at h
        obtain ⟨t, ht, rfl⟩ := h
        obtain ⟨h1, h2⟩ := digV_some ha
        obtain ⟨h3, h4⟩ := digV_some hb
        rw [hexF, ← unhex_some ht]
        have e : (UInt8.ofNat (x * 16 + y)).toNat = x * 16 + y := by rw [UInt8.toNat_ofNat']; omega
        rw [e, show (x * 16 + y) / 16 = x by omega, show (x * 16 + y) % 16 = y by omega, ← h2, ← h4]
theorem hexF_ne {s : Str} (h : s ≠ []) : hexF s ≠ [] ∧ hexF s ≠ [45] := by
  cases s with
  | nil => exact absurd rfl h
  | cons b l => simp [hexF]
theorem bytes_hex (s : Str) : bytesS (hexS s) = some s := by
  unfold bytesS hexS
  by_cases h : s = []
  · subst h; rfl
  · rw [if_neg h, if_neg (hexF_ne h).2, if_neg (hexF_ne h).1, unhex_hexF]
theorem bytes_some {w c : Str} (h : bytesS w = some c) : w = hexS c := by
  unfold bytesS at h
  unfold hexS
  split at h
  · rename_i e; cases h; rw [if_pos rfl, e]
  · split at h
    · cases h
    · rename_i h1 h2
      have h3 := unhex_some h
      have : c ≠ [] := fun e => by subst e; exact h2 h3
      rw [if_neg this, h3]
theorem hexF_len (s : Str) : (hexF s).length = 2 * s.length := by
  induction s with
  | nil => rfl
  | cons b l ih => simp only [hexF, List.length_cons, ih]; omega
theorem hexF_mem : ∀ (s : Str), ∀ c ∈ hexF s, c ≠ 10 ∧ c ≠ 32
  | [], c, h => by simp [hexF] at h
  | b :: l, c, h => by
    have hb := b.toNat_lt
    have hd : ∀ d, d < 16 → digB d ≠ 10 ∧ digB d ≠ 32 := fun d hd => by
      have := digB_toNat hd
      constructor <;> (intro e; rw [e] at this; split at this <;> simp at this <;> omega)
    simp only [hexF, List.mem_cons] at h
    rcases h with rfl | rfl | h
    · exact hd _ (by omega)
    · exact hd _ (by omega)
    · exact hexF_mem l c h
end Go.Av
set_option linter.unusedVariables false
namespace Go.Av
structure OpN where
  kind : Int
  path : Str
  off : Int
  n : Int
  id : Int
  image : Str
  deriving DecidableEq
def OpN.zero : OpN := ⟨0, [], 0, 0, 0, []⟩
def nameK (k : Int) : Str :=
  if k = 1 then [108, 111, 111, 107, 117, 112] else if k = 2 then [115, 116, 97, 116] else if k = 3 then [114, 101, 97, 100, 108, 105, 110, 107] else if k = 4 then [114, 101, 97, 100] else if k = 5 then [111, 112, 101, 110]
  else if k = 6 then [112, 97, 103, 101] else if k = 7 then [99, 108, 111, 115, 101] else if k = 8 then [97, 100, 100] else if k = 9 then [114, 101, 109, 111, 118, 101] else []
def textP (o : OpN) : Str :=
  if o.kind < 1 ∨ 9 < o.kind then []
  else nameK o.kind ++ 32 :: (if o.kind = 4 then numS o.off ++ 32 :: (numS o.n ++ 32 :: o.path) else if o.kind = 6 then numS o.id ++ 32 :: numS o.n else if o.kind = 7 ∨ o.kind = 9 then numS o.id else if o.kind = 8 then hexS o.image else o.path)
def onlyP (o : OpN) : Bool :=
  decide (10 ∉ o.path) && (if o.kind = 1 ∨ o.kind = 2 ∨ o.kind = 3 ∨ o.kind = 5 then decide (o.off = 0) && decide (o.n = 0) && decide (o.id = 0) && decide (o.image = [])
    else if o.kind = 4 then decide (o.id = 0) && decide (o.image = [])
    else if o.kind = 6 then decide (o.path = []) && decide (o.off = 0) && decide (o.image = [])
    else if o.kind = 7 ∨ o.kind = 9 then decide (o.path = []) && decide (o.off = 0) && decide (o.n = 0) && decide (o.image = [])
    else if o.kind = 8 then decide (o.path = []) && decide (o.off = 0) && decide (o.n = 0) && decide (o.id = 0)
    else false)
def cutB : Str → Option (Str × Str)
  | [] => none
  | c :: l => if c = 32 then some ([], l) else (cutB l).map fun p => (c :: p.1, p.2)
theorem cutB_app : ∀ {a : Str} (b : Str), 32 ∉ a → cutB (a ++ 32 :: b) = some (a, b)
  | [], b, _ => by simp [cutB]
  | c :: a, b, h => by
    have hc : ¬ c = 32 := fun e => h (by simp [e])
    rw [List.cons_append, cutB, if_neg hc, cutB_app b (fun e => h (by simp [e]))]
    rfl
theorem cutB_some : ∀ {s a b : Str}, cutB s = some (a, b) → s = a ++ 32 :: b ∧ 32 ∉ a
  | [], a, b, h => by simp [cutB] at h
  | c :: s, a, b, h => by
    rw [cutB] at h
    split at h
    · rename_i e
      cases h
      simp [e]
    · rename_i e
      rw [Option.map_eq_some_iff] at h
      obtain ⟨⟨x, y⟩, h1, h2⟩ := h
      cases h2
      obtain ⟨h3, h4⟩ := cutB_some h1
      exact ⟨by simp [h3], by simp [h4]; exact fun e2 => e e2.symm⟩
def numOf (w : Str) : Option Int := match Lib.atoiAll w with | .ok v => if numS v = w then some v else none | _ => none
theorem numOf_num {n : Int} (h : I64r n) : numOf (numS n) = some n := by rw [numOf, atoi_num h]; simp
theorem numOf_some {w : Str} {n : Int} (h : numOf w = some n) : w = numS n ∧ I64r n := by
  unfold numOf at h
  cases ha : Lib.atoiAll w with
  | ok v =>
    rw [ha] at h
    simp only at h
    split at h
    · rename_i e
      cases h
      exact ⟨e.symm, Lib.atoiAll_bounds ha⟩
    · cases h
  | «syntax» => rw [ha] at h; cases h
  | range => rw [ha] at h; cases h
def kindOf (w : Str) : Int :=
  if w = nameK 1 then 1 else if w = nameK 2 then 2 else if w = nameK 3 then 3 else if w = nameK 4 then 4 else if w = nameK 5 then 5 else if w = nameK 6 then 6 else if w = nameK 7 then 7 else if w = nameK 8 then 8 else if w = nameK 9 then 9 else 0
theorem kindOf_name {k : Int} (h1 : 1 ≤ k) (h2 : k ≤ 9) : kindOf (nameK k) = k := by
  have : k = 1 ∨ k = 2 ∨ k = 3 ∨ k = 4 ∨ k = 5 ∨ k = 6 ∨ k = 7 ∨ k = 8 ∨ k = 9 := by omega
  rcases this with rfl | rfl | rfl | rfl | rfl | rfl | rfl | rfl | rfl <;> decide
theorem kindOf_some {w : Str} (h : kindOf w ≠ 0) : w = nameK (kindOf w) ∧ 1 ≤ kindOf w ∧ kindOf w ≤ 9 := by
  unfold kindOf at h ⊢
  repeat' split
  all_goals first | (rename_i e; exact ⟨e, by omega, by omega⟩) | skip
  all_goals (exfalso; simp_all)
theorem name_mem (k : Int) : 32 ∉ nameK k ∧ 10 ∉ nameK k := by
  unfold nameK
  repeat' split
  all_goals decide
def parseP (line : Str) : Option OpN :=
  match cutB line with
  | none => none
  | some (w, rest) =>
    if 10 ∈ line then none else
    if kindOf w = 0 then none
    else if kindOf w = 4 then
      match cutB rest with
      | none => none
      | some (a, r2) => match cutB r2 with
        | none => none
        | some (b, p) => match numOf a, numOf b with
          | some x, some y => some ⟨4, p, x, y, 0, []⟩
          | _, _ => none
    else if kindOf w = 6 then
      match cutB rest with
      | none => none
      | some (a, b) => match numOf a, numOf b with
        | some x, some y => some ⟨6, [], 0, y, x, []⟩
        | _, _ => none
    else if kindOf w = 7 ∨ kindOf w = 9 then (numOf rest).map fun x => ⟨kindOf w, [], 0, 0, x, []⟩
    else if kindOf w = 8 then (bytesS rest).map fun x => ⟨8, [], 0, 0, 0, x⟩
    else some ⟨kindOf w, rest, 0, 0, 0, []⟩
theorem numS_no {n : Int} : 32 ∉ numS n ∧ 10 ∉ numS n := by
  constructor <;> (intro h; rcases numS_mem.2 _ h with e | ⟨e, _⟩ <;> simp at e)
theorem hexS_no (s : Str) : 32 ∉ hexS s ∧ 10 ∉ hexS s := by
  unfold hexS
  split
  · decide
  · exact ⟨fun h => (hexF_mem s _ h).2 rfl, fun h => (hexF_mem s _ h).1 rfl⟩
structure OpN.ok (o : OpN) : Prop where
  kind : I64r o.kind
  off : I64r o.off
  n : I64r o.n
  id : I64r o.id
theorem parse_only {line : Str} {o : OpN} (h : parseP line = some o) : onlyP o = true ∧ textP o = line ∧ o.ok := by
  unfold parseP at h
  cases hc : cutB line with
  | none => rw [hc] at h; cases h
  | some p =>
    obtain ⟨w, rest⟩ := p
    rw [hc] at h
    simp only at h
    split at h
    · cases h
    rename_i hnl
    split at h
    · cases h
    rename_i hk0
    obtain ⟨hl, hw⟩ := cutB_some hc
    obtain ⟨k1, k2, k3⟩ := kindOf_some hk0
    generalize kindOf w = k at h hk0 k1 k2 k3
    have hnr : 10 ∉ rest := fun e => hnl (by rw [hl]; simp [e])
    have hkr : I64r k := ⟨by omega, by omega⟩
    split at h
    · rename_i e4
      subst e4
      cases h1 : cutB rest with
      | none => rw [h1] at h; cases h
      | some p =>
        obtain ⟨a, r2⟩ := p
        rw [h1] at h
        simp only at h
        cases h2 : cutB r2 with
        | none => rw [h2] at h; cases h
        | some p =>
          obtain ⟨b, pp⟩ := p
          rw [h2] at h
          simp only at h
          split at h
          · rename_i x y hx hy
            cases h
            obtain ⟨e1, _⟩ := cutB_some h1
            obtain ⟨e2, _⟩ := cutB_some h2
            obtain ⟨f1, f2⟩ := numOf_some hx
            obtain ⟨g1, g2⟩ := numOf_some hy
            have hnp : 10 ∉ pp := fun e => hnr (by rw [e1, e2]; simp [e])
            exact ⟨by simp [onlyP, hnp], by simp [textP, hl, k1, e1, e2, ← f1, ← g1], hkr, f2, g2, ⟨by simp, by simp⟩⟩
          · cases h
    rename_i e4
    split at h
    · rename_i e6
      subst e6
      cases h1 : cutB rest with
      | none => rw [h1] at h; cases h
      | some p =>
        obtain ⟨a, b⟩ := p
        rw [h1] at h
        simp only at h
        split at h
        · rename_i x y hx hy
          cases h
          obtain ⟨e1, _⟩ := cutB_some h1
          obtain ⟨f1, f2⟩ := numOf_some hx
          obtain ⟨g1, g2⟩ := numOf_some hy
          exact ⟨by simp [onlyP], by simp [textP, hl, k1, e1, ← f1, ← g1], hkr, ⟨by simp, by simp⟩, g2, f2⟩
        · cases h
    rename_i e6
    split at h
    · rename_i e79
      rw [Option.map_eq_some_iff] at h
      obtain ⟨x, hx, rfl⟩ := h
      obtain ⟨f1, f2⟩ := numOf_some hx
      refine ⟨?_, ?_, hkr, ⟨by simp, by simp⟩, ⟨by simp, by simp⟩, f2⟩
      · rcases e79 with rfl | rfl <;> simp [onlyP]
      · rcases e79 with rfl | rfl <;> simp [textP, hl, k1, ← f1]
    rename_i e79
    split at h
    · rename_i e8
      subst e8
      rw [Option.map_eq_some_iff] at h
      obtain ⟨x, hx, rfl⟩ := h
      have f1 := bytes_some hx
      exact ⟨by simp [onlyP], by simp [textP, hl, k1, ← f1], hkr, ⟨by simp, by simp⟩, ⟨by simp, by simp⟩, ⟨by simp, by simp⟩⟩
    rename_i e8
    cases h
    have hk : k = 1 ∨ k = 2 ∨ k = 3 ∨ k = 5 := by omega
    refine ⟨by simp [onlyP, hnr, hk], ?_, hkr, ⟨by simp, by simp⟩, ⟨by simp, by simp⟩, ⟨by simp, by simp⟩⟩
    have h7 : ¬ (k = 7 ∨ k = 9) := e79
    simp only [textP]
    rw [if_neg (by omega), if_neg e4, if_neg e6, if_neg h7, if_neg e8, hl, k1]
theorem parse_text {o : OpN} (h : onlyP o = true) (hok : o.ok) : parseP (textP o) = some o := by
  obtain ⟨k, path, off, n, id, image⟩ := o
  obtain ⟨q1, q2, q3, q4⟩ := hok
  simp only at q1 q2 q3 q4
  unfold onlyP at h
  simp only [Bool.and_eq_true, decide_eq_true_eq] at h
  obtain ⟨hp, h⟩ := h
  have key : ∀ (rest : Str), 1 ≤ k → k ≤ 9 → 10 ∉ rest → cutB (nameK k ++ 32 :: rest) = some (nameK k, rest) ∧ 10 ∉ nameK k ++ 32 :: rest ∧ kindOf (nameK k) = k := fun rest h1 h2 h3 =>
    ⟨cutB_app rest (name_mem k).1, by simp [h3, (name_mem k).2], kindOf_name h1 h2⟩
  have hn1 := fun n => (numS_no (n := n)).1
  have hn2 := fun n => (numS_no (n := n)).2
  split at h
  · rename_i hk
    simp only [Bool.and_eq_true, decide_eq_true_eq] at h
    obtain ⟨⟨⟨rfl, rfl⟩, rfl⟩, rfl⟩ := h
    obtain ⟨a1, a2, a3⟩ := key path (by omega) (by omega) hp
    have e : textP ⟨k, path, 0, 0, 0, []⟩ = nameK k ++ 32 :: path := by
      simp only [textP]
      rw [if_neg (by omega), if_neg (by omega), if_neg (by omega), if_neg (by omega), if_neg (by omega)]
    rw [e, parseP, a1]
    simp only
    rw [if_neg a2, a3, if_neg (by omega), if_neg (by omega), if_neg (by omega), if_neg (by omega), if_neg (by omega)]
  split at h
  · rename_i hk
    subst hk
    simp only [Bool.and_eq_true, decide_eq_true_eq] at h
    obtain ⟨rfl, rfl⟩ := h
    have hr : 10 ∉ numS off ++ 32 :: (numS n ++ 32 :: path) := by simp [hn2, hp]
    obtain ⟨a1, a2, a3⟩ := key _ (by omega) (by omega) hr
    have e : textP ⟨4, path, off, n, 0, []⟩ = nameK 4 ++ 32 :: (numS off ++ 32 :: (numS n ++ 32 :: path)) := by simp [textP]
    rw [e, parseP, a1]
    simp only
    rw [if_neg a2, a3, if_neg (by omega), if_pos rfl, cutB_app _ (hn1 off)]
    simp only
    rw [cutB_app _ (hn1 n)]
    simp only
    rw [numOf_num q2, numOf_num q3]
  split at h
  · rename_i hk
    subst hk
    simp only [Bool.and_eq_true, decide_eq_true_eq] at h
    obtain ⟨⟨rfl, rfl⟩, rfl⟩ := h
    have hr : 10 ∉ numS id ++ 32 :: numS n := by simp [hn2]
    obtain ⟨a1, a2, a3⟩ := key _ (by omega) (by omega) hr
    have e : textP ⟨6, [], 0, n, id, []⟩ = nameK 6 ++ 32 :: (numS id ++ 32 :: numS n) := by simp [textP]
    rw [e, parseP, a1]
    simp only
    rw [if_neg a2, a3, if_neg (by omega), if_neg (by omega), if_pos rfl, cutB_app _ (hn1 id)]
    simp only
    rw [numOf_num q4, numOf_num q3]
  split at h
  · rename_i hk
    simp only [Bool.and_eq_true, decide_eq_true_eq] at h
    obtain ⟨⟨⟨rfl, rfl⟩, rfl⟩, rfl⟩ := h
    obtain ⟨a1, a2, a3⟩ := key (numS id) (by omega) (by omega) (hn2 id)
    have e : textP ⟨k, [], 0, 0, id, []⟩ = nameK k ++ 32 :: numS id := by
      simp only [textP]
      rw [if_neg (by omega), if_neg (by omega), if_neg (by omega), if_pos hk]
    rw [e, parseP, a1]
    simp only
    rw [if_neg a2, a3, if_neg (by omega), if_neg (by omega), if_neg (by omega), if_pos hk, numOf_num q4]
    rfl
  split at h
  · rename_i hk
    subst hk
    simp only [Bool.and_eq_true, decide_eq_true_eq] at h
    obtain ⟨⟨⟨rfl, rfl⟩, rfl⟩, rfl⟩ := h
    obtain ⟨a1, a2, a3⟩ := key (hexS image) (by omega) (by omega) (hexS_no image).2
    have e : textP ⟨8, [], 0, 0, 0, image⟩ = nameK 8 ++ 32 :: hexS image := by simp [textP]
    rw [e, parseP, a1]
    simp only
    rw [if_neg a2, a3, if_neg (by omega), if_neg (by omega), if_neg (by omega), if_neg (by omega), if_pos rfl, bytes_hex]
    rfl
  · cases h
end Go.Av
set_option linter.unusedVariables false
namespace Go.Av
structure ResN where
  err : Int := 0
  kind : Int := 0
  size : Int := 0
  where_ : Int := 0
  id : Int := 0
  text : Str := []
  names : List Str := []
  end_ : Bool := false
def ResN.c (x : ResN) (r : Rt) : List AV := [.int .i64 x.err, .int .i64 x.kind, .int .i64 x.size, .int .i64 x.where_, .int .i64 x.id, .str x.text, .vs 1 (x.names.map wStr) r, .bool x.end_]
@[simp] theorem ResN.c_len (x : ResN) (r : Rt) : (x.c r).length = 8 := rfl
def OpN.c (o : OpN) : List AV := [.int .i64 o.kind, .str o.path, .int .i64 o.off, .int .i64 o.n, .int .i64 o.id, .str o.image]
@[simp] theorem OpN.c_len (o : OpN) : o.c.length = 6 := rfl
end Go.Av
set_option linter.unusedVariables false
namespace Go.Av
open Go.Proofs
set_option maxRecDepth 100000 in
theorem dec_OpN (ys : List AV) (h : TT t_api_Op ys) : ∃ o : OpN, ys = o.c ∧ (o.ok ∧ o.path.length ≤ 1048576 ∧ o.image.length ≤ 1048576) := by
  obtain ⟨h1, h2⟩ := h.struct_inv un_api_Op
  match ys, h1 with
  | [a0, a1, a2, a3, a4, a5], _ =>
    obtain ⟨k, e0, hk⟩ := dec_int (h2 _ (List.mem_cons_self)) un_int
    obtain ⟨p, e1, hp⟩ := dec_str (h2 _ (List.mem_cons_of_mem _ List.mem_cons_self)) un_string
    obtain ⟨of_, e2, ho⟩ := dec_int (h2 _ (List.mem_cons_of_mem _ (List.mem_cons_of_mem _ List.mem_cons_self))) un_int
    obtain ⟨n, e3, hn⟩ := dec_int (h2 _ (List.mem_cons_of_mem _ (List.mem_cons_of_mem _ (List.mem_cons_of_mem _ List.mem_cons_self)))) un_int
    obtain ⟨i, e4, hi⟩ := dec_int (h2 _ (List.mem_cons_of_mem _ (List.mem_cons_of_mem _ (List.mem_cons_of_mem _ (List.mem_cons_of_mem _ List.mem_cons_self))))) un_int
    obtain ⟨m, e5, hm⟩ := dec_str (h2 _ (List.mem_cons_of_mem _ (List.mem_cons_of_mem _ (List.mem_cons_of_mem _ (List.mem_cons_of_mem _ (List.mem_cons_of_mem _ List.mem_cons_self)))))) un_string
    cases e0; cases e1; cases e2; cases e3; cases e4; cases e5
    exact ⟨⟨k, p, of_, n, i, m⟩, rfl, ⟨hk, ho, hn, hi⟩, hp, hm⟩
theorem TyV.opN {x : AV} (h : TV t_api_Op x) : ∃ o : OpN, x = .agg o.c ∧ o.ok ∧ o.path.length ≤ 1048576 ∧ o.image.length ≤ 1048576 := by
  obtain ⟨xs, rfl, h2⟩ := h.agg (by simp [isAgg, un_api_Op])
  obtain ⟨o, rfl, ho⟩ := dec_OpN xs h2
  exact ⟨o, rfl, ho⟩
end Go.Av
