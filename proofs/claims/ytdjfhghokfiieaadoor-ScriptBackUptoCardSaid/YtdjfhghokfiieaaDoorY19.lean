/- Parts of the proofs of this seat: abstract values over the model, and what the functions of the program do. No condition. -/
import Derived.Test.YtdjfhghokfiieaaDoorD0
import Derived.Test.YtdjfhghokfiieaaDoorD1
import Derived.Test.YtdjfhghokfiieaaDoorM8
import Derived.Lib.ItoaNum
import Derived.Lib.AtoiAllCases
set_option linter.all false
namespace Go.Av
abbrev Cj (n : Int) : Prop := -9223372036854775808 ≤ n ∧ n ≤ 9223372036854775807
abbrev BT (n : Int) : Str := Lib.itoa n
def Il (d : Nat) : UInt8 := UInt8.ofNat (48 + d)
theorem CY {d : Nat} (h : d < 10) : (Il d).toNat = 48 + d := by
 unfold Il
 rw [UInt8.toNat_ofNat']
 omega
theorem D3 (u : Nat) : Lib.decDigits u = if u < 10 then [Il u] else Lib.decDigits (u / 10) ++ [Il (u % 10)] := by
 conv => lhs; rw [Lib.decDigits]
 by_cases h : u < 10 <;> simp [h, Il]
theorem GW {n : Int} (h : 0 ≤ n) (h2 : n < 10) : BT n = [Il n.toNat] := by
 simp only [BT, Lib.itoa]
 rw [if_neg (by omega), D3, if_pos (by omega)]
theorem QT {n : Int} (h : 10 ≤ n) : BT n = BT (n.tdiv 10) ++ [Il (n.toNat % 10)] := by
 simp only [BT, Lib.itoa]
 have e : n.tdiv 10 = ((n.toNat / 10 : Nat) : Int) := by rw [Int.tdiv_eq_ediv_of_nonneg (by omega)]; omega
 rw [if_neg (by omega), e, if_neg (by omega), D3, if_neg (by omega), Int.toNat_natCast]
theorem QK {n : Int} (h : -10 < n) (h2 : n < 0) : BT n = [45, Il (-n).toNat] := by
 simp only [BT, Lib.itoa]
 rw [if_pos h2, D3, if_pos (by omega)]
 congr 3
 omega
theorem QI {n : Int} (h : n ≤ -10) : BT n = BT (n.tdiv 10) ++ [Il ((-n).toNat % 10)] := by
 simp only [BT, Lib.itoa]
 have e : n.tdiv 10 = -(((-n).toNat / 10 : Nat) : Int) := by
  have h1 : n = -((-n).toNat : Int) := by omega
  rw [h1, Int.neg_tdiv, Int.tdiv_eq_ediv_of_nonneg (by omega)]
  simp
 rw [if_pos (by omega), e, if_pos (by omega), D3, if_neg (by omega)]
 have e2 : n.natAbs = (-n).toNat := by omega
 have e3 : (-(((-n).toNat / 10 : Nat) : Int)).natAbs = (-n).toNat / 10 := by omega
 rw [e2, e3]
 rfl
theorem Cr : ∀ (u : Nat), Lib.decDigits u ≠ [] ∧ ∀ c ∈ Lib.decDigits u, 48 ≤ c.toNat ∧ c.toNat ≤ 57 := by
 intro u
 induction u using Nat.strongRecOn with
 | ind u ih =>
  rw [D3]
  by_cases h : u < 10
  ·rw [if_pos h]
   refine ⟨by simp, fun c hc => ?_⟩
   rw [List.mem_singleton] at hc
   subst hc
   rw [CY h]; omega
  ·rw [if_neg h]
   refine ⟨by simp, fun c hc => ?_⟩
   rcases List.mem_append.1 hc with hc | hc
   ·exact (ih (u / 10) (by omega)).2 c hc
   ·rw [List.mem_singleton] at hc
    subst hc
    rw [CY (by omega)]; omega
theorem HW (c : UInt8) (hc : 48 ≤ c.toNat ∧ c.toNat ≤ 57) : ∀ (l : Str) (acc v : Nat), Lib.parseUint10 acc l = .ok v → v * 10 + (c.toNat - 48) < 18446744073709551616 → Lib.parseUint10 acc (l ++ [c]) = .ok (v * 10 + (c.toNat - 48))
 | [], acc, v, h, hv => by
  simp only [Lib.parseUint10] at h
  cases h
  simp only [List.nil_append, Lib.parseUint10, hc, and_self, if_true]
  rw [if_neg (by omega), if_neg (by omega)]
 | d :: l, acc, v, h, hv => by
  rw [List.cons_append]
  simp only [Lib.parseUint10] at h ⊢
  split at h
  ·rename_i h1
   rw [if_pos h1]
   split at h
   ·cases h
   ·rename_i h2
    rw [if_neg h2]
    split at h
    ·cases h
    ·rename_i h3
     rw [if_neg h3]
     exact HW c hc l _ v h hv
  ·cases h
theorem L7 : ∀ (u : Nat), u < 18446744073709551616 → Lib.parseUint10 0 (Lib.decDigits u) = .ok u := by
 intro u
 induction u using Nat.strongRecOn with
 | ind u ih =>
  intro hu
  rw [D3]
  by_cases h : u < 10
  ·rw [if_pos h]
   have := HW (Il u) (by rw [CY h]; omega) [] 0 0 rfl (by rw [CY h]; omega)
   rw [CY h] at this
   simpa using this
  ·rw [if_neg h]
   have h10 : u % 10 < 10 := by omega
   have := HW (Il (u % 10)) (by rw [CY h10]; omega) _ 0 (u / 10) (ih (u / 10) (by omega) (by omega)) (by rw [CY h10]; omega)
   rw [this, CY h10]
   congr 1
   omega
theorem QN {n : Int} (h : Cj n) : Lib.atoiAll (BT n) = .ok n := by
 simp only [BT, Lib.itoa]
 by_cases c : n < 0
 ·rw [if_pos c, Lib.atoiAll_minus, Lib.parseMag, if_neg (Cr _).1, L7 _ (by omega)]
  simp only [Lib.signed]
  rw [if_neg (by omega)]
  congr 1
  omega
 ·rw [if_neg c]
  obtain ⟨h1, h2⟩ := Cr n.toNat
  cases hd : Lib.decDigits n.toNat with
  | nil => exact absurd hd h1
  | cons x r =>
   have hx := h2 x (by rw [hd]; simp)
   rw [Lib.atoiAll_plain x r (by omega) (by omega), Lib.parseMag, if_neg (by simp), ← hd, L7 _ (by omega)]
   simp only [Lib.signless]
   rw [if_neg (by omega)]
   congr 1
   omega
theorem Qx {n : Int} : BT n ≠ [] ∧ ∀ c ∈ BT n, c = 45 ∨ (48 ≤ c.toNat ∧ c.toNat ≤ 57) := by
 simp only [BT, Lib.itoa]
 split
 ·refine ⟨by simp, fun c hc => ?_⟩
  rcases List.mem_cons.1 hc with rfl | hc
  ·exact .inl rfl
  ·exact .inr ((Cr _).2 c hc)
 ·exact ⟨(Cr _).1, fun c hc => .inr ((Cr _).2 c hc)⟩
def Hk (d : Nat) : UInt8 := if d < 10 then UInt8.ofNat (48 + d) else UInt8.ofNat (87 + d)
def DU : Str → Str
 | [] => []
 | b :: l => Hk (b.toNat / 16) :: Hk (b.toNat % 16) :: DU l
def C4 (s : Str) : Str := if s = [] then [45] else DU s
def Hl (c : UInt8) : Option Nat := if 48 ≤ c.toNat ∧ c.toNat ≤ 57 then some (c.toNat - 48) else if 97 ≤ c.toNat ∧ c.toNat ≤ 102 then some (c.toNat - 87) else none
def unhex : Str → Option Str
 | [] => some []
 | [_] => none
 | a :: b :: l => match Hl a, Hl b with
  | some x, some y => (unhex l).map (UInt8.ofNat (x * 16 + y) :: ·)
  | _, _ => none
def Ds (w : Str) : Option Str := if w = [45] then some [] else if w = [] then none else unhex w
theorem EU {d : Nat} (h : d < 16) : (Hk d).toNat = if d < 10 then 48 + d else 87 + d := by
 unfold Hk
 split <;> (rw [UInt8.toNat_ofNat']; omega)
theorem Gz {d : Nat} (h : d < 16) : Hl (Hk d) = some d := by
 have := EU h
 unfold Hl
 split at this
 ·rw [if_pos (by omega), this]; congr 1; omega
 ·rw [if_neg (by omega), if_pos (by omega), this]; congr 1; omega
theorem HB {c : UInt8} {d : Nat} (h : Hl c = some d) : d < 16 ∧ c = Hk d := by
 unfold Hl at h
 split at h
 ·cases h
  refine ⟨by omega, UInt8.toNat_inj.1 ?_⟩
  rw [EU (by omega), if_pos (by omega)]; omega
 ·split at h
  ·cases h
   refine ⟨by omega, UInt8.toNat_inj.1 ?_⟩
   rw [EU (by omega), if_neg (by omega)]; omega
  ·cases h
theorem KY : ∀ s : Str, unhex (DU s) = some s
 | [] => rfl
 | b :: l => by
  have hb := b.toNat_lt
  rw [DU, unhex, Gz (by omega), Gz (by omega), KY l]
  simp only [Option.map_some]
  congr 2
  apply UInt8.toNat_inj.1
  rw [UInt8.toNat_ofNat']
  omega
theorem KH : ∀ {w c : Str}, unhex w = some c → w = DU c
 | [], c, h => by simp [unhex] at h; subst h; rfl
 | [_], c, h => by simp [unhex] at h
 | a :: b :: l, c, h => by
  rw [unhex] at h
  cases ha : Hl a with
  | none => rw [ha] at h; cases h
  | some x =>
   cases hb : Hl b with
   | none => rw [ha, hb] at h; cases h
   | some y =>
    rw [ha, hb] at h
    simp only [Option.map_eq_some_iff] at h
    obtain ⟨t, ht, rfl⟩ := h
    obtain ⟨h1, h2⟩ := HB ha
    obtain ⟨h3, h4⟩ := HB hb
    rw [DU, ← KH ht]
    have e : (UInt8.ofNat (x * 16 + y)).toNat = x * 16 + y := by rw [UInt8.toNat_ofNat']; omega
    rw [e, show (x * 16 + y) / 16 = x by omega, show (x * 16 + y) % 16 = y by omega, ← h2, ← h4]
theorem PB {s : Str} (h : s ≠ []) : DU s ≠ [] ∧ DU s ≠ [45] := by
 cases s with
 | nil => exact absurd rfl h
 | cons b l => simp [DU]
theorem Li (s : Str) : Ds (C4 s) = some s := by
 unfold Ds C4
 by_cases h : s = []
 ·subst h; rfl
 ·rw [if_neg h, if_neg (PB h).2, if_neg (PB h).1, KY]
theorem Hi {w c : Str} (h : Ds w = some c) : w = C4 c := by
 unfold Ds at h
 unfold C4
 split at h
 ·rename_i e; cases h; rw [if_pos rfl, e]
 ·split at h
  ·cases h
  ·rename_i h1 h2
   have h3 := KH h
   have : c ≠ [] := fun e => by subst e; exact h2 h3
   rw [if_neg this, h3]
theorem FM (s : Str) : (DU s).length = 2 * s.length := by
 induction s with
 | nil => rfl
 | cons b l ih => simp only [DU, List.length_cons, ih]; omega
theorem KL : ∀ (s : Str), ∀ c ∈ DU s, c ≠ 10 ∧ c ≠ 32
 | [], c, h => by simp [DU] at h
 | b :: l, c, h => by
  have hb := b.toNat_lt
  have hd : ∀ d, d < 16 → Hk d ≠ 10 ∧ Hk d ≠ 32 := fun d hd => by
   have := EU hd
   constructor <;> (intro e; rw [e] at this; split at this <;> simp at this <;> omega)
  simp only [DU, List.mem_cons] at h
  rcases h with rfl | rfl | h
  ·exact hd _ (by omega)
  ·exact hd _ (by omega)
  ·exact KL l c h
structure OpN where
 kind : Int
 path : Str
 off : Int
 n : Int
 id : Int
 image : Str
 deriving DecidableEq
def OpN.zero : OpN := ⟨0, [], 0, 0, 0, []⟩
def A7 (k : Int) : Str :=
 if k = 1 then [108, 111, 111, 107, 117, 112] else if k = 2 then [115, 116, 97, 116] else if k = 3 then [114, 101, 97, 100, 108, 105, 110, 107] else if k = 4 then [114, 101, 97, 100] else if k = 5 then [111, 112, 101, 110]
 else if k = 6 then [112, 97, 103, 101] else if k = 7 then [99, 108, 111, 115, 101] else if k = 8 then [97, 100, 100] else if k = 9 then [114, 101, 109, 111, 118, 101] else []
def Aj (o : OpN) : Str :=
 if o.kind < 1 ∨ 9 < o.kind then []
 else A7 o.kind ++ 32 :: (if o.kind = 4 then BT o.off ++ 32 :: (BT o.n ++ 32 :: o.path) else if o.kind = 6 then BT o.id ++ 32 :: BT o.n else if o.kind = 7 ∨ o.kind = 9 then BT o.id else if o.kind = 8 then C4 o.image else o.path)
def CD (o : OpN) : Bool :=
 decide (10 ∉ o.path) && (if o.kind = 1 ∨ o.kind = 2 ∨ o.kind = 3 ∨ o.kind = 5 then decide (o.off = 0) && decide (o.n = 0) && decide (o.id = 0) && decide (o.image = [])
  else if o.kind = 4 then decide (o.id = 0) && decide (o.image = [])
  else if o.kind = 6 then decide (o.path = []) && decide (o.off = 0) && decide (o.image = [])
  else if o.kind = 7 ∨ o.kind = 9 then decide (o.path = []) && decide (o.off = 0) && decide (o.n = 0) && decide (o.image = [])
  else if o.kind = 8 then decide (o.path = []) && decide (o.off = 0) && decide (o.n = 0) && decide (o.id = 0)
  else false)
def Bv : Str → Option (Str × Str)
 | [] => none
 | c :: l => if c = 32 then some ([], l) else (Bv l).map fun p => (c :: p.1, p.2)
theorem Gm : ∀ {a : Str} (b : Str), 32 ∉ a → Bv (a ++ 32 :: b) = some (a, b)
 | [], b, _ => by simp [Bv]
 | c :: a, b, h => by
  have hc : ¬ c = 32 := fun e => h (by simp [e])
  rw [List.cons_append, Bv, if_neg hc, Gm b (fun e => h (by simp [e]))]
  rfl
theorem ES : ∀ {s a b : Str}, Bv s = some (a, b) → s = a ++ 32 :: b ∧ 32 ∉ a
 | [], a, b, h => by simp [Bv] at h
 | c :: s, a, b, h => by
  rw [Bv] at h
  split at h
  ·rename_i e
   cases h
   simp [e]
  ·rename_i e
   rw [Option.map_eq_some_iff] at h
   obtain ⟨⟨x, y⟩, h1, h2⟩ := h
   cases h2
   obtain ⟨h3, h4⟩ := ES h1
   exact ⟨by simp [h3], by simp [h4]; exact fun e2 => e e2.symm⟩
def numOf (w : Str) : Option Int := match Lib.atoiAll w with | .ok v => if BT v = w then some v else none | _ => none
theorem ET {n : Int} (h : Cj n) : numOf (BT n) = some n := by rw [numOf, QN h]; simp
theorem Dq {w : Str} {n : Int} (h : numOf w = some n) : w = BT n ∧ Cj n := by
 unfold numOf at h
 cases ha : Lib.atoiAll w with
 | ok v =>
  rw [ha] at h
  simp only at h
  split at h
  ·rename_i e
   cases h
   exact ⟨e.symm, Lib.atoiAll_bounds ha⟩
  ·cases h
 | «syntax» => rw [ha] at h; cases h
 | range => rw [ha] at h; cases h
def kindOf (w : Str) : Int :=
 if w = A7 1 then 1 else if w = A7 2 then 2 else if w = A7 3 then 3 else if w = A7 4 then 4 else if w = A7 5 then 5 else if w = A7 6 then 6 else if w = A7 7 then 7 else if w = A7 8 then 8 else if w = A7 9 then 9 else 0
theorem Nt {k : Int} (h1 : 1 ≤ k) (h2 : k ≤ 9) : kindOf (A7 k) = k := by
 have : k = 1 ∨ k = 2 ∨ k = 3 ∨ k = 4 ∨ k = 5 ∨ k = 6 ∨ k = 7 ∨ k = 8 ∨ k = 9 := by omega
 rcases this with rfl | rfl | rfl | rfl | rfl | rfl | rfl | rfl | rfl <;> decide
theorem NY {w : Str} (h : kindOf w ≠ 0) : w = A7 (kindOf w) ∧ 1 ≤ kindOf w ∧ kindOf w ≤ 9 := by
 unfold kindOf at h ⊢
 repeat' split
 all_goals first | (rename_i e; exact ⟨e, by omega, by omega⟩) | skip
 all_goals (exfalso; simp_all)
theorem Ic (k : Int) : 32 ∉ A7 k ∧ 10 ∉ A7 k := by
 unfold A7
 repeat' split
 all_goals decide
def DS (line : Str) : Option OpN :=
 match Bv line with
 | none => none
 | some (w, rest) =>
  if 10 ∈ line then none else
  if kindOf w = 0 then none
  else if kindOf w = 4 then
   match Bv rest with
   | none => none
   | some (a, r2) => match Bv r2 with
    | none => none
    | some (b, p) => match numOf a, numOf b with
     | some x, some y => some ⟨4, p, x, y, 0, []⟩
     | _, _ => none
  else if kindOf w = 6 then
   match Bv rest with
   | none => none
   | some (a, b) => match numOf a, numOf b with
    | some x, some y => some ⟨6, [], 0, y, x, []⟩
    | _, _ => none
  else if kindOf w = 7 ∨ kindOf w = 9 then (numOf rest).map fun x => ⟨kindOf w, [], 0, 0, x, []⟩
  else if kindOf w = 8 then (Ds rest).map fun x => ⟨8, [], 0, 0, 0, x⟩
  else some ⟨kindOf w, rest, 0, 0, 0, []⟩
theorem IH {n : Int} : 32 ∉ BT n ∧ 10 ∉ BT n := by
 constructor <;> (intro h; rcases Qx.2 _ h with e | ⟨e, _⟩ <;> simp at e)
theorem Jy (s : Str) : 32 ∉ C4 s ∧ 10 ∉ C4 s := by
 unfold C4
 split
 ·decide
 ·exact ⟨fun h => (KL s _ h).2 rfl, fun h => (KL s _ h).1 rfl⟩
structure OpN.ok (o : OpN) : Prop where
 kind : Cj o.kind
 off : Cj o.off
 n : Cj o.n
 id : Cj o.id
theorem OT {line : Str} {o : OpN} (h : DS line = some o) : CD o = true ∧ Aj o = line ∧ o.ok := by
 unfold DS at h
 cases hc : Bv line with
 | none => rw [hc] at h; cases h
 | some p =>
  obtain ⟨w, rest⟩ := p
  rw [hc] at h
  simp only at h
  split at h
  ·cases h
  rename_i hnl
  split at h
  ·cases h
  rename_i hk0
  obtain ⟨hl, hw⟩ := ES hc
  obtain ⟨k1, k2, k3⟩ := NY hk0
  generalize kindOf w = k at h hk0 k1 k2 k3
  have hnr : 10 ∉ rest := fun e => hnl (by rw [hl]; simp [e])
  have hkr : Cj k := ⟨by omega, by omega⟩
  split at h
  ·rename_i e4
   subst e4
   cases h1 : Bv rest with
   | none => rw [h1] at h; cases h
   | some p =>
    obtain ⟨a, r2⟩ := p
    rw [h1] at h
    simp only at h
    cases h2 : Bv r2 with
    | none => rw [h2] at h; cases h
    | some p =>
     obtain ⟨b, pp⟩ := p
     rw [h2] at h
     simp only at h
     split at h
     ·rename_i x y hx hy
      cases h
      obtain ⟨e1, _⟩ := ES h1
      obtain ⟨e2, _⟩ := ES h2
      obtain ⟨f1, f2⟩ := Dq hx
      obtain ⟨g1, g2⟩ := Dq hy
      have hnp : 10 ∉ pp := fun e => hnr (by rw [e1, e2]; simp [e])
      exact ⟨by simp [CD, hnp], by simp [Aj, hl, k1, e1, e2, ← f1, ← g1], hkr, f2, g2, ⟨by simp, by simp⟩⟩
     ·cases h
  rename_i e4
  split at h
  ·rename_i e6
   subst e6
   cases h1 : Bv rest with
   | none => rw [h1] at h; cases h
   | some p =>
    obtain ⟨a, b⟩ := p
    rw [h1] at h
    simp only at h
    split at h
    ·rename_i x y hx hy
     cases h
     obtain ⟨e1, _⟩ := ES h1
     obtain ⟨f1, f2⟩ := Dq hx
     obtain ⟨g1, g2⟩ := Dq hy
     exact ⟨by simp [CD], by simp [Aj, hl, k1, e1, ← f1, ← g1], hkr, ⟨by simp, by simp⟩, g2, f2⟩
    ·cases h
  rename_i e6
  split at h
  ·rename_i e79
   rw [Option.map_eq_some_iff] at h
   obtain ⟨x, hx, rfl⟩ := h
   obtain ⟨f1, f2⟩ := Dq hx
   refine ⟨?_, ?_, hkr, ⟨by simp, by simp⟩, ⟨by simp, by simp⟩, f2⟩
   ·rcases e79 with rfl | rfl <;> simp [CD]
   ·rcases e79 with rfl | rfl <;> simp [Aj, hl, k1, ← f1]
  rename_i e79
  split at h
  ·rename_i e8
   subst e8
   rw [Option.map_eq_some_iff] at h
   obtain ⟨x, hx, rfl⟩ := h
   have f1 := Hi hx
   exact ⟨by simp [CD], by simp [Aj, hl, k1, ← f1], hkr, ⟨by simp, by simp⟩, ⟨by simp, by simp⟩, ⟨by simp, by simp⟩⟩
  rename_i e8
  cases h
  have hk : k = 1 ∨ k = 2 ∨ k = 3 ∨ k = 5 := by omega
  refine ⟨by simp [CD, hnr, hk], ?_, hkr, ⟨by simp, by simp⟩, ⟨by simp, by simp⟩, ⟨by simp, by simp⟩⟩
  have h7 : ¬ (k = 7 ∨ k = 9) := e79
  simp only [Aj]
  rw [if_neg (by omega), if_neg e4, if_neg e6, if_neg h7, if_neg e8, hl, k1]
theorem Kl {o : OpN} (h : CD o = true) (hok : o.ok) : DS (Aj o) = some o := by
 obtain ⟨k, path, off, n, id, image⟩ := o
 obtain ⟨q1, q2, q3, q4⟩ := hok
 simp only at q1 q2 q3 q4
 unfold CD at h
 simp only [Bool.and_eq_true, decide_eq_true_eq] at h
 obtain ⟨hp, h⟩ := h
 have key : ∀ (rest : Str), 1 ≤ k → k ≤ 9 → 10 ∉ rest → Bv (A7 k ++ 32 :: rest) = some (A7 k, rest) ∧ 10 ∉ A7 k ++ 32 :: rest ∧ kindOf (A7 k) = k := fun rest h1 h2 h3 =>
  ⟨Gm rest (Ic k).1, by simp [h3, (Ic k).2], Nt h1 h2⟩
 have hn1 := fun n => (IH (n := n)).1
 have hn2 := fun n => (IH (n := n)).2
 split at h
 ·rename_i hk
  simp only [Bool.and_eq_true, decide_eq_true_eq] at h
  obtain ⟨⟨⟨rfl, rfl⟩, rfl⟩, rfl⟩ := h
  obtain ⟨a1, a2, a3⟩ := key path (by omega) (by omega) hp
  have e : Aj ⟨k, path, 0, 0, 0, []⟩ = A7 k ++ 32 :: path := by
   simp only [Aj]
   rw [if_neg (by omega), if_neg (by omega), if_neg (by omega), if_neg (by omega), if_neg (by omega)]
  rw [e, DS, a1]
  simp only
  rw [if_neg a2, a3, if_neg (by omega), if_neg (by omega), if_neg (by omega), if_neg (by omega), if_neg (by omega)]
 split at h
 ·rename_i hk
  subst hk
  simp only [Bool.and_eq_true, decide_eq_true_eq] at h
  obtain ⟨rfl, rfl⟩ := h
  have hr : 10 ∉ BT off ++ 32 :: (BT n ++ 32 :: path) := by simp [hn2, hp]
  obtain ⟨a1, a2, a3⟩ := key _ (by omega) (by omega) hr
  have e : Aj ⟨4, path, off, n, 0, []⟩ = A7 4 ++ 32 :: (BT off ++ 32 :: (BT n ++ 32 :: path)) := by simp [Aj]
  rw [e, DS, a1]
  simp only
  rw [if_neg a2, a3, if_neg (by omega), if_pos rfl, Gm _ (hn1 off)]
  simp only
  rw [Gm _ (hn1 n)]
  simp only
  rw [ET q2, ET q3]
 split at h
 ·rename_i hk
  subst hk
  simp only [Bool.and_eq_true, decide_eq_true_eq] at h
  obtain ⟨⟨rfl, rfl⟩, rfl⟩ := h
  have hr : 10 ∉ BT id ++ 32 :: BT n := by simp [hn2]
  obtain ⟨a1, a2, a3⟩ := key _ (by omega) (by omega) hr
  have e : Aj ⟨6, [], 0, n, id, []⟩ = A7 6 ++ 32 :: (BT id ++ 32 :: BT n) := by simp [Aj]
  rw [e, DS, a1]
  simp only
  rw [if_neg a2, a3, if_neg (by omega), if_neg (by omega), if_pos rfl, Gm _ (hn1 id)]
  simp only
  rw [ET q4, ET q3]
 split at h
 ·rename_i hk
  simp only [Bool.and_eq_true, decide_eq_true_eq] at h
  obtain ⟨⟨⟨rfl, rfl⟩, rfl⟩, rfl⟩ := h
  obtain ⟨a1, a2, a3⟩ := key (BT id) (by omega) (by omega) (hn2 id)
  have e : Aj ⟨k, [], 0, 0, id, []⟩ = A7 k ++ 32 :: BT id := by
   simp only [Aj]
   rw [if_neg (by omega), if_neg (by omega), if_neg (by omega), if_pos hk]
  rw [e, DS, a1]
  simp only
  rw [if_neg a2, a3, if_neg (by omega), if_neg (by omega), if_neg (by omega), if_pos hk, ET q4]
  rfl
 split at h
 ·rename_i hk
  subst hk
  simp only [Bool.and_eq_true, decide_eq_true_eq] at h
  obtain ⟨⟨⟨rfl, rfl⟩, rfl⟩, rfl⟩ := h
  obtain ⟨a1, a2, a3⟩ := key (C4 image) (by omega) (by omega) (Jy image).2
  have e : Aj ⟨8, [], 0, 0, 0, image⟩ = A7 8 ++ 32 :: C4 image := by simp [Aj]
  rw [e, DS, a1]
  simp only
  rw [if_neg a2, a3, if_neg (by omega), if_neg (by omega), if_neg (by omega), if_neg (by omega), if_pos rfl, Li]
  rfl
 ·cases h
structure PP where
 err : Int := 0
 kind : Int := 0
 size : Int := 0
 where_ : Int := 0
 id : Int := 0
 text : Str := []
 names : List Str := []
 end_ : Bool := false
def PP.c (x : PP) (r : Rt) : List AV := [.int .i64 x.err, .int .i64 x.kind, .int .i64 x.size, .int .i64 x.where_, .int .i64 x.id, .str x.text, .vs 1 (x.names.map Dj) r, .bool x.end_]
@[simp] theorem PP.c_len (x : PP) (r : Rt) : (x.c r).length = 8 := rfl
def OpN.c (o : OpN) : List AV := [.int .i64 o.kind, .str o.path, .int .i64 o.off, .int .i64 o.n, .int .i64 o.id, .str o.image]
@[simp] theorem OpN.c_len (o : OpN) : o.c.length = 6 := rfl
open Go.Proofs
set_option maxRecDepth 100000 in
theorem Rs (ys : List AV) (h : TT J9 ys) : ∃ o : OpN, ys = o.c ∧ (o.ok ∧ o.path.length ≤ 1048576 ∧ o.image.length ≤ 1048576) := by
 obtain ⟨h1, h2⟩ := h.struct_inv Pb
 match ys, h1 with
 | [a0, a1, a2, a3, a4, a5], _ =>
  obtain ⟨k, e0, hk⟩ := EL (h2 _ (List.mem_cons_self)) Fh
  obtain ⟨p, e1, hp⟩ := Jo (h2 _ (List.mem_cons_of_mem _ List.mem_cons_self)) HC
  obtain ⟨of_, e2, ho⟩ := EL (h2 _ (List.mem_cons_of_mem _ (List.mem_cons_of_mem _ List.mem_cons_self))) Fh
  obtain ⟨n, e3, hn⟩ := EL (h2 _ (List.mem_cons_of_mem _ (List.mem_cons_of_mem _ (List.mem_cons_of_mem _ List.mem_cons_self)))) Fh
  obtain ⟨i, e4, hi⟩ := EL (h2 _ (List.mem_cons_of_mem _ (List.mem_cons_of_mem _ (List.mem_cons_of_mem _ (List.mem_cons_of_mem _ List.mem_cons_self))))) Fh
  obtain ⟨m, e5, hm⟩ := Jo (h2 _ (List.mem_cons_of_mem _ (List.mem_cons_of_mem _ (List.mem_cons_of_mem _ (List.mem_cons_of_mem _ (List.mem_cons_of_mem _ List.mem_cons_self)))))) HC
  cases e0; cases e1; cases e2; cases e3; cases e4; cases e5
  exact ⟨⟨k, p, of_, n, i, m⟩, rfl, ⟨hk, ho, hn, hi⟩, hp, hm⟩
open Go.Proofs
def IK (o : OpN) : Bool := decide (o.path.length ≤ 1100) && (decide (o.image.length ≤ 2000) && decide (o.n ≤ 3000))
def Of (l : List OpN) (most : Int) : Bool := decide ((l.length : Int) ≤ most) && l.all IK
theorem Nw {o : OpN} : IK o = true ↔ o.path.length ≤ 1100 ∧ o.image.length ≤ 2000 ∧ o.n ≤ 3000 := by simp [IK]
theorem IW {l : List OpN} {most : Int} : Of l most = true ↔ (l.length : Int) ≤ most ∧ ∀ o ∈ l, IK o = true := by simp [Of]
set_option maxRecDepth 100000 in
theorem N7 {w0 : World} {S : St} {l : List OpN} {r : Rt} {most : Int} (hl : l.length ≤ 1000000000) {Q : AV → St → Prop} (hq : Q (.int .i64 (if Of l most = true then 1 else 0)) S) : AC w0 GP [.vs 6 (l.map OpN.c) r, .int .i64 most] S Q := by
 apply Md
 unfold GU
 by_cases c : most < l.length
 ·have e : Of l most = false := by
   rw [← Bool.not_eq_true, IW]
   rintro ⟨h, _⟩
   omega
  rw [e] at hq
  simp [AJ, c]
  simpa using hq
 ·simp [AJ, c]
  refine A1 l (fun i (_ : Unit) => ([.int .i64 i], [])) (fun i _ S' => S' = S ∧ ∀ o ∈ l.take i, IK o = true) () rfl ⟨rfl, by simp⟩ ?_ ?_
  ·rintro i _ S' v b o hi hxi hd hcc hmem ⟨rfl, hal⟩ hv
   simp at hv
   have hbad : IK o = false → Q (.int .i64 0) S' := fun h => by
    have e : Of l most = false := by
     rw [← Bool.not_eq_true, IW]
     rintro ⟨_, h2⟩
     rw [h2 o hmem] at h
     cases h
    rw [e] at hq
    simpa using hq
   have hoc : o.c = [.int .i64 o.kind, .str o.path, .int .i64 o.off, .int .i64 o.n, .int .i64 o.id, .str o.image] := rfl
   simp [hv, hcc, hxi, hoc]
   by_cases c1 : 1100 < o.path.length
   ·simp [show (1100 : Int) < o.path.length by omega]
    exact hbad (by simp [IK]; omega)
   by_cases c2 : 2000 < o.image.length
   ·simp [show ¬ (1100 : Int) < o.path.length by omega, show (2000 : Int) < o.image.length by omega]
    exact hbad (by simp [IK]; omega)
   by_cases c3 : 3000 < o.n
   ·simp [show ¬ (1100 : Int) < o.path.length by omega, show ¬ (2000 : Int) < o.image.length by omega, c3]
    exact hbad (by simp [IK]; omega)
   ·simp [show ¬ (1100 : Int) < o.path.length by omega, show ¬ (2000 : Int) < o.image.length by omega, c3]
    try simp (disch := omega) only [wrap64]
    refine .next hi () rfl ⟨rfl, ?_⟩
    intro x hx
    rw [List.take_succ, hxi] at hx
    rcases List.mem_append.1 hx with hx | hx
    ·exact hal x hx
    ·simp at hx; subst hx
     exact Nw.2 ⟨by omega, by omega, by omega⟩
  ·rintro _ S' v b ⟨rfl, hal⟩ hv N
   simp at hv
   rw [List.take_length] at hal
   have e : Of l most = true := IW.2 ⟨by omega, hal⟩
   rw [e] at hq
   simp [hv]
   simpa using hq
end Go.Av
