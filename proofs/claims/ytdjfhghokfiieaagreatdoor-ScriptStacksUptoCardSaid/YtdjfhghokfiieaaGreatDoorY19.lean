/- Parts of the proofs of this seat: abstract values over the model, and what the functions of the program do. No condition. -/
import Derived.Test.YtdjfhghokfiieaaGreatDoorD0
import Derived.Lib.ItoaNum
import Derived.Lib.AtoiAllCases
import Derived.Lib.Split
set_option linter.all false
namespace Go.Av
abbrev GG (n : Int) : Prop := -9223372036854775808 ≤ n ∧ n ≤ 9223372036854775807
abbrev DJ (n : Int) : Str := Lib.itoa n
def Sh (d : Nat) : UInt8 := UInt8.ofNat (48 + d)
theorem Dy {d : Nat} (h : d < 10) : (Sh d).toNat = 48 + d := by
 unfold Sh
 rw [UInt8.toNat_ofNat']
 omega
theorem O3 (u : Nat) : Lib.decDigits u = if u < 10 then [Sh u] else Lib.decDigits (u / 10) ++ [Sh (u % 10)] := by
 conv => lhs; rw [Lib.decDigits]
 by_cases h : u < 10 <;> simp [h, Sh]
theorem Ls {n : Int} (h : 0 ≤ n) (h2 : n < 10) : DJ n = [Sh n.toNat] := by
 simp only [DJ, Lib.itoa]
 rw [if_neg (by omega), O3, if_pos (by omega)]
theorem EE : ∀ (u : Nat), Lib.decDigits u ≠ [] ∧ ∀ c ∈ Lib.decDigits u, 48 ≤ c.toNat ∧ c.toNat ≤ 57 := by
 intro u
 induction u using Nat.strongRecOn with
 | ind u ih =>
  rw [O3]
  by_cases h : u < 10
  ·rw [if_pos h]
   refine ⟨by simp, fun c hc => ?_⟩
   rw [List.mem_singleton] at hc
   subst hc
   rw [Dy h]; omega
  ·rw [if_neg h]
   refine ⟨by simp, fun c hc => ?_⟩
   rcases List.mem_append.1 hc with hc | hc
   ·exact (ih (u / 10) (by omega)).2 c hc
   ·rw [List.mem_singleton] at hc
    subst hc
    rw [Dy (by omega)]; omega
theorem Kq (c : UInt8) (hc : 48 ≤ c.toNat ∧ c.toNat ≤ 57) : ∀ (l : Str) (acc v : Nat), Lib.parseUint10 acc l = .ok v → v * 10 + (c.toNat - 48) < 18446744073709551616 → Lib.parseUint10 acc (l ++ [c]) = .ok (v * 10 + (c.toNat - 48))
 | [], acc, v, h, hv => by
  simp only [Lib.parseUint10] at h
  cases h
  simp only [List.nil_append, Lib.parseUint10, hc, and_self, if_true]
  rw [if_neg (by omega), if_neg (by omega)]
 | d :: l, acc, v, h, hv => by
  rw [List.cons_append]
  simp only [Lib.parseUint10] at h ⊢
  split at h
  ·rename_i h1
   rw [if_pos h1]
   split at h
   ·cases h
   ·rename_i h2
    rw [if_neg h2]
    split at h
    ·cases h
    ·rename_i h3
     rw [if_neg h3]
     exact Kq c hc l _ v h hv
  ·cases h
theorem Q5 : ∀ (u : Nat), u < 18446744073709551616 → Lib.parseUint10 0 (Lib.decDigits u) = .ok u := by
 intro u
 induction u using Nat.strongRecOn with
 | ind u ih =>
  intro hu
  rw [O3]
  by_cases h : u < 10
  ·rw [if_pos h]
   have := Kq (Sh u) (by rw [Dy h]; omega) [] 0 0 rfl (by rw [Dy h]; omega)
   rw [Dy h] at this
   simpa using this
  ·rw [if_neg h]
   have h10 : u % 10 < 10 := by omega
   have := Kq (Sh (u % 10)) (by rw [Dy h10]; omega) _ 0 (u / 10) (ih (u / 10) (by omega) (by omega)) (by rw [Dy h10]; omega)
   rw [this, Dy h10]
   congr 1
   omega
theorem XG {n : Int} (h : GG n) : Lib.atoiAll (DJ n) = .ok n := by
 simp only [DJ, Lib.itoa]
 by_cases c : n < 0
 ·rw [if_pos c, Lib.atoiAll_minus, Lib.parseMag, if_neg (EE _).1, Q5 _ (by omega)]
  simp only [Lib.signed]
  rw [if_neg (by omega)]
  congr 1
  omega
 ·rw [if_neg c]
  obtain ⟨h1, h2⟩ := EE n.toNat
  cases hd : Lib.decDigits n.toNat with
  | nil => exact absurd hd h1
  | cons x r =>
   have hx := h2 x (by rw [hd]; simp)
   rw [Lib.atoiAll_plain x r (by omega) (by omega), Lib.parseMag, if_neg (by simp), ← hd, Q5 _ (by omega)]
   simp only [Lib.signless]
   rw [if_neg (by omega)]
   congr 1
   omega
theorem XQ {n : Int} : DJ n ≠ [] ∧ ∀ c ∈ DJ n, c = 45 ∨ (48 ≤ c.toNat ∧ c.toNat ≤ 57) := by
 simp only [DJ, Lib.itoa]
 split
 ·refine ⟨by simp, fun c hc => ?_⟩
  rcases List.mem_cons.1 hc with rfl | hc
  ·exact .inl rfl
  ·exact .inr ((EE _).2 c hc)
 ·exact ⟨(EE _).1, fun c hc => .inr ((EE _).2 c hc)⟩
def QH (d : Nat) : UInt8 := if d < 10 then UInt8.ofNat (48 + d) else UInt8.ofNat (87 + d)
def G8 : Str → Str
 | [] => []
 | b :: l => QH (b.toNat / 16) :: QH (b.toNat % 16) :: G8 l
def KT (s : Str) : Str := if s = [] then [45] else G8 s
def Kn (c : UInt8) : Option Nat := if 48 ≤ c.toNat ∧ c.toNat ≤ 57 then some (c.toNat - 48) else if 97 ≤ c.toNat ∧ c.toNat ≤ 102 then some (c.toNat - 87) else none
def unhex : Str → Option Str
 | [] => some []
 | [_] => none
 | a :: b :: l => match Kn a, Kn b with
  | some x, some y => (unhex l).map (UInt8.ofNat (x * 16 + y) :: ·)
  | _, _ => none
def FX (w : Str) : Option Str := if w = [45] then some [] else if w = [] then none else unhex w
theorem Im {d : Nat} (h : d < 16) : (QH d).toNat = if d < 10 then 48 + d else 87 + d := by
 unfold QH
 split <;> (rw [UInt8.toNat_ofNat']; omega)
theorem J7 {d : Nat} (h : d < 16) : Kn (QH d) = some d := by
 have := Im h
 unfold Kn
 split at this
 ·rw [if_pos (by omega), this]; congr 1; omega
 ·rw [if_neg (by omega), if_pos (by omega), this]; congr 1; omega
theorem J0 {c : UInt8} {d : Nat} (h : Kn c = some d) : d < 16 ∧ c = QH d := by
 unfold Kn at h
 split at h
 ·cases h
  refine ⟨by omega, UInt8.toNat_inj.1 ?_⟩
  rw [Im (by omega), if_pos (by omega)]; omega
 ·split at h
  ·cases h
   refine ⟨by omega, UInt8.toNat_inj.1 ?_⟩
   rw [Im (by omega), if_neg (by omega)]; omega
  ·cases h
theorem OM : ∀ s : Str, unhex (G8 s) = some s
 | [] => rfl
 | b :: l => by
  have hb := b.toNat_lt
  rw [G8, unhex, J7 (by omega), J7 (by omega), OM l]
  simp only [Option.map_some]
  congr 2
  apply UInt8.toNat_inj.1
  rw [UInt8.toNat_ofNat']
  omega
theorem O1 : ∀ {w c : Str}, unhex w = some c → w = G8 c
 | [], c, h => by simp [unhex] at h; subst h; rfl
 | [_], c, h => by simp [unhex] at h
 | a :: b :: l, c, h => by
  rw [unhex] at h
  cases ha : Kn a with
  | none => rw [ha] at h; cases h
  | some x =>
   cases hb : Kn b with
   | none => rw [ha, hb] at h; cases h
   | some y =>
    rw [ha, hb] at h
    simp only [Option.map_eq_some_iff] at h
    obtain ⟨t, ht, rfl⟩ := h
    obtain ⟨h1, h2⟩ := J0 ha
    obtain ⟨h3, h4⟩ := J0 hb
    rw [G8, ← O1 ht]
    have e : (UInt8.ofNat (x * 16 + y)).toNat = x * 16 + y := by rw [UInt8.toNat_ofNat']; omega
    rw [e, show (x * 16 + y) / 16 = x by omega, show (x * 16 + y) % 16 = y by omega, ← h2, ← h4]
theorem VX {s : Str} (h : s ≠ []) : G8 s ≠ [] ∧ G8 s ≠ [45] := by
 cases s with
 | nil => exact absurd rfl h
 | cons b l => simp [G8]
theorem QR (s : Str) : FX (KT s) = some s := by
 unfold FX KT
 by_cases h : s = []
 ·subst h; rfl
 ·rw [if_neg h, if_neg (VX h).2, if_neg (VX h).1, OM]
theorem OF {w c : Str} (h : FX w = some c) : w = KT c := by
 unfold FX at h
 unfold KT
 split at h
 ·rename_i e; cases h; rw [if_pos rfl, e]
 ·split at h
  ·cases h
  ·rename_i h1 h2
   have h3 := O1 h
   have : c ≠ [] := fun e => by subst e; exact h2 h3
   rw [if_neg this, h3]
theorem XM (s : Str) : (G8 s).length = 2 * s.length := by
 induction s with
 | nil => rfl
 | cons b l ih => simp only [G8, List.length_cons, ih]; omega
theorem N7 : ∀ (s : Str), ∀ c ∈ G8 s, c ≠ 10 ∧ c ≠ 32
 | [], c, h => by simp [G8] at h
 | b :: l, c, h => by
  have hb := b.toNat_lt
  have hd : ∀ d, d < 16 → QH d ≠ 10 ∧ QH d ≠ 32 := fun d hd => by
   have := Im hd
   constructor <;> (intro e; rw [e] at this; split at this <;> simp at this <;> omega)
  simp only [G8, List.mem_cons] at h
  rcases h with rfl | rfl | h
  ·exact hd _ (by omega)
  ·exact hd _ (by omega)
  ·exact N7 l c h
structure OpN where
 kind : Int
 path : Str
 off : Int
 n : Int
 id : Int
 image : Str
 deriving DecidableEq
def OpN.zero : OpN := ⟨0, [], 0, 0, 0, []⟩
def B4 (k : Int) : Str :=
 if k = 1 then [108, 111, 111, 107, 117, 112] else if k = 2 then [115, 116, 97, 116] else if k = 3 then [114, 101, 97, 100, 108, 105, 110, 107] else if k = 4 then [114, 101, 97, 100] else if k = 5 then [111, 112, 101, 110]
 else if k = 6 then [112, 97, 103, 101] else if k = 7 then [99, 108, 111, 115, 101] else if k = 8 then [97, 100, 100] else if k = 9 then [114, 101, 109, 111, 118, 101] else []
def Cc (o : OpN) : Str :=
 if o.kind < 1 ∨ 9 < o.kind then []
 else B4 o.kind ++ 32 :: (if o.kind = 4 then DJ o.off ++ 32 :: (DJ o.n ++ 32 :: o.path) else if o.kind = 6 then DJ o.id ++ 32 :: DJ o.n else if o.kind = 7 ∨ o.kind = 9 then DJ o.id else if o.kind = 8 then KT o.image else o.path)
def GB (o : OpN) : Bool :=
 decide (10 ∉ o.path) && (if o.kind = 1 ∨ o.kind = 2 ∨ o.kind = 3 ∨ o.kind = 5 then decide (o.off = 0) && decide (o.n = 0) && decide (o.id = 0) && decide (o.image = [])
  else if o.kind = 4 then decide (o.id = 0) && decide (o.image = [])
  else if o.kind = 6 then decide (o.path = []) && decide (o.off = 0) && decide (o.image = [])
  else if o.kind = 7 ∨ o.kind = 9 then decide (o.path = []) && decide (o.off = 0) && decide (o.n = 0) && decide (o.image = [])
  else if o.kind = 8 then decide (o.path = []) && decide (o.off = 0) && decide (o.n = 0) && decide (o.id = 0)
  else false)
def DG : Str → Option (Str × Str)
 | [] => none
 | c :: l => if c = 32 then some ([], l) else (DG l).map fun p => (c :: p.1, p.2)
theorem Ju : ∀ {a : Str} (b : Str), 32 ∉ a → DG (a ++ 32 :: b) = some (a, b)
 | [], b, _ => by simp [DG]
 | c :: a, b, h => by
  have hc : ¬ c = 32 := fun e => h (by simp [e])
  rw [List.cons_append, DG, if_neg hc, Ju b (fun e => h (by simp [e]))]
  rfl
theorem GQ : ∀ {s a b : Str}, DG s = some (a, b) → s = a ++ 32 :: b ∧ 32 ∉ a
 | [], a, b, h => by simp [DG] at h
 | c :: s, a, b, h => by
  rw [DG] at h
  split at h
  ·rename_i e
   cases h
   simp [e]
  ·rename_i e
   rw [Option.map_eq_some_iff] at h
   obtain ⟨⟨x, y⟩, h1, h2⟩ := h
   cases h2
   obtain ⟨h3, h4⟩ := GQ h1
   exact ⟨by simp [h3], by simp [h4]; exact fun e2 => e e2.symm⟩
def numOf (w : Str) : Option Int := match Lib.atoiAll w with | .ok v => if DJ v = w then some v else none | _ => none
theorem GO {n : Int} (h : GG n) : numOf (DJ n) = some n := by rw [numOf, XG h]; simp
theorem FY {w : Str} {n : Int} (h : numOf w = some n) : w = DJ n ∧ GG n := by
 unfold numOf at h
 cases ha : Lib.atoiAll w with
 | ok v =>
  rw [ha] at h
  simp only at h
  split at h
  ·rename_i e
   cases h
   exact ⟨e.symm, Lib.atoiAll_bounds ha⟩
  ·cases h
 | «syntax» => rw [ha] at h; cases h
 | range => rw [ha] at h; cases h
def kindOf (w : Str) : Int :=
 if w = B4 1 then 1 else if w = B4 2 then 2 else if w = B4 3 then 3 else if w = B4 4 then 4 else if w = B4 5 then 5 else if w = B4 6 then 6 else if w = B4 7 then 7 else if w = B4 8 then 8 else if w = B4 9 then 9 else 0
theorem Sr {k : Int} (h1 : 1 ≤ k) (h2 : k ≤ 9) : kindOf (B4 k) = k := by
 have : k = 1 ∨ k = 2 ∨ k = 3 ∨ k = 4 ∨ k = 5 ∨ k = 6 ∨ k = 7 ∨ k = 8 ∨ k = 9 := by omega
 rcases this with rfl | rfl | rfl | rfl | rfl | rfl | rfl | rfl | rfl <;> decide
theorem Tf {w : Str} (h : kindOf w ≠ 0) : w = B4 (kindOf w) ∧ 1 ≤ kindOf w ∧ kindOf w ≤ 9 := by
 unfold kindOf at h ⊢
 repeat' split
 all_goals first | (rename_i e; exact ⟨e, by omega, by omega⟩) | skip
 all_goals (exfalso; simp_all)
theorem Ll (k : Int) : 32 ∉ B4 k ∧ 10 ∉ B4 k := by
 unfold B4
 repeat' split
 all_goals decide
def Ff (line : Str) : Option OpN :=
 match DG line with
 | none => none
 | some (w, rest) =>
  if 10 ∈ line then none else
  if kindOf w = 0 then none
  else if kindOf w = 4 then
   match DG rest with
   | none => none
   | some (a, r2) => match DG r2 with
    | none => none
    | some (b, p) => match numOf a, numOf b with
     | some x, some y => some ⟨4, p, x, y, 0, []⟩
     | _, _ => none
  else if kindOf w = 6 then
   match DG rest with
   | none => none
   | some (a, b) => match numOf a, numOf b with
    | some x, some y => some ⟨6, [], 0, y, x, []⟩
    | _, _ => none
  else if kindOf w = 7 ∨ kindOf w = 9 then (numOf rest).map fun x => ⟨kindOf w, [], 0, 0, x, []⟩
  else if kindOf w = 8 then (FX rest).map fun x => ⟨8, [], 0, 0, 0, x⟩
  else some ⟨kindOf w, rest, 0, 0, 0, []⟩
theorem Ly {n : Int} : 32 ∉ DJ n ∧ 10 ∉ DJ n := by
 constructor <;> (intro h; rcases XQ.2 _ h with e | ⟨e, _⟩ <;> simp at e)
theorem Nn (s : Str) : 32 ∉ KT s ∧ 10 ∉ KT s := by
 unfold KT
 split
 ·decide
 ·exact ⟨fun h => (N7 s _ h).2 rfl, fun h => (N7 s _ h).1 rfl⟩
structure OpN.ok (o : OpN) : Prop where
 kind : GG o.kind
 off : GG o.off
 n : GG o.n
 id : GG o.id
theorem Uz {line : Str} {o : OpN} (h : Ff line = some o) : GB o = true ∧ Cc o = line ∧ o.ok := by
 unfold Ff at h
 cases hc : DG line with
 | none => rw [hc] at h; cases h
 | some p =>
  obtain ⟨w, rest⟩ := p
  rw [hc] at h
  simp only at h
  split at h
  ·cases h
  rename_i hnl
  split at h
  ·cases h
  rename_i hk0
  obtain ⟨hl, hw⟩ := GQ hc
  obtain ⟨k1, k2, k3⟩ := Tf hk0
  generalize kindOf w = k at h hk0 k1 k2 k3
  have hnr : 10 ∉ rest := fun e => hnl (by rw [hl]; simp [e])
  have hkr : GG k := ⟨by omega, by omega⟩
  split at h
  ·rename_i e4
   subst e4
   cases h1 : DG rest with
   | none => rw [h1] at h; cases h
   | some p =>
    obtain ⟨a, r2⟩ := p
    rw [h1] at h
    simp only at h
    cases h2 : DG r2 with
    | none => rw [h2] at h; cases h
    | some p =>
     obtain ⟨b, pp⟩ := p
     rw [h2] at h
     simp only at h
     split at h
     ·rename_i x y hx hy
      cases h
      obtain ⟨e1, _⟩ := GQ h1
      obtain ⟨e2, _⟩ := GQ h2
      obtain ⟨f1, f2⟩ := FY hx
      obtain ⟨g1, g2⟩ := FY hy
      have hnp : 10 ∉ pp := fun e => hnr (by rw [e1, e2]; simp [e])
      exact ⟨by simp [GB, hnp], by simp [Cc, hl, k1, e1, e2, ← f1, ← g1], hkr, f2, g2, ⟨by simp, by simp⟩⟩
     ·cases h
  rename_i e4
  split at h
  ·rename_i e6
   subst e6
   cases h1 : DG rest with
   | none => rw [h1] at h; cases h
   | some p =>
    obtain ⟨a, b⟩ := p
    rw [h1] at h
    simp only at h
    split at h
    ·rename_i x y hx hy
     cases h
     obtain ⟨e1, _⟩ := GQ h1
     obtain ⟨f1, f2⟩ := FY hx
     obtain ⟨g1, g2⟩ := FY hy
     exact ⟨by simp [GB], by simp [Cc, hl, k1, e1, ← f1, ← g1], hkr, ⟨by simp, by simp⟩, g2, f2⟩
    ·cases h
  rename_i e6
  split at h
  ·rename_i e79
   rw [Option.map_eq_some_iff] at h
   obtain ⟨x, hx, rfl⟩ := h
   obtain ⟨f1, f2⟩ := FY hx
   refine ⟨?_, ?_, hkr, ⟨by simp, by simp⟩, ⟨by simp, by simp⟩, f2⟩
   ·rcases e79 with rfl | rfl <;> simp [GB]
   ·rcases e79 with rfl | rfl <;> simp [Cc, hl, k1, ← f1]
  rename_i e79
  split at h
  ·rename_i e8
   subst e8
   rw [Option.map_eq_some_iff] at h
   obtain ⟨x, hx, rfl⟩ := h
   have f1 := OF hx
   exact ⟨by simp [GB], by simp [Cc, hl, k1, ← f1], hkr, ⟨by simp, by simp⟩, ⟨by simp, by simp⟩, ⟨by simp, by simp⟩⟩
  rename_i e8
  cases h
  have hk : k = 1 ∨ k = 2 ∨ k = 3 ∨ k = 5 := by omega
  refine ⟨by simp [GB, hnr, hk], ?_, hkr, ⟨by simp, by simp⟩, ⟨by simp, by simp⟩, ⟨by simp, by simp⟩⟩
  have h7 : ¬ (k = 7 ∨ k = 9) := e79
  simp only [Cc]
  rw [if_neg (by omega), if_neg e4, if_neg e6, if_neg h7, if_neg e8, hl, k1]
theorem VE {o : OpN} (h : GB o = true) (hok : o.ok) : Ff (Cc o) = some o := by
 obtain ⟨k, path, off, n, id, image⟩ := o
 obtain ⟨q1, q2, q3, q4⟩ := hok
 simp only at q1 q2 q3 q4
 unfold GB at h
 simp only [Bool.and_eq_true, decide_eq_true_eq] at h
 obtain ⟨hp, h⟩ := h
 have key : ∀ (rest : Str), 1 ≤ k → k ≤ 9 → 10 ∉ rest → DG (B4 k ++ 32 :: rest) = some (B4 k, rest) ∧ 10 ∉ B4 k ++ 32 :: rest ∧ kindOf (B4 k) = k := fun rest h1 h2 h3 =>
  ⟨Ju rest (Ll k).1, by simp [h3, (Ll k).2], Sr h1 h2⟩
 have hn1 := fun n => (Ly (n := n)).1
 have hn2 := fun n => (Ly (n := n)).2
 split at h
 ·rename_i hk
  simp only [Bool.and_eq_true, decide_eq_true_eq] at h
  obtain ⟨⟨⟨rfl, rfl⟩, rfl⟩, rfl⟩ := h
  obtain ⟨a1, a2, a3⟩ := key path (by omega) (by omega) hp
  have e : Cc ⟨k, path, 0, 0, 0, []⟩ = B4 k ++ 32 :: path := by
   simp only [Cc]
   rw [if_neg (by omega), if_neg (by omega), if_neg (by omega), if_neg (by omega), if_neg (by omega)]
  rw [e, Ff, a1]
  simp only
  rw [if_neg a2, a3, if_neg (by omega), if_neg (by omega), if_neg (by omega), if_neg (by omega), if_neg (by omega)]
 split at h
 ·rename_i hk
  subst hk
  simp only [Bool.and_eq_true, decide_eq_true_eq] at h
  obtain ⟨rfl, rfl⟩ := h
  have hr : 10 ∉ DJ off ++ 32 :: (DJ n ++ 32 :: path) := by simp [hn2, hp]
  obtain ⟨a1, a2, a3⟩ := key _ (by omega) (by omega) hr
  have e : Cc ⟨4, path, off, n, 0, []⟩ = B4 4 ++ 32 :: (DJ off ++ 32 :: (DJ n ++ 32 :: path)) := by simp [Cc]
  rw [e, Ff, a1]
  simp only
  rw [if_neg a2, a3, if_neg (by omega), if_pos rfl, Ju _ (hn1 off)]
  simp only
  rw [Ju _ (hn1 n)]
  simp only
  rw [GO q2, GO q3]
 split at h
 ·rename_i hk
  subst hk
  simp only [Bool.and_eq_true, decide_eq_true_eq] at h
  obtain ⟨⟨rfl, rfl⟩, rfl⟩ := h
  have hr : 10 ∉ DJ id ++ 32 :: DJ n := by simp [hn2]
  obtain ⟨a1, a2, a3⟩ := key _ (by omega) (by omega) hr
  have e : Cc ⟨6, [], 0, n, id, []⟩ = B4 6 ++ 32 :: (DJ id ++ 32 :: DJ n) := by simp [Cc]
  rw [e, Ff, a1]
  simp only
  rw [if_neg a2, a3, if_neg (by omega), if_neg (by omega), if_pos rfl, Ju _ (hn1 id)]
  simp only
  rw [GO q4, GO q3]
 split at h
 ·rename_i hk
  simp only [Bool.and_eq_true, decide_eq_true_eq] at h
  obtain ⟨⟨⟨rfl, rfl⟩, rfl⟩, rfl⟩ := h
  obtain ⟨a1, a2, a3⟩ := key (DJ id) (by omega) (by omega) (hn2 id)
  have e : Cc ⟨k, [], 0, 0, id, []⟩ = B4 k ++ 32 :: DJ id := by
   simp only [Cc]
   rw [if_neg (by omega), if_neg (by omega), if_neg (by omega), if_pos hk]
  rw [e, Ff, a1]
  simp only
  rw [if_neg a2, a3, if_neg (by omega), if_neg (by omega), if_neg (by omega), if_pos hk, GO q4]
  rfl
 split at h
 ·rename_i hk
  subst hk
  simp only [Bool.and_eq_true, decide_eq_true_eq] at h
  obtain ⟨⟨⟨rfl, rfl⟩, rfl⟩, rfl⟩ := h
  obtain ⟨a1, a2, a3⟩ := key (KT image) (by omega) (by omega) (Nn image).2
  have e : Cc ⟨8, [], 0, 0, 0, image⟩ = B4 8 ++ 32 :: KT image := by simp [Cc]
  rw [e, Ff, a1]
  simp only
  rw [if_neg a2, a3, if_neg (by omega), if_neg (by omega), if_neg (by omega), if_neg (by omega), if_pos rfl, QR]
  rfl
 ·cases h
def F9 : Nat → Str → List Str
 | 0, s => [s]
 | k + 1, s => match DG s with | none => [s] | some p => p.1 :: F9 k p.2
theorem OB {s : Str} {p : Str × Str} (h : DG s = some p) : p.1.length + p.2.length + 1 = s.length := by
 obtain ⟨h1, _⟩ := GQ (a := p.1) (b := p.2) h
 rw [h1]
 simp
 omega
theorem Qn : ∀ (k m : Nat) (s : Str), s.length ≤ k → k ≤ m → F9 k s = F9 m s
 | 0, m, s, h, _ => by
  have : s = [] := List.eq_nil_of_length_eq_zero (by omega)
  subst this
  cases m <;> rfl
 | k + 1, m, s, h, hm => by
  obtain ⟨m', rfl⟩ : ∃ m', m = m' + 1 := ⟨m - 1, by omega⟩
  rw [F9, F9]
  cases hc : DG s with
  | none => rfl
  | some p =>
   have := OB hc
   simp only
   rw [Qn k m' p.2 (by omega) (by omega)]
theorem Xe (n : Nat) (s : Str) (hn : 1 ≤ n) : F9 (min n (s.length + 1) - 1) s = F9 (n - 1) s := by
 by_cases h : n ≤ s.length + 1
 ·rw [Nat.min_eq_left h]
 ·rw [Nat.min_eq_right (by omega)]
  exact Qn _ _ _ (by omega) (by omega)
def Dk (rest : Bool) (s : Str) : Option (Int × Int × Str) :=
 match DG s with
 | none => none
 | some (a, r2) =>
  if rest = true then
   match DG r2 with
   | none => none
   | some (b, p) => match numOf a, numOf b with
    | some x, some y => some (x, y, p)
    | _, _ => none
  else match numOf a, numOf r2 with
   | some x, some y => some (x, y, [])
   | _, _ => none
theorem QG {s : Str} : Dk true s = match F9 2 s with | [a, b, p] => (match numOf a, numOf b with | some x, some y => some (x, y, p) | _, _ => none) | _ => none := by
 unfold Dk
 rw [F9]
 cases hc : DG s with
 | none => rfl
 | some p =>
  obtain ⟨a, r2⟩ := p
  simp only [if_true]
  rw [F9]
  cases hc2 : DG r2 with
  | none => rfl
  | some q => rfl
theorem OV {s : Str} : Dk false s = match F9 1 s with | [a, b] => (match numOf a, numOf b with | some x, some y => some (x, y, []) | _, _ => none) | _ => none := by
 unfold Dk
 rw [F9]
 cases hc : DG s with
 | none => rfl
 | some p => rfl
theorem WK (line : Str) : Ff line = match DG line with
 | none => none
 | some (w, rest) =>
  if 10 ∈ line then none else
  if kindOf w = 0 then none
  else if kindOf w = 4 then (Dk true rest).map fun t => ⟨4, t.2.2, t.1, t.2.1, 0, []⟩
  else if kindOf w = 6 then (Dk false rest).map fun t => ⟨6, [], 0, t.2.1, t.1, []⟩
  else if kindOf w = 7 ∨ kindOf w = 9 then (numOf rest).map fun x => ⟨kindOf w, [], 0, 0, x, []⟩
  else if kindOf w = 8 then (FX rest).map fun x => ⟨8, [], 0, 0, 0, x⟩
  else some ⟨kindOf w, rest, 0, 0, 0, []⟩ := by
 unfold Ff
 cases hc : DG line with
 | none => rfl
 | some p =>
  obtain ⟨w, rest⟩ := p
  simp only
  split
  ·rfl
  split
  ·rfl
  split
  ·unfold Dk
   cases h1 : DG rest with
   | none => rfl
   | some q =>
    obtain ⟨a, r2⟩ := q
    simp only [if_true]
    cases h2 : DG r2 with
    | none => rfl
    | some q2 =>
     obtain ⟨b, p⟩ := q2
     simp only
     cases numOf a <;> cases numOf b <;> rfl
  split
  ·unfold Dk
   cases h1 : DG rest with
   | none => rfl
   | some q =>
    obtain ⟨a, r2⟩ := q
    simp only [Bool.false_eq_true, if_false]
    cases numOf a <;> cases numOf r2 <;> rfl
  ·rfl
end Go.Av
