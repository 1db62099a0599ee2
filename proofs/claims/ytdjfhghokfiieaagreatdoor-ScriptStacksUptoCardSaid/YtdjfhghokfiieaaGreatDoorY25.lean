/- Parts of the proofs of this seat: abstract values over the model, and what the functions of the program do. No condition. -/
import Derived.Test.YtdjfhghokfiieaaGreatDoorY19
import Derived.Lib.Split
import Derived.Lib.Join
set_option linter.all false
namespace Go.Av
def BO (c : UInt8) : Str → List Str
 | [] => [[]]
 | x :: l => if x = c then [] :: BO c l else match BO c l with
  | h :: t => (x :: h) :: t
  | [] => [[x]]
theorem DP (c x : UInt8) (l : Str) : BO c (x :: l) = if x = c then [] :: BO c l else match BO c l with | h :: t => (x :: h) :: t | [] => [[x]] := by rw [BO]
theorem GN (c : UInt8) (s : Str) : BO c s ≠ [] := by
 cases s with
 | nil => simp [BO]
 | cons x l =>
  rw [DP]
  split
  ·simp
  ·cases BO c l <;> simp
theorem QW (c : UInt8) : ∀ s : Str, Lib.splitK [c] 0 (Lib.count s [c]) s = BO c s
 | [] => rfl
 | x :: l => by
  have ih := QW c l
  have hne : ([c] : List UInt8) ≠ [] := by simp
  by_cases hc : x = c
  ·subst hc
   have h0 : Lib.index (x :: l) [x] = (0 : Nat) := by simp [Lib.index, List.isPrefixOf]
   rw [Lib.count_hit hne h0]
   rw [Nat.add_comm 1]
   rw [Lib.splitK, h0, DP, if_pos rfl, ← ih]
   rfl
  ·have hp : ([c] : List UInt8).isPrefixOf (x :: l) = false := by
    simp [List.isPrefixOf]
    exact fun h => hc h.symm
   have hi : Lib.index (x :: l) [c] = if Lib.index l [c] == -1 then -1 else Lib.index l [c] + 1 := by
    conv => lhs; unfold Lib.index
    rw [hp]
    rfl
   rw [DP, if_neg hc, ← ih]
   by_cases hm : Lib.index l [c] = -1
   ·have h1 : Lib.index (x :: l) [c] = -1 := by rw [hi, hm]; rfl
    rw [Lib.count_miss h1, Lib.count_miss hm]
    rfl
   ·obtain ⟨i, hii⟩ : ∃ i : Nat, Lib.index l [c] = i := ⟨(Lib.index l [c]).toNat, by have := Lib.index_ge l [c]; omega⟩
    have h1 : Lib.index (x :: l) [c] = ((i + 1 : Nat) : Int) := by
     rw [hi, hii, if_neg (by simp)]; omega
    rw [Lib.count_hit hne h1, Lib.count_hit hne hii, Nat.add_comm 1, Nat.add_comm 1]
    rw [Lib.splitK, h1, Lib.splitK, hii]
    rw [if_neg (by simp <;> omega), if_neg (by simp)]
    simp only [Int.toNat_natCast, List.length_singleton, Nat.add_zero]
    show (x :: l.take i) :: _ = _
    rfl
theorem Gz (c : UInt8) : ∀ {s : Str} (t : Str), c ∉ s → BO c (s ++ c :: t) = s :: BO c t
 | [], t, _ => by rw [List.nil_append, DP, if_pos rfl]
 | x :: s, t, h => by
  have hx : ¬ x = c := fun e => h (by simp [e])
  rw [List.cons_append, DP, if_neg hx, Gz c t (fun e => h (by simp [e]))]
theorem J2 (c : UInt8) : ∀ {s : Str}, c ∉ s → BO c s = [s]
 | [], _ => rfl
 | x :: s, h => by
  have hx : ¬ x = c := fun e => h (by simp [e])
  rw [DP, if_neg hx, J2 c (fun e => h (by simp [e]))]
def M1 (c : UInt8) : List Str → Str
 | [] => []
 | [s] => s
 | s :: t :: l => s ++ c :: M1 c (t :: l)
theorem Kl (c : UInt8) (s : Str) {l : List Str} (h : l ≠ []) : M1 c (s :: l) = s ++ c :: M1 c l := by
 cases l with
 | nil => exact absurd rfl h
 | cons t l => rfl
theorem PM (c : UInt8) : ∀ s : Str, M1 c (BO c s) = s
 | [] => rfl
 | x :: s => by
  have ih := PM c s
  rw [DP]
  split
  ·rename_i e
   rw [Kl c [] (GN c s), ih, e]
   rfl
  ·cases hs : BO c s with
   | nil => exact absurd hs (GN c s)
   | cons a t =>
    rw [hs] at ih
    simp only
    cases t with
    | nil => rw [← ih]; rfl
    | cons b t => rw [← ih]; rfl
theorem PT (c : UInt8) : ∀ {l : List Str}, l ≠ [] → (∀ s ∈ l, c ∉ s) → BO c (M1 c l) = l
 | [], h, _ => absurd rfl h
 | [s], _, h => J2 c (h s (by simp))
 | s :: t :: l, _, h => by
  rw [Kl c s (by simp), Gz c _ (h s (by simp)), PT c (by simp) (fun x hx => h x (by simp [hx]))]
def txt : List Str → Str
 | [] => []
 | s :: l => s ++ 10 :: txt l
theorem Q1 : ∀ {l : List Str}, (∀ s ∈ l, 10 ∉ s) → BO 10 (txt l) = l ++ [[]]
 | [], _ => rfl
 | s :: l, h => by
  rw [txt, Gz 10 _ (h s (by simp)), Q1 (fun x hx => h x (by simp [hx]))]
  rfl
structure ScN where
 sh : Int
 room : Int
 cur : Int
 images : List Str
 clients : List (List OpN)
 picks : List Int
def ScN.zero : ScN := ⟨0, 0, 0, [], [], []⟩
abbrev Kc : Str := [114, 111, 111, 109]
abbrev Ho : Str := [105, 109, 97, 103, 101]
abbrev C8 : Str := [99, 108, 105, 101, 110, 116]
abbrev LU : Str := [112, 105, 99, 107]
def numsL : List Int → Str
 | [] => []
 | n :: l => 32 :: (DJ n ++ numsL l)
def F7 (s : ScN) : List Str :=
 (Kc ++ numsL [s.sh, s.room, s.cur]) :: (s.images.map (fun x => Ho ++ 32 :: KT x) ++ (s.clients.flatMap (fun ops => C8 :: ops.map Cc) ++ (if s.picks = [] then [] else [LU ++ numsL s.picks])))
def Rf (s : ScN) : Bool := s.clients.all fun ops => ops.all GB
def ET : List Str → Option (List Int)
 | [] => some []
 | w :: l => match numOf w with
  | some n => (ET l).map (n :: ·)
  | none => none
structure RdS where
 sc : ScN
 part : Nat
def ER (l : List (List OpN)) (o : OpN) : List (List OpN) := l.dropLast ++ [(l.getLast?.getD []) ++ [o]]
def D2 (r : RdS) (s : Str) : Option RdS :=
 let l := BO 32 s
 if r.part = 0 then
  match ET l.tail with
  | some [a, b, c] => if l.head? = some Kc then some ⟨{ r.sc with sh := a, room := b, cur := c }, 1⟩ else none
  | _ => none
 else if r.part < 3 ∧ l.head? = some Ho ∧ l.length = 2 then (FX ((l[1]?).getD [])).map fun x => ⟨{ r.sc with images := r.sc.images ++ [x] }, 2⟩
 else if r.part < 4 ∧ s = C8 then some ⟨{ r.sc with clients := r.sc.clients ++ [[]] }, 3⟩
 else if r.part < 4 ∧ l.head? = some LU ∧ 1 < l.length then (ET l.tail).map fun n => ⟨{ r.sc with picks := n }, 4⟩
 else match Ff s with
  | some o => if r.part = 3 then some ⟨{ r.sc with clients := ER r.sc.clients o }, 3⟩ else none
  | none => none
def Em : RdS → List Str → Nat → RdS ⊕ Nat
 | r, [], _ => .inl r
 | r, s :: l, i => match D2 r s with
  | some r' => Em r' l (i + 1)
  | none => .inr i
def RdS.zero : RdS := ⟨ScN.zero, 0⟩
def GT (text : Str) : ScN × Nat :=
 match Em RdS.zero (BO 10 text).dropLast 0 with
 | .inr i => (ScN.zero, i + 1)
 | .inl r => if (BO 10 text).getLast? ≠ some [] ∨ r.part = 0 then (ScN.zero, (BO 10 text).length) else (r.sc, 0)
def RE (s : ScN) : Str := txt (F7 s)
theorem JI : ∀ {l : List Str} {ns : List Int}, ET l = some ns → l = ns.map DJ ∧ ∀ n ∈ ns, GG n
 | [], ns, h => by simp [ET] at h; subst h; simp
 | w :: l, ns, h => by
  rw [ET] at h
  cases hw : numOf w with
  | none => rw [hw] at h; cases h
  | some n =>
   rw [hw] at h
   simp only [Option.map_eq_some_iff] at h
   obtain ⟨q, hq, rfl⟩ := h
   obtain ⟨h1, h2⟩ := JI hq
   obtain ⟨h3, h4⟩ := FY hw
   refine ⟨by rw [List.map_cons, ← h1, ← h3], fun x hx => ?_⟩
   rcases List.mem_cons.1 hx with rfl | hx
   ·exact h4
   ·exact h2 x hx
theorem K0 : ∀ {ns : List Int}, (∀ n ∈ ns, GG n) → ET (ns.map DJ) = some ns
 | [], _ => rfl
 | n :: ns, h => by
  rw [List.map_cons, ET, GO (h n (by simp)), K0 (fun x hx => h x (by simp [hx]))]
  rfl
theorem J4 : ∀ (w : Str) (ns : List Int), M1 32 (w :: ns.map DJ) = w ++ numsL ns
 | w, [] => by simp [M1, numsL]
 | w, n :: ns => by
  rw [List.map_cons, Kl 32 w (by simp), J4 (DJ n) ns, numsL]
theorem PA (w : Str) (ns : List Int) (h : 32 ∉ w) : BO 32 (w ++ numsL ns) = w :: ns.map DJ := by
 rw [← J4]
 refine PT 32 (by simp) (fun s hs => ?_)
 rcases List.mem_cons.1 hs with rfl | hs
 ·exact h
 ·obtain ⟨n, _, rfl⟩ := List.mem_map.1 hs
  exact Ly.1
theorem TS (ns : List Int) : 10 ∉ numsL ns := by
 induction ns with
 | nil => simp [numsL]
 | cons n ns ih => simp [numsL, ih, Ly.2]
structure ScN.ok (s : ScN) : Prop where
 sh : GG s.sh
 room : GG s.room
 cur : GG s.cur
 picks : ∀ n ∈ s.picks, GG n
 ops : ∀ ops ∈ s.clients, ∀ o ∈ ops, o.ok
structure bG (r : RdS) (ls : List Str) : Prop where
 zero : r.part = 0 → r = RdS.zero ∧ ls = []
 some : r.part ≠ 0 → F7 r.sc = ls
 le : r.part ≤ 4
 may : Rf r.sc = true
 picks : r.part < 4 → r.sc.picks = []
 clients : r.part < 3 → r.sc.clients = []
 images : r.part < 2 → r.sc.images = []
 ne : r.part = 3 → r.sc.clients ≠ []
 ok : r.sc.ok
theorem OH {α : Type} {l : List α} (h : l ≠ []) : ∃ a, l.getLast? = Option.some a ∧ l = l.dropLast ++ [a] := by
 obtain ⟨q, a, rfl⟩ := (List.eq_nil_or_concat l).resolve_left h
 exact ⟨a, by simp, by simp⟩
theorem bG.step {r r' : RdS} {ls : List Str} {s : Str} (h : bG r ls) (hl : D2 r s = Option.some r') : bG r' (ls ++ [s]) ∧ r'.part ≠ 0 := by
 have hj := PM 32 s
 have hne := GN 32 s
 obtain ⟨w, tl, hsp⟩ : ∃ w tl, BO 32 s = w :: tl := by
  cases hs : BO 32 s with
  | nil => exact absurd hs hne
  | cons w tl => exact ⟨w, tl, rfl⟩
 unfold D2 at hl
 rw [hsp] at hl hj
 simp only [List.tail_cons] at hl
 split at hl
 ·rename_i h0
  obtain ⟨hr, hls⟩ := h.zero h0
  subst hr
  subst hls
  split at hl
  ·rename_i a b c hw
   split at hl
   ·rename_i hwr
    obtain rfl : w = Kc := by simpa using hwr
    cases hl
    obtain ⟨k1, k2⟩ := JI hw
    rw [k1, J4] at hj
    refine ⟨⟨fun e => (by cases e), fun _ => ?_, by simp, rfl, fun _ => rfl, fun _ => rfl, fun _ => rfl, fun e => (by cases e), ⟨k2 a (by simp), k2 b (by simp), k2 c (by simp), by simp [RdS.zero, ScN.zero], by simp [RdS.zero, ScN.zero]⟩⟩, by simp⟩
    simp [F7, RdS.zero, ScN.zero, hj]
   ·cases hl
  ·cases hl
 rename_i h0
 have hlines := h.some h0
 have hpart : r.part = 1 ∨ r.part = 2 ∨ r.part = 3 ∨ r.part = 4 := by have := h.le; omega
 split at hl
 ·rename_i hi
  obtain ⟨hp, hw, hlen⟩ := hi
  obtain rfl : w = Ho := by simpa using hw
  rw [Option.map_eq_some_iff] at hl
  obtain ⟨x, hx, rfl⟩ := hl
  match tl, hlen with
  | [y], _ =>
   have hx2 : FX y = Option.some x := hx
   have hy := OF hx2
   have hcl := h.clients hp
   have hpk := h.picks (by omega)
   refine ⟨⟨fun e => (by cases e), fun _ => ?_, by simp, by simpa [Rf, hcl] using h.may, fun _ => hpk, fun _ => hcl, fun e => (by simp at e), fun e => (by cases e), ⟨h.ok.sh, h.ok.room, h.ok.cur, h.ok.picks, h.ok.ops⟩⟩, by simp⟩
   rw [← hlines, ← hj]
   simp [F7, hcl, hpk, M1, hy]
 split at hl
 ·rename_i hi
  obtain ⟨hp, hw⟩ := hi
  cases hl
  have hpk := h.picks hp
  refine ⟨⟨fun e => (by cases e), fun _ => ?_, by simp, by simpa [Rf] using h.may, fun _ => hpk, fun e => (by simp at e), fun e => (by simp at e), fun _ => by simp, ⟨h.ok.sh, h.ok.room, h.ok.cur, h.ok.picks, fun ops ho o hx => ?_⟩⟩, by simp⟩
  ·rw [← hlines, hw]
   simp [F7, hpk]
  ·rcases List.mem_append.1 ho with ho | ho
   ·exact h.ok.ops ops ho o hx
   ·rw [List.mem_singleton] at ho; subst ho; cases hx
 split at hl
 ·rename_i hi
  obtain ⟨hp, hw, hlen⟩ := hi
  obtain rfl : w = LU := by simpa using hw
  rw [Option.map_eq_some_iff] at hl
  obtain ⟨ns, hx, rfl⟩ := hl
  obtain ⟨k1, k2⟩ := JI hx
  have hns : ns ≠ [] := fun e => by subst e; rw [k1] at hlen; simp at hlen
  have hpk := h.picks hp
  rw [k1, J4] at hj
  refine ⟨⟨fun e => (by cases e), fun _ => ?_, by simp, h.may, fun e => (by simp at e), fun e => (by simp at e), fun e => (by simp at e), fun e => (by cases e), ⟨h.ok.sh, h.ok.room, h.ok.cur, k2, h.ok.ops⟩⟩, by simp⟩
  rw [← hlines, ← hj]
  simp [F7, hpk, hns]
 split at hl
 ·rename_i o ho
  split at hl
  ·rename_i h3
   cases hl
   obtain ⟨q1, q2, q3⟩ := Uz ho
   have hpk := h.picks (by omega)
   have hcn := h.ne h3
   obtain ⟨a, ha1, ha2⟩ := OH hcn
   have hadd : ER r.sc.clients o = r.sc.clients.dropLast ++ [a ++ [o]] := by simp [ER, ha1]
   refine ⟨⟨fun e => (by cases e), fun _ => ?_, by simp, ?_, fun _ => hpk, fun e => (by simp at e), fun e => (by simp at e), fun _ => by rw [hadd]; simp, ⟨h.ok.sh, h.ok.room, h.ok.cur, h.ok.picks, fun ops hop x hx => ?_⟩⟩, by simp⟩
   ·rw [← hlines]
    have e1 : r.sc.clients.flatMap (fun ops => C8 :: ops.map Cc) = r.sc.clients.dropLast.flatMap (fun ops => C8 :: ops.map Cc) ++ (C8 :: a.map Cc) := by
     conv => lhs; rw [ha2]
     simp
    simp only [F7, hadd, hpk, if_true, List.append_nil, e1]
    simp [q2]
   ·have := h.may
    unfold Rf at this ⊢
    rw [ha2] at this
    simp only [hadd]
    simp at this ⊢
    exact ⟨this.1, this.2, q1⟩
   ·rw [hadd] at hop
    rcases List.mem_append.1 hop with hop | hop
    ·exact h.ok.ops ops (List.dropLast_subset _ hop) x hx
    ·rw [List.mem_singleton] at hop
     subst hop
     rcases List.mem_append.1 hx with hx | hx
     ·exact h.ok.ops a (by rw [ha2]; simp) x hx
     ·rw [List.mem_singleton] at hx; subst hx; exact q3
  ·cases hl
 ·cases hl
theorem Ed : ∀ (a b : List Str) (r : RdS) (i : Nat), Em r (a ++ b) i = match Em r a i with | .inl r' => Em r' b (i + a.length) | .inr k => .inr k
 | [], b, r, i => rfl
 | s :: a, b, r, i => by
  rw [List.cons_append, Em, Em]
  cases D2 r s with
  | none => rfl
  | some r' =>
   simp only
   rw [Ed a b r' (i + 1), List.length_cons, show i + (a.length + 1) = i + 1 + a.length by omega]
theorem Qb {ls : List Str} (h : ∀ s ∈ ls, 10 ∉ s) : GT (txt ls) = match Em RdS.zero ls 0 with | .inr i => (ScN.zero, i + 1) | .inl r => if r.part = 0 then (ScN.zero, ls.length + 1) else (r.sc, 0) := by
 unfold GT
 rw [Q1 h]
 have e1 : (ls ++ [[]]).dropLast = ls := by simp
 have e2 : (ls ++ [([] : Str)]).getLast? = some [] := by simp
 have e3 : (ls ++ [([] : Str)]).length = ls.length + 1 := by simp
 rw [e1, e2, e3]
 cases Em RdS.zero ls 0 with
 | inr i => rfl
 | inl r => simp
theorem QV {a b c : Int} (ha : GG a) (hb : GG b) (hc : GG c) : D2 RdS.zero (Kc ++ numsL [a, b, c]) = some ⟨⟨a, b, c, [], [], []⟩, 1⟩ := by
 have hw := K0 (ns := [a, b, c]) (by
  intro n hn
  simp at hn
  rcases hn with rfl | rfl | rfl <;> assumption)
 unfold D2
 rw [PA Kc _ (by decide)]
 simp only [RdS.zero, if_true, List.tail_cons, hw, List.head?_cons]
 rfl
theorem UN {r : RdS} (hp : r.part = 1 ∨ r.part = 2) (x : Str) : D2 r (Ho ++ 32 :: KT x) = some ⟨{ r.sc with images := r.sc.images ++ [x] }, 2⟩ := by
 unfold D2
 have hs : BO 32 (Ho ++ 32 :: KT x) = [Ho, KT x] := by rw [Gz 32 _ (by decide), J2 32 (Nn x).1]
 rw [hs]
 simp only
 rw [if_neg (by omega), if_pos (by exact ⟨by omega, by simp, by simp⟩)]
 simp [QR]
theorem Mb {r : RdS} (hp : r.part ≠ 0 ∧ r.part < 4) : D2 r C8 = some ⟨{ r.sc with clients := r.sc.clients ++ [[]] }, 3⟩ := by
 unfold D2
 have hs : BO 32 C8 = [C8] := J2 32 (by decide)
 rw [hs]
 simp only
 rw [if_neg hp.1, if_neg (by simp), if_pos (by exact ⟨hp.2, by simp⟩)]
theorem ZH {r : RdS} (hp : r.part = 3) {o : OpN} (ho : GB o = true) (hok : o.ok) : D2 r (Cc o) = some ⟨{ r.sc with clients := ER r.sc.clients o }, 3⟩ := by
 have hpt := VE ho hok
 have hk : 1 ≤ o.kind ∧ o.kind ≤ 9 := by
  unfold GB at ho
  simp only [Bool.and_eq_true] at ho
  have h2 := ho.2
  repeat' split at h2
  all_goals first | omega | cases h2
 obtain ⟨rest, hrest⟩ : ∃ rest, Cc o = B4 o.kind ++ 32 :: rest := by
  unfold Cc
  rw [if_neg (by omega)]
  exact ⟨_, rfl⟩
 have hs : BO 32 (Cc o) = B4 o.kind :: BO 32 rest := by rw [hrest, Gz 32 _ (Ll _).1]
 have hnc : Cc o ≠ C8 := fun e => by
  have : (32 : UInt8) ∈ C8 := by rw [← e, hrest]; simp
  revert this; decide
 have hnp : B4 o.kind ≠ LU := by
  have : o.kind = 1 ∨ o.kind = 2 ∨ o.kind = 3 ∨ o.kind = 4 ∨ o.kind = 5 ∨ o.kind = 6 ∨ o.kind = 7 ∨ o.kind = 8 ∨ o.kind = 9 := by omega
  rcases this with h | h | h | h | h | h | h | h | h <;> rw [h] <;> decide
 unfold D2
 rw [hs]
 simp only
 rw [if_neg (by omega), if_neg (by omega), if_neg (fun h => hnc h.2), if_neg (by rintro ⟨_, h, _⟩; exact hnp (by simpa using h)), hpt]
 simp only
 rw [if_pos hp]
theorem Wc {r : RdS} (hp : r.part ≠ 0 ∧ r.part < 4) {ns : List Int} (hn : ns ≠ []) (hi : ∀ n ∈ ns, GG n) : D2 r (LU ++ numsL ns) = some ⟨{ r.sc with picks := ns }, 4⟩ := by
 unfold D2
 rw [PA LU ns (by decide)]
 simp only
 have hlen : 1 < (LU :: ns.map DJ).length := by
  have := List.length_pos_iff.2 hn
  simp; omega
 have hnc : LU ++ numsL ns ≠ C8 := fun e => by
  have := congrArg List.head? e
  revert this
  simp
 rw [if_neg hp.1, if_neg (by simp), if_neg (fun h => hnc h.2), if_pos ⟨hp.2, rfl, hlen⟩]
 simp [K0 hi]
theorem Oc : ∀ (xs : List Str) (r : RdS) (i : Nat), r.part = 1 ∨ r.part = 2 → ∃ p, (p = 1 ∨ p = 2) ∧ Em r (xs.map fun x => Ho ++ 32 :: KT x) i = .inl ⟨{ r.sc with images := r.sc.images ++ xs }, p⟩
 | [], r, i, hp => ⟨r.part, hp, by simp [Em]⟩
 | x :: xs, r, i, hp => by
  obtain ⟨p, h1, h2⟩ := Oc xs ⟨{ r.sc with images := r.sc.images ++ [x] }, 2⟩ (i + 1) (.inr rfl)
  refine ⟨p, h1, ?_⟩
  rw [List.map_cons, Em, UN hp]
  simp only
  rw [h2]
  simp
theorem VZ : ∀ (os : List OpN) (r : RdS) (i : Nat) (C : List (List OpN)) (a : List OpN), r.part = 3 → r.sc.clients = C ++ [a] → (∀ o ∈ os, GB o = true ∧ o.ok) → Em r (os.map Cc) i = .inl ⟨{ r.sc with clients := C ++ [a ++ os] }, 3⟩
 | [], r, i, C, a, hp, hc, _ => by
  obtain ⟨sc, part⟩ := r
  simp only at hp hc
  subst hp
  simp only [List.map_nil, Em, List.append_nil, ← hc]
 | o :: os, r, i, C, a, hp, hc, h => by
  obtain ⟨h1, h2⟩ := h o (by simp)
  rw [List.map_cons, Em, ZH hp h1 h2]
  simp only
  have hadd : ER r.sc.clients o = C ++ [a ++ [o]] := by simp [ER, hc]
  rw [VZ os _ (i + 1) C (a ++ [o]) rfl (by simp only; exact hadd) (fun x hx => h x (by simp [hx]))]
  simp
theorem Mr : ∀ (cs : List (List OpN)) (r : RdS) (i : Nat), r.part ≠ 0 ∧ r.part < 4 → (∀ os ∈ cs, ∀ o ∈ os, GB o = true ∧ o.ok) → ∃ p, (p ≠ 0 ∧ p < 4) ∧ Em r (cs.flatMap fun ops => C8 :: ops.map Cc) i = .inl ⟨{ r.sc with clients := r.sc.clients ++ cs }, p⟩
 | [], r, i, hp, _ => ⟨r.part, hp, by simp [Em]⟩
 | os :: cs, r, i, hp, h => by
  have h1 := VZ os ⟨{ r.sc with clients := r.sc.clients ++ [[]] }, 3⟩ (i + 1) r.sc.clients [] rfl rfl (h os (by simp))
  obtain ⟨p, h2, h3⟩ := Mr cs ⟨{ r.sc with clients := r.sc.clients ++ [[] ++ os] }, 3⟩ (i + 1 + (os.map Cc).length) ⟨by simp, by simp⟩ (fun x hx => h x (by simp [hx]))
  refine ⟨p, h2, ?_⟩
  rw [List.flatMap_cons, List.cons_append, Em, Mb hp]
  simp only
  rw [Ed, h1]
  simp only
  rw [h3]
  simp
theorem YL {s : ScN} (hm : Rf s = true) : ∀ x ∈ F7 s, 10 ∉ x := by
 intro x hx
 unfold F7 at hx
 rcases List.mem_cons.1 hx with rfl | hx
 ·intro h
  rcases List.mem_append.1 h with h | h
  ·revert h; decide
  ·exact TS _ h
 rcases List.mem_append.1 hx with hx | hx
 ·obtain ⟨y, _, rfl⟩ := List.mem_map.1 hx
  intro h
  rcases List.mem_append.1 h with h | h
  ·revert h; decide
  ·rcases List.mem_cons.1 h with h | h
   ·cases h
   ·exact (Nn y).2 h
 rcases List.mem_append.1 hx with hx | hx
 ·obtain ⟨ops, ho, hx⟩ := List.mem_flatMap.1 hx
  rcases List.mem_cons.1 hx with rfl | hx
  ·decide
  ·obtain ⟨o, hoo, rfl⟩ := List.mem_map.1 hx
   have h1 : GB o = true := by
    unfold Rf at hm
    exact List.all_eq_true.1 (List.all_eq_true.1 hm ops ho) o hoo
   intro h
   unfold Cc at h
   split at h
   ·cases h
   have hp : 10 ∉ o.path := by
    unfold GB at h1
    simp only [Bool.and_eq_true, decide_eq_true_eq] at h1
    exact h1.1
   rcases List.mem_append.1 h with h | h
   ·exact (Ll _).2 h
   rcases List.mem_cons.1 h with h | h
   ·cases h
   have n2 := fun n => (Ly (n := n)).2
   repeat' split at h
   ·simp [n2, hp] at h
   ·simp [n2] at h
   ·exact n2 _ h
   ·exact (Nn _).2 h
   ·exact hp h
 ·split at hx
  ·cases hx
  ·rw [List.mem_singleton] at hx
   subst hx
   intro h
   rcases List.mem_append.1 h with h | h
   ·revert h; decide
   ·exact TS _ h
theorem TW {s : ScN} (hm : Rf s = true) (hok : s.ok) : GT (RE s) = (s, 0) := by
 rw [RE, Qb (YL hm)]
 have hops : ∀ os ∈ s.clients, ∀ o ∈ os, GB o = true ∧ o.ok := fun os h o h2 => by
  unfold Rf at hm
  exact ⟨List.all_eq_true.1 (List.all_eq_true.1 hm os h) o h2, hok.ops os h o h2⟩
 have : ∃ p, p ≠ 0 ∧ Em RdS.zero (F7 s) 0 = .inl ⟨s, p⟩ := by
  rw [F7, Em, QV hok.sh hok.room hok.cur]
  simp only
  obtain ⟨p1, a1, a2⟩ := Oc s.images ⟨⟨s.sh, s.room, s.cur, [], [], []⟩, 1⟩ (0 + 1) (.inl rfl)
  rw [Ed, a2]
  simp only
  obtain ⟨p2, b1, b2⟩ := Mr s.clients ⟨⟨s.sh, s.room, s.cur, [] ++ s.images, [], []⟩, p1⟩ (0 + 1 + (s.images.map fun x => Ho ++ 32 :: KT x).length) (by simp only; omega) hops
  rw [Ed, b2]
  simp only
  by_cases c : s.picks = []
  ·rw [if_pos c]
   refine ⟨p2, b1.1, ?_⟩
   simp only [Em, List.nil_append]
   rw [← c]
  ·rw [if_neg c, Em, Wc (by simp only; exact b1) c hok.picks]
   exact ⟨4, by simp, by simp [Em]⟩
 obtain ⟨p, h1, h2⟩ := this
 rw [h2]
 simp [h1]
end Go.Av
