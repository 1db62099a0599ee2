/- Parts of the proofs of this seat: abstract values over the model, and what the functions of the program do. No condition. -/
import Derived.Test.YtdjfhghokfiieaaDoorY19
import Derived.Lib.Split
import Derived.Lib.Join
set_option linter.all false
namespace Go.Av
def Ac (c : UInt8) : Str → List Str
 | [] => [[]]
 | x :: l => if x = c then [] :: Ac c l else match Ac c l with
  | h :: t => (x :: h) :: t
  | [] => [[x]]
theorem Bw (c x : UInt8) (l : Str) : Ac c (x :: l) = if x = c then [] :: Ac c l else match Ac c l with | h :: t => (x :: h) :: t | [] => [[x]] := by rw [Ac]
theorem B7 (c : UInt8) (s : Str) : Ac c s ≠ [] := by
 cases s with
 | nil => simp [Ac]
 | cons x l =>
  rw [Bw]
  split
  ·simp
  ·cases Ac c l <;> simp
theorem Lo (c : UInt8) : ∀ s : Str, Lib.splitK [c] 0 (Lib.count s [c]) s = Ac c s
 | [] => rfl
 | x :: l => by
  have ih := Lo c l
  have hne : ([c] : List UInt8) ≠ [] := by simp
  by_cases hc : x = c
  ·subst hc
   have h0 : Lib.index (x :: l) [x] = (0 : Nat) := by simp [Lib.index, List.isPrefixOf]
   rw [Lib.count_hit hne h0]
   rw [Nat.add_comm 1]
   rw [Lib.splitK, h0, Bw, if_pos rfl, ← ih]
   rfl
  ·have hp : ([c] : List UInt8).isPrefixOf (x :: l) = false := by
    simp [List.isPrefixOf]
    exact fun h => hc h.symm
   have hi : Lib.index (x :: l) [c] = if Lib.index l [c] == -1 then -1 else Lib.index l [c] + 1 := by
    conv => lhs; unfold Lib.index
    rw [hp]
    rfl
   rw [Bw, if_neg hc, ← ih]
   by_cases hm : Lib.index l [c] = -1
   ·have h1 : Lib.index (x :: l) [c] = -1 := by rw [hi, hm]; rfl
    rw [Lib.count_miss h1, Lib.count_miss hm]
    rfl
   ·obtain ⟨i, hii⟩ : ∃ i : Nat, Lib.index l [c] = i := ⟨(Lib.index l [c]).toNat, by have := Lib.index_ge l [c]; omega⟩
    have h1 : Lib.index (x :: l) [c] = ((i + 1 : Nat) : Int) := by
     rw [hi, hii, if_neg (by simp)]; omega
    rw [Lib.count_hit hne h1, Lib.count_hit hne hii, Nat.add_comm 1, Nat.add_comm 1]
    rw [Lib.splitK, h1, Lib.splitK, hii]
    rw [if_neg (by simp <;> omega), if_neg (by simp)]
    simp only [Int.toNat_natCast, List.length_singleton, Nat.add_zero]
    show (x :: l.take i) :: _ = _
    rfl
theorem Ea (c : UInt8) : ∀ {s : Str} (t : Str), c ∉ s → Ac c (s ++ c :: t) = s :: Ac c t
 | [], t, _ => by rw [List.nil_append, Bw, if_pos rfl]
 | x :: s, t, h => by
  have hx : ¬ x = c := fun e => h (by simp [e])
  rw [List.cons_append, Bw, if_neg hx, Ea c t (fun e => h (by simp [e]))]
theorem G5 (c : UInt8) : ∀ {s : Str}, c ∉ s → Ac c s = [s]
 | [], _ => rfl
 | x :: s, h => by
  have hx : ¬ x = c := fun e => h (by simp [e])
  rw [Bw, if_neg hx, G5 c (fun e => h (by simp [e]))]
theorem F0 (c : UInt8) : ∀ (s : Str), ∀ p ∈ Ac c s, c ∉ p
 | [], p, h => by simp [Ac] at h; subst h; simp
 | x :: s, p, h => by
  rw [Bw] at h
  split at h
  ·rcases List.mem_cons.1 h with rfl | h
   ·simp
   ·exact F0 c s p h
  ·rename_i hx
   have ih := F0 c s
   cases hs : Ac c s with
   | nil => exact absurd hs (B7 c s)
   | cons a t =>
    rw [hs] at h ih
    rcases List.mem_cons.1 h with rfl | h
    ·intro e
     rcases List.mem_cons.1 e with e | e
     ·exact hx e.symm
     ·exact ih a (by simp) e
    ·exact ih p (by simp [h])
def GC (c : UInt8) : List Str → Str
 | [] => []
 | [s] => s
 | s :: t :: l => s ++ c :: GC c (t :: l)
theorem Do (c : UInt8) (s : Str) {l : List Str} (h : l ≠ []) : GC c (s :: l) = s ++ c :: GC c l := by
 cases l with
 | nil => exact absurd rfl h
 | cons t l => rfl
theorem Fp (c : UInt8) : ∀ s : Str, GC c (Ac c s) = s
 | [] => rfl
 | x :: s => by
  have ih := Fp c s
  rw [Bw]
  split
  ·rename_i e
   rw [Do c [] (B7 c s), ih, e]
   rfl
  ·cases hs : Ac c s with
   | nil => exact absurd hs (B7 c s)
   | cons a t =>
    rw [hs] at ih
    simp only
    cases t with
    | nil => rw [← ih]; rfl
    | cons b t => rw [← ih]; rfl
theorem Kb (c : UInt8) : ∀ {l : List Str}, l ≠ [] → (∀ s ∈ l, c ∉ s) → Ac c (GC c l) = l
 | [], h, _ => absurd rfl h
 | [s], _, h => G5 c (h s (by simp))
 | s :: t :: l, _, h => by
  rw [Do c s (by simp), Ea c _ (h s (by simp)), Kb c (by simp) (fun x hx => h x (by simp [hx]))]
def txt : List Str → Str
 | [] => []
 | s :: l => s ++ 10 :: txt l
theorem B3 : ∀ (a b : List Str), txt (a ++ b) = txt a ++ txt b
 | [], b => rfl
 | s :: a, b => by rw [List.cons_append, txt, txt, B3 a b]; simp
theorem Ll : ∀ {l : List Str}, (∀ s ∈ l, 10 ∉ s) → Ac 10 (txt l) = l ++ [[]]
 | [], _ => rfl
 | s :: l, h => by
  rw [txt, Ea 10 _ (h s (by simp)), Ll (fun x hx => h x (by simp [hx]))]
  rfl
theorem Lm : ∀ {l : List Str}, GC 10 (l ++ [[]]) = txt l
 | [] => rfl
 | s :: l => by
  rw [List.cons_append, Do 10 s (by simp), Lm, txt]
structure ScN where
 sh : Int
 room : Int
 cur : Int
 images : List Str
 clients : List (List OpN)
 picks : List Int
def ScN.zero : ScN := ⟨0, 0, 0, [], [], []⟩
abbrev FL : Str := [114, 111, 111, 109]
abbrev CX : Str := [105, 109, 97, 103, 101]
abbrev Aw : Str := [99, 108, 105, 101, 110, 116]
abbrev Cm : Str := [112, 105, 99, 107]
def numsL : List Int → Str
 | [] => []
 | n :: l => 32 :: (BT n ++ numsL l)
def BM (s : ScN) : List Str :=
 (FL ++ numsL [s.sh, s.room, s.cur]) :: (s.images.map (fun x => CX ++ 32 :: C4 x) ++ (s.clients.flatMap (fun ops => Aw :: ops.map Aj) ++ (if s.picks = [] then [] else [Cm ++ numsL s.picks])))
def HJ (s : ScN) : Bool := s.clients.all fun ops => ops.all CD
def C8 : List Str → Option (List Int)
 | [] => some []
 | w :: l => match numOf w with
  | some n => (C8 l).map (n :: ·)
  | none => none
structure RdS where
 sc : ScN
 part : Nat
def C1 (l : List (List OpN)) (o : OpN) : List (List OpN) := l.dropLast ++ [(l.getLast?.getD []) ++ [o]]
def CT (r : RdS) (s : Str) : Option RdS :=
 let l := Ac 32 s
 if r.part = 0 then
  match C8 l.tail with
  | some [a, b, c] => if l.head? = some FL then some ⟨{ r.sc with sh := a, room := b, cur := c }, 1⟩ else none
  | _ => none
 else if r.part < 3 ∧ l.head? = some CX ∧ l.length = 2 then (Ds ((l[1]?).getD [])).map fun x => ⟨{ r.sc with images := r.sc.images ++ [x] }, 2⟩
 else if r.part < 4 ∧ s = Aw then some ⟨{ r.sc with clients := r.sc.clients ++ [[]] }, 3⟩
 else if r.part < 4 ∧ l.head? = some Cm ∧ 1 < l.length then (C8 l.tail).map fun n => ⟨{ r.sc with picks := n }, 4⟩
 else match DS s with
  | some o => if r.part = 3 then some ⟨{ r.sc with clients := C1 r.sc.clients o }, 3⟩ else none
  | none => none
def B4 : RdS → List Str → Nat → RdS ⊕ Nat
 | r, [], _ => .inl r
 | r, s :: l, i => match CT r s with
  | some r' => B4 r' l (i + 1)
  | none => .inr i
def RdS.zero : RdS := ⟨ScN.zero, 0⟩
def Bs (text : Str) : ScN × Nat :=
 match B4 RdS.zero (Ac 10 text).dropLast 0 with
 | .inr i => (ScN.zero, i + 1)
 | .inl r => if (Ac 10 text).getLast? ≠ some [] ∨ r.part = 0 then (ScN.zero, (Ac 10 text).length) else (r.sc, 0)
def Bi (s : ScN) : Str := txt (BM s)
theorem GR : ∀ {l : List Str} {ns : List Int}, C8 l = some ns → l = ns.map BT ∧ ∀ n ∈ ns, Cj n
 | [], ns, h => by simp [C8] at h; subst h; simp
 | w :: l, ns, h => by
  rw [C8] at h
  cases hw : numOf w with
  | none => rw [hw] at h; cases h
  | some n =>
   rw [hw] at h
   simp only [Option.map_eq_some_iff] at h
   obtain ⟨q, hq, rfl⟩ := h
   obtain ⟨h1, h2⟩ := GR hq
   obtain ⟨h3, h4⟩ := Dq hw
   refine ⟨by rw [List.map_cons, ← h1, ← h3], fun x hx => ?_⟩
   rcases List.mem_cons.1 hx with rfl | hx
   ·exact h4
   ·exact h2 x hx
theorem Hd : ∀ {ns : List Int}, (∀ n ∈ ns, Cj n) → C8 (ns.map BT) = some ns
 | [], _ => rfl
 | n :: ns, h => by
  rw [List.map_cons, C8, ET (h n (by simp)), Hd (fun x hx => h x (by simp [hx]))]
  rfl
theorem Gy : ∀ (w : Str) (ns : List Int), GC 32 (w :: ns.map BT) = w ++ numsL ns
 | w, [] => by simp [GC, numsL]
 | w, n :: ns => by
  rw [List.map_cons, Do 32 w (by simp), Gy (BT n) ns, numsL]
theorem Kk (w : Str) (ns : List Int) (h : 32 ∉ w) : Ac 32 (w ++ numsL ns) = w :: ns.map BT := by
 rw [← Gy]
 refine Kb 32 (by simp) (fun s hs => ?_)
 rcases List.mem_cons.1 hs with rfl | hs
 ·exact h
 ·obtain ⟨n, _, rfl⟩ := List.mem_map.1 hs
  exact IH.1
theorem OC (ns : List Int) : 10 ∉ numsL ns := by
 induction ns with
 | nil => simp [numsL]
 | cons n ns ih => simp [numsL, ih, IH.2]
structure ScN.ok (s : ScN) : Prop where
 sh : Cj s.sh
 room : Cj s.room
 cur : Cj s.cur
 picks : ∀ n ∈ s.picks, Cj n
 ops : ∀ ops ∈ s.clients, ∀ o ∈ ops, o.ok
structure Ml (r : RdS) (ls : List Str) : Prop where
 zero : r.part = 0 → r = RdS.zero ∧ ls = []
 some : r.part ≠ 0 → BM r.sc = ls
 le : r.part ≤ 4
 may : HJ r.sc = true
 picks : r.part < 4 → r.sc.picks = []
 clients : r.part < 3 → r.sc.clients = []
 images : r.part < 2 → r.sc.images = []
 ne : r.part = 3 → r.sc.clients ≠ []
 ok : r.sc.ok
theorem Ml.start : Ml RdS.zero [] := ⟨fun _ => ⟨rfl, rfl⟩, fun h => absurd rfl h, Nat.zero_le _, rfl, fun _ => rfl, fun _ => rfl, fun _ => rfl, fun h => (by cases h), ⟨⟨by decide, by decide⟩, ⟨by decide, by decide⟩, ⟨by decide, by decide⟩, by simp [RdS.zero, ScN.zero], by simp [RdS.zero, ScN.zero]⟩⟩
theorem He {α : Type} {l : List α} (h : l ≠ []) : ∃ a, l.getLast? = Option.some a ∧ l = l.dropLast ++ [a] := by
 obtain ⟨q, a, rfl⟩ := (List.eq_nil_or_concat l).resolve_left h
 exact ⟨a, by simp, by simp⟩
theorem Ml.step {r r' : RdS} {ls : List Str} {s : Str} (h : Ml r ls) (hl : CT r s = Option.some r') : Ml r' (ls ++ [s]) ∧ r'.part ≠ 0 := by
 have hj := Fp 32 s
 have hne := B7 32 s
 obtain ⟨w, tl, hsp⟩ : ∃ w tl, Ac 32 s = w :: tl := by
  cases hs : Ac 32 s with
  | nil => exact absurd hs hne
  | cons w tl => exact ⟨w, tl, rfl⟩
 unfold CT at hl
 rw [hsp] at hl hj
 simp only [List.tail_cons] at hl
 split at hl
 ·rename_i h0
  obtain ⟨hr, hls⟩ := h.zero h0
  subst hr
  subst hls
  split at hl
  ·rename_i a b c hw
   split at hl
   ·rename_i hwr
    obtain rfl : w = FL := by simpa using hwr
    cases hl
    obtain ⟨k1, k2⟩ := GR hw
    rw [k1, Gy] at hj
    refine ⟨⟨fun e => (by cases e), fun _ => ?_, by simp, rfl, fun _ => rfl, fun _ => rfl, fun _ => rfl, fun e => (by cases e), ⟨k2 a (by simp), k2 b (by simp), k2 c (by simp), by simp [RdS.zero, ScN.zero], by simp [RdS.zero, ScN.zero]⟩⟩, by simp⟩
    simp [BM, RdS.zero, ScN.zero, hj]
   ·cases hl
  ·cases hl
 rename_i h0
 have hlines := h.some h0
 have hpart : r.part = 1 ∨ r.part = 2 ∨ r.part = 3 ∨ r.part = 4 := by have := h.le; omega
 split at hl
 ·rename_i hi
  obtain ⟨hp, hw, hlen⟩ := hi
  obtain rfl : w = CX := by simpa using hw
  rw [Option.map_eq_some_iff] at hl
  obtain ⟨x, hx, rfl⟩ := hl
  match tl, hlen with
  | [y], _ =>
   have hx2 : Ds y = Option.some x := hx
   have hy := Hi hx2
   have hcl := h.clients hp
   have hpk := h.picks (by omega)
   refine ⟨⟨fun e => (by cases e), fun _ => ?_, by simp, by simpa [HJ, hcl] using h.may, fun _ => hpk, fun _ => hcl, fun e => (by simp at e), fun e => (by cases e), ⟨h.ok.sh, h.ok.room, h.ok.cur, h.ok.picks, h.ok.ops⟩⟩, by simp⟩
   rw [← hlines, ← hj]
   simp [BM, hcl, hpk, GC, hy]
 split at hl
 ·rename_i hi
  obtain ⟨hp, hw⟩ := hi
  cases hl
  have hpk := h.picks hp
  refine ⟨⟨fun e => (by cases e), fun _ => ?_, by simp, by simpa [HJ] using h.may, fun _ => hpk, fun e => (by simp at e), fun e => (by simp at e), fun _ => by simp, ⟨h.ok.sh, h.ok.room, h.ok.cur, h.ok.picks, fun ops ho o hx => ?_⟩⟩, by simp⟩
  ·rw [← hlines, hw]
   simp [BM, hpk]
  ·rcases List.mem_append.1 ho with ho | ho
   ·exact h.ok.ops ops ho o hx
   ·rw [List.mem_singleton] at ho; subst ho; cases hx
 split at hl
 ·rename_i hi
  obtain ⟨hp, hw, hlen⟩ := hi
  obtain rfl : w = Cm := by simpa using hw
  rw [Option.map_eq_some_iff] at hl
  obtain ⟨ns, hx, rfl⟩ := hl
  obtain ⟨k1, k2⟩ := GR hx
  have hns : ns ≠ [] := fun e => by subst e; rw [k1] at hlen; simp at hlen
  have hpk := h.picks hp
  rw [k1, Gy] at hj
  refine ⟨⟨fun e => (by cases e), fun _ => ?_, by simp, h.may, fun e => (by simp at e), fun e => (by simp at e), fun e => (by simp at e), fun e => (by cases e), ⟨h.ok.sh, h.ok.room, h.ok.cur, k2, h.ok.ops⟩⟩, by simp⟩
  rw [← hlines, ← hj]
  simp [BM, hpk, hns]
 split at hl
 ·rename_i o ho
  split at hl
  ·rename_i h3
   cases hl
   obtain ⟨q1, q2, q3⟩ := OT ho
   have hpk := h.picks (by omega)
   have hcn := h.ne h3
   obtain ⟨a, ha1, ha2⟩ := He hcn
   have hadd : C1 r.sc.clients o = r.sc.clients.dropLast ++ [a ++ [o]] := by simp [C1, ha1]
   refine ⟨⟨fun e => (by cases e), fun _ => ?_, by simp, ?_, fun _ => hpk, fun e => (by simp at e), fun e => (by simp at e), fun _ => by rw [hadd]; simp, ⟨h.ok.sh, h.ok.room, h.ok.cur, h.ok.picks, fun ops hop x hx => ?_⟩⟩, by simp⟩
   ·rw [← hlines]
    have e1 : r.sc.clients.flatMap (fun ops => Aw :: ops.map Aj) = r.sc.clients.dropLast.flatMap (fun ops => Aw :: ops.map Aj) ++ (Aw :: a.map Aj) := by
     conv => lhs; rw [ha2]
     simp
    simp only [BM, hadd, hpk, if_true, List.append_nil, e1]
    simp [q2]
   ·have := h.may
    unfold HJ at this ⊢
    rw [ha2] at this
    simp only [hadd]
    simp at this ⊢
    exact ⟨this.1, this.2, q1⟩
   ·rw [hadd] at hop
    rcases List.mem_append.1 hop with hop | hop
    ·exact h.ok.ops ops (List.dropLast_subset _ hop) x hx
    ·rw [List.mem_singleton] at hop
     subst hop
     rcases List.mem_append.1 hx with hx | hx
     ·exact h.ok.ops a (by rw [ha2]; simp) x hx
     ·rw [List.mem_singleton] at hx; subst hx; exact q3
  ·cases hl
 ·cases hl
theorem DB : ∀ (a b : List Str) (r : RdS) (i : Nat), B4 r (a ++ b) i = match B4 r a i with | .inl r' => B4 r' b (i + a.length) | .inr k => .inr k
 | [], b, r, i => rfl
 | s :: a, b, r, i => by
  rw [List.cons_append, B4, B4]
  cases CT r s with
  | none => rfl
  | some r' =>
   simp only
   rw [DB a b r' (i + 1), List.length_cons, show i + (a.length + 1) = i + 1 + a.length by omega]
theorem Ki : ∀ {l : List Str} {r r' : RdS} {i : Nat} {ls : List Str}, Ml r ls → B4 r l i = .inl r' → Ml r' (ls ++ l) ∧ (l ≠ [] → r'.part ≠ 0)
 | [], r, r', i, ls, h, e => by cases e; exact ⟨by simpa using h, fun h => absurd rfl h⟩
 | s :: l, r, r', i, ls, h, e => by
  rw [B4] at e
  cases hl : CT r s with
  | none => rw [hl] at e; cases e
  | some r1 =>
   rw [hl] at e
   obtain ⟨h1, h2⟩ := h.step hl
   obtain ⟨h3, h4⟩ := Ki h1 e
   refine ⟨by simpa using h3, fun _ => ?_⟩
   by_cases c : l = []
   ·subst c; cases e; exact h2
   ·exact h4 c
theorem NR : ∀ {l : List Str} {r : RdS} {i k : Nat}, B4 r l i = .inr k → i ≤ k ∧ k < i + l.length ∧ (∃ r1, B4 r (l.take (k - i)) i = .inl r1) ∧ B4 r (l.take (k - i + 1)) i = .inr k
 | [], r, i, k, e => by cases e
 | s :: l, r, i, k, e => by
  rw [B4] at e
  cases hl : CT r s with
  | none =>
   rw [hl] at e
   cases e
   refine ⟨Nat.le_refl _, by simp, ⟨r, by simp [B4]⟩, by simp [B4, hl]⟩
  | some r1 =>
   rw [hl] at e
   obtain ⟨h1, h2, ⟨r2, h3⟩, h4⟩ := NR e
   have e1 : k - i = (k - (i + 1)) + 1 := by omega
   refine ⟨by omega, by simp; omega, ⟨r2, ?_⟩, ?_⟩
   ·rw [e1, List.take_succ_cons, B4, hl]; exact h3
   ·rw [e1, List.take_succ_cons, B4, hl]; exact h4
theorem NW {l : List Str} (h : l ≠ []) : GC 10 l ++ [10] = txt l := by
 induction l with
 | nil => exact absurd rfl h
 | cons s l ih =>
  by_cases c : l = []
  ·subst c; simp [GC, txt]
  ·rw [Do 10 s c, txt, ← ih c]
   simp
theorem G6 {ls : List Str} (h : ∀ s ∈ ls, 10 ∉ s) : Bs (txt ls) = match B4 RdS.zero ls 0 with | .inr i => (ScN.zero, i + 1) | .inl r => if r.part = 0 then (ScN.zero, ls.length + 1) else (r.sc, 0) := by
 unfold Bs
 rw [Ll h]
 have e1 : (ls ++ [[]]).dropLast = ls := by simp
 have e2 : (ls ++ [([] : Str)]).getLast? = some [] := by simp
 have e3 : (ls ++ [([] : Str)]).length = ls.length + 1 := by simp
 rw [e1, e2, e3]
 cases B4 RdS.zero ls 0 with
 | inr i => rfl
 | inl r => simp
theorem No {text : Str} {s : ScN} (h : Bs text = (s, 0)) : HJ s = true ∧ Bi s = text ∧ s.ok := by
 unfold Bs at h
 have hm := F0 10 text
 have hj := Fp 10 text
 obtain ⟨a, ha, hs⟩ := He (B7 10 text)
 cases hr : B4 RdS.zero (Ac 10 text).dropLast 0 with
 | inr i => rw [hr] at h; cases h
 | inl r =>
  rw [hr] at h
  simp only at h
  split at h
  ·have := B7 10 text
   obtain ⟨_, h2⟩ := Prod.mk.inj h
   exact absurd (List.eq_nil_of_length_eq_zero h2) this
  ·rename_i c
   cases h
   have c1 : a = [] := by
    rw [ha] at c
    by_cases e : a = []
    ·exact e
    ·exact absurd (.inl (by simpa using e)) c
   have c2 : r.part ≠ 0 := fun e => c (.inr e)
   obtain ⟨h1, _⟩ := Ki Ml.start hr
   refine ⟨h1.may, ?_, h1.ok⟩
   rw [Bi, h1.some c2, List.nil_append, ← Lm, ← c1, ← hs, hj]
theorem Pt {text : Str} {s : ScN} {k : Nat} (h : Bs text = (s, k)) (hk : k ≠ 0) : s = ScN.zero ∧ k ≤ (Ac 10 text).length ∧
  (k ≠ 1 → ∃ x, Bs (txt ((Ac 10 text).take (k - 1))) = (x, 0) ∧ Bi x = txt ((Ac 10 text).take (k - 1))) ∧ (k = (Ac 10 text).length ∨ (Bs (txt ((Ac 10 text).take k))).2 = k) := by
 have hm := F0 10 text
 have hlen : (Ac 10 text).dropLast.length + 1 = (Ac 10 text).length := by
  have := List.length_pos_iff.2 (B7 10 text)
  simp; omega
 have htk : ∀ j, j ≤ (Ac 10 text).dropLast.length → (Ac 10 text).take j = (Ac 10 text).dropLast.take j := fun j hj => by
  rw [List.dropLast_eq_take, List.take_take, Nat.min_eq_left (by simp at hj; omega)]
 have hmt : ∀ j, ∀ x ∈ (Ac 10 text).take j, 10 ∉ x := fun j x hx => hm x (List.mem_of_mem_take hx)
 have ahead : ∀ j, 0 < j → j ≤ (Ac 10 text).dropLast.length → (∃ r1, B4 RdS.zero ((Ac 10 text).dropLast.take j) 0 = .inl r1) → ∃ x, Bs (txt ((Ac 10 text).take j)) = (x, 0) ∧ Bi x = txt ((Ac 10 text).take j) := by
  rintro j hj0 hj ⟨r1, hr1⟩
  rw [G6 (hmt j), htk j hj, hr1]
  obtain ⟨h1, h2⟩ := Ki Ml.start hr1
  have hne : (Ac 10 text).dropLast.take j ≠ [] := fun e => by
   have := congrArg List.length e
   rw [List.length_take] at this
   simp only [List.length_nil] at this
   omega
  have hp := h2 hne
  refine ⟨r1.sc, by simp [hp], ?_⟩
  rw [Bi, h1.some hp, List.nil_append]
 unfold Bs at h
 cases hr : B4 RdS.zero (Ac 10 text).dropLast 0 with
 | inr i =>
  rw [hr] at h
  cases h
  obtain ⟨h1, h2, h3, h4⟩ := NR hr
  simp only [Nat.sub_zero, Nat.zero_add] at h2 h3 h4
  refine ⟨rfl, by omega, fun h => ?_, .inr ?_⟩
  ·rw [Nat.add_sub_cancel]
   exact ahead i (by omega) (by omega) h3
  ·rw [G6 (hmt _), htk _ (by omega), h4]
 | inl r =>
  rw [hr] at h
  simp only at h
  split at h
  ·cases h
   refine ⟨rfl, Nat.le_refl _, fun h => ?_, .inl rfl⟩
   rw [← hlen, Nat.add_sub_cancel] at *
   refine ahead _ (by omega) (Nat.le_refl _) ⟨r, by rw [List.take_length]; exact hr⟩
  ·cases h; exact absurd rfl hk
theorem Lw {a b c : Int} (ha : Cj a) (hb : Cj b) (hc : Cj c) : CT RdS.zero (FL ++ numsL [a, b, c]) = some ⟨⟨a, b, c, [], [], []⟩, 1⟩ := by
 have hw := Hd (ns := [a, b, c]) (by
  intro n hn
  simp at hn
  rcases hn with rfl | rfl | rfl <;> assumption)
 unfold CT
 rw [Kk FL _ (by decide)]
 simp only [RdS.zero, if_true, List.tail_cons, hw, List.head?_cons]
 rfl
theorem OK {r : RdS} (hp : r.part = 1 ∨ r.part = 2) (x : Str) : CT r (CX ++ 32 :: C4 x) = some ⟨{ r.sc with images := r.sc.images ++ [x] }, 2⟩ := by
 unfold CT
 have hs : Ac 32 (CX ++ 32 :: C4 x) = [CX, C4 x] := by rw [Ea 32 _ (by decide), G5 32 (Jy x).1]
 rw [hs]
 simp only
 rw [if_neg (by omega), if_pos (by exact ⟨by omega, by simp, by simp⟩)]
 simp [Li]
theorem I7 {r : RdS} (hp : r.part ≠ 0 ∧ r.part < 4) : CT r Aw = some ⟨{ r.sc with clients := r.sc.clients ++ [[]] }, 3⟩ := by
 unfold CT
 have hs : Ac 32 Aw = [Aw] := G5 32 (by decide)
 rw [hs]
 simp only
 rw [if_neg hp.1, if_neg (by simp), if_pos (by exact ⟨hp.2, by simp⟩)]
theorem R4 {r : RdS} (hp : r.part = 3) {o : OpN} (ho : CD o = true) (hok : o.ok) : CT r (Aj o) = some ⟨{ r.sc with clients := C1 r.sc.clients o }, 3⟩ := by
 have hpt := Kl ho hok
 have hk : 1 ≤ o.kind ∧ o.kind ≤ 9 := by
  unfold CD at ho
  simp only [Bool.and_eq_true] at ho
  have h2 := ho.2
  repeat' split at h2
  all_goals first | omega | cases h2
 obtain ⟨rest, hrest⟩ : ∃ rest, Aj o = A7 o.kind ++ 32 :: rest := by
  unfold Aj
  rw [if_neg (by omega)]
  exact ⟨_, rfl⟩
 have hs : Ac 32 (Aj o) = A7 o.kind :: Ac 32 rest := by rw [hrest, Ea 32 _ (Ic _).1]
 have hnc : Aj o ≠ Aw := fun e => by
  have : (32 : UInt8) ∈ Aw := by rw [← e, hrest]; simp
  revert this; decide
 have hnp : A7 o.kind ≠ Cm := by
  have : o.kind = 1 ∨ o.kind = 2 ∨ o.kind = 3 ∨ o.kind = 4 ∨ o.kind = 5 ∨ o.kind = 6 ∨ o.kind = 7 ∨ o.kind = 8 ∨ o.kind = 9 := by omega
  rcases this with h | h | h | h | h | h | h | h | h <;> rw [h] <;> decide
 unfold CT
 rw [hs]
 simp only
 rw [if_neg (by omega), if_neg (by omega), if_neg (fun h => hnc h.2), if_neg (by rintro ⟨_, h, _⟩; exact hnp (by simpa using h)), hpt]
 simp only
 rw [if_pos hp]
theorem Pu {r : RdS} (hp : r.part ≠ 0 ∧ r.part < 4) {ns : List Int} (hn : ns ≠ []) (hi : ∀ n ∈ ns, Cj n) : CT r (Cm ++ numsL ns) = some ⟨{ r.sc with picks := ns }, 4⟩ := by
 unfold CT
 rw [Kk Cm ns (by decide)]
 simp only
 have hlen : 1 < (Cm :: ns.map BT).length := by
  have := List.length_pos_iff.2 hn
  simp; omega
 have hnc : Cm ++ numsL ns ≠ Aw := fun e => by
  have := congrArg List.head? e
  revert this
  simp
 rw [if_neg hp.1, if_neg (by simp), if_neg (fun h => hnc h.2), if_pos ⟨hp.2, rfl, hlen⟩]
 simp [Hd hi]
theorem Jz : ∀ (xs : List Str) (r : RdS) (i : Nat), r.part = 1 ∨ r.part = 2 → ∃ p, (p = 1 ∨ p = 2) ∧ B4 r (xs.map fun x => CX ++ 32 :: C4 x) i = .inl ⟨{ r.sc with images := r.sc.images ++ xs }, p⟩
 | [], r, i, hp => ⟨r.part, hp, by simp [B4]⟩
 | x :: xs, r, i, hp => by
  obtain ⟨p, h1, h2⟩ := Jz xs ⟨{ r.sc with images := r.sc.images ++ [x] }, 2⟩ (i + 1) (.inr rfl)
  refine ⟨p, h1, ?_⟩
  rw [List.map_cons, B4, OK hp]
  simp only
  rw [h2]
  simp
theorem Ox : ∀ (os : List OpN) (r : RdS) (i : Nat) (C : List (List OpN)) (a : List OpN), r.part = 3 → r.sc.clients = C ++ [a] → (∀ o ∈ os, CD o = true ∧ o.ok) → B4 r (os.map Aj) i = .inl ⟨{ r.sc with clients := C ++ [a ++ os] }, 3⟩
 | [], r, i, C, a, hp, hc, _ => by
  obtain ⟨sc, part⟩ := r
  simp only at hp hc
  subst hp
  simp only [List.map_nil, B4, List.append_nil, ← hc]
 | o :: os, r, i, C, a, hp, hc, h => by
  obtain ⟨h1, h2⟩ := h o (by simp)
  rw [List.map_cons, B4, R4 hp h1 h2]
  simp only
  have hadd : C1 r.sc.clients o = C ++ [a ++ [o]] := by simp [C1, hc]
  rw [Ox os _ (i + 1) C (a ++ [o]) rfl (by simp only; exact hadd) (fun x hx => h x (by simp [hx]))]
  simp
theorem JS : ∀ (cs : List (List OpN)) (r : RdS) (i : Nat), r.part ≠ 0 ∧ r.part < 4 → (∀ os ∈ cs, ∀ o ∈ os, CD o = true ∧ o.ok) → ∃ p, (p ≠ 0 ∧ p < 4) ∧ B4 r (cs.flatMap fun ops => Aw :: ops.map Aj) i = .inl ⟨{ r.sc with clients := r.sc.clients ++ cs }, p⟩
 | [], r, i, hp, _ => ⟨r.part, hp, by simp [B4]⟩
 | os :: cs, r, i, hp, h => by
  have h1 := Ox os ⟨{ r.sc with clients := r.sc.clients ++ [[]] }, 3⟩ (i + 1) r.sc.clients [] rfl rfl (h os (by simp))
  obtain ⟨p, h2, h3⟩ := JS cs ⟨{ r.sc with clients := r.sc.clients ++ [[] ++ os] }, 3⟩ (i + 1 + (os.map Aj).length) ⟨by simp, by simp⟩ (fun x hx => h x (by simp [hx]))
  refine ⟨p, h2, ?_⟩
  rw [List.flatMap_cons, List.cons_append, B4, I7 hp]
  simp only
  rw [DB, h1]
  simp only
  rw [h3]
  simp
theorem Qa {s : ScN} (hm : HJ s = true) : ∀ x ∈ BM s, 10 ∉ x := by
 intro x hx
 unfold BM at hx
 rcases List.mem_cons.1 hx with rfl | hx
 ·intro h
  rcases List.mem_append.1 h with h | h
  ·revert h; decide
  ·exact OC _ h
 rcases List.mem_append.1 hx with hx | hx
 ·obtain ⟨y, _, rfl⟩ := List.mem_map.1 hx
  intro h
  rcases List.mem_append.1 h with h | h
  ·revert h; decide
  ·rcases List.mem_cons.1 h with h | h
   ·cases h
   ·exact (Jy y).2 h
 rcases List.mem_append.1 hx with hx | hx
 ·obtain ⟨ops, ho, hx⟩ := List.mem_flatMap.1 hx
  rcases List.mem_cons.1 hx with rfl | hx
  ·decide
  ·obtain ⟨o, hoo, rfl⟩ := List.mem_map.1 hx
   have h1 : CD o = true := by
    unfold HJ at hm
    exact List.all_eq_true.1 (List.all_eq_true.1 hm ops ho) o hoo
   intro h
   unfold Aj at h
   split at h
   ·cases h
   have hp : 10 ∉ o.path := by
    unfold CD at h1
    simp only [Bool.and_eq_true, decide_eq_true_eq] at h1
    exact h1.1
   rcases List.mem_append.1 h with h | h
   ·exact (Ic _).2 h
   rcases List.mem_cons.1 h with h | h
   ·cases h
   have n2 := fun n => (IH (n := n)).2
   repeat' split at h
   ·simp [n2, hp] at h
   ·simp [n2] at h
   ·exact n2 _ h
   ·exact (Jy _).2 h
   ·exact hp h
 ·split at hx
  ·cases hx
  ·rw [List.mem_singleton] at hx
   subst hx
   intro h
   rcases List.mem_append.1 h with h | h
   ·revert h; decide
   ·exact OC _ h
theorem JE {s : ScN} (hm : HJ s = true) (hok : s.ok) : Bs (Bi s) = (s, 0) := by
 rw [Bi, G6 (Qa hm)]
 have hops : ∀ os ∈ s.clients, ∀ o ∈ os, CD o = true ∧ o.ok := fun os h o h2 => by
  unfold HJ at hm
  exact ⟨List.all_eq_true.1 (List.all_eq_true.1 hm os h) o h2, hok.ops os h o h2⟩
 have : ∃ p, p ≠ 0 ∧ B4 RdS.zero (BM s) 0 = .inl ⟨s, p⟩ := by
  rw [BM, B4, Lw hok.sh hok.room hok.cur]
  simp only
  obtain ⟨p1, a1, a2⟩ := Jz s.images ⟨⟨s.sh, s.room, s.cur, [], [], []⟩, 1⟩ (0 + 1) (.inl rfl)
  rw [DB, a2]
  simp only
  obtain ⟨p2, b1, b2⟩ := JS s.clients ⟨⟨s.sh, s.room, s.cur, [] ++ s.images, [], []⟩, p1⟩ (0 + 1 + (s.images.map fun x => CX ++ 32 :: C4 x).length) (by simp only; omega) hops
  rw [DB, b2]
  simp only
  by_cases c : s.picks = []
  ·rw [if_pos c]
   refine ⟨p2, b1.1, ?_⟩
   simp only [B4, List.nil_append]
   rw [← c]
  ·rw [if_neg c, B4, Pu (by simp only; exact b1) c hok.picks]
   exact ⟨4, by simp, by simp [B4]⟩
 obtain ⟨p, h1, h2⟩ := this
 rw [h2]
 simp [h1]
end Go.Av
