/- Parts of the proofs of this seat: abstract values over the model, and what the functions of the program do. No condition. -/
import Derived.Test.YtdjfhghokfiieaaGreatDoorY05
import Derived.Test.YtdjfhghokfiieaaGreatDoorX03
import Derived.Test.YtdjfhghokfiieaaGreatDoorX04
set_option linter.all false
namespace Go.Av
theorem p1 : (256 : Nat) ^ 1 = 256 := rfl
theorem p2 : (256 : Nat) ^ 2 = 65536 := rfl
theorem p4 : (256 : Nat) ^ 4 = 4294967296 := rfl
theorem RS.exts_succ {c : Nat} {st r1 r2 : RS} {a : Nat} {b : Str} (hb : st.bad = false) (h1 : st.num 4 = (a, r1)) (h2 : r1.text 4 = (b, r2)) : RS.exts (c + 1) st = (⟨a, b⟩ :: (RS.exts c r2).1, (RS.exts c r2).2) := by
 rw [RS.exts, if_neg (by rw [hb]; exact Bool.false_ne_true)]
 simp only [h1, h2]
theorem RS.num_enc {n k : Nat} (h : n < 256 ^ k) (r : Str) (left : Int) : RS.num k ⟨be n k ++ r, false, left⟩ = (n, ⟨r, false, left⟩) := by
 unfold RS.num
 simp only
 rw [Dw h]
theorem RS.text_enc {k : Nat} {t : Str} (h : t.length < 256 ^ k) (r : Str) (left : Int) : RS.text k ⟨Ep k t ++ r, false, left⟩ = (t, ⟨r, false, left⟩) := by
 unfold RS.text
 simp only
 rw [J8 h]
theorem Ki (x : Ext) (l : List Ext) (r : Str) : EM (x :: l) ++ r = be x.off.toNat 4 ++ (Ep 4 x.data ++ (EM l ++ r)) := by simp [EM, Xc, List.append_assoc]
theorem RS.exts_enc (left : Int) (rest : Str) : ∀ l : List Ext, (∀ x ∈ l, 0 ≤ x.off ∧ x.off + x.data.length ≤ 1048576) → RS.exts l.length ⟨EM l ++ rest, false, left⟩ = (l, ⟨rest, false, left⟩)
 | [], _ => by rw [List.length_nil, RS.exts]; rfl
 | x :: l, h => by
  have h1 := RS.exts_enc left rest l fun y hy => h y (by simp [hy])
  have h2 := h x (by simp)
  have k1 : x.off.toNat < 256 ^ 4 := by rw [p4]; omega
  have k2 : x.data.length < 256 ^ 4 := by rw [p4]; omega
  have h3 : ((x.off.toNat : Nat) : Int) = x.off := by omega
  rw [List.length_cons, Ki, RS.exts_succ rfl (RS.num_enc k1 _ left) (RS.text_enc k2 _ left), h1, h3]
theorem J3 {s : Str} (h : FN s = true) : s.length ≤ 64 := by
 simp [FN] at h
 omega
theorem GM {n : Node} (h : JC n = true) : Cg n = true ∧ CK n = true := by simpa [JC] using h
theorem RS.items_succ {rd : RS → Node × RS} {c : Nat} {st r1 r2 : RS} {a : Str} {b : Node} (hb : st.bad = false) (h1 : st.text 1 = (a, r1)) (h2 : rd r1 = (b, r2)) :
  RS.items rd (c + 1) st = (a :: (RS.items rd c r2).1, b :: (RS.items rd c r2).2.1, (RS.items rd c r2).2.2) := by
 rw [RS.items, if_neg (by rw [hb]; exact Bool.false_ne_true)]
 simp only [h1, h2]
theorem O9 (n : Node) (l : List Node) (s : Str) (ss : List Str) (r : Str) : Node.encs (n :: l) (s :: ss) ++ r = Ep 1 s ++ (n.enc ++ (Node.encs l ss ++ r)) := by simp [List.append_assoc]
theorem RS.items_enc {f : Nat} (rest : Str) : ∀ (l : List Node) (ss : List Str) (left : Int), l.length = ss.length → (∀ s ∈ ss, s.length ≤ 255) → (Node.counts l : Int) ≤ left →
  (∀ n ∈ l, ∀ (rest : Str) (left : Int), (n.count : Int) ≤ left → ∃ n', RS.node f ⟨n.enc ++ rest, false, left⟩ = (n', ⟨rest, false, left - n.count⟩) ∧ n'.sameB n = true) →
  ∃ l', RS.items (RS.node f) l.length ⟨Node.encs l ss ++ rest, false, left⟩ = (ss, l', ⟨rest, false, left - Node.counts l⟩) ∧ Node.samesB l' l = true
 | [], [], left, _, _, _, _ => ⟨[], by rw [List.length_nil, RS.items, Node.encs_nil, Node.counts]; simp, by simp⟩
 | n :: l, s :: ss, left, h1, h2, h3, h4 => by
  rw [Node.counts] at h3
  have k1 : s.length < 256 ^ 1 := by have := h2 s (by simp); rw [p1]; omega
  obtain ⟨n', e2, e3⟩ := h4 n (by simp) (Node.encs l ss ++ rest) left (by omega)
  obtain ⟨l', e4, e5⟩ := RS.items_enc rest l ss (left - n.count) (by simpa using h1) (fun y hy => h2 y (by simp [hy])) (by omega) (fun y hy => h4 y (by simp [hy]))
  refine ⟨n' :: l', ?_, by rw [Node.sames_cons, e3, e5]; rfl⟩
  have e6 : left - (n.count : Int) - (Node.counts l : Int) = left - ((n.count + Node.counts l : Nat) : Int) := by omega
  rw [List.length_cons, O9, RS.items_succ rfl (RS.text_enc k1 _ left) e2, e4, Node.counts, e6]
theorem UU {l m : List Node} (h : Node.samesB l m = true) : l.length = m.length := by
 by_cases c : l.length = m.length
 ·exact c
 ·rw [Node.sames_len _ _ c] at h; cases h
theorem RS.node_succ {f : Nat} {s r : Str} {left : Int} {k : Nat} (hl : 0 ≤ left - 1) (h : RS.num 1 ⟨s, false, left - 1⟩ = (k, ⟨r, false, left - 1⟩)) : RS.node (f + 1) ⟨s, false, left⟩ =
   if k = 1 then
    let b := RS.num 4 ⟨r, false, left - 1⟩
    let c := b.2.num 4
    let e := RS.exts c.1 c.2
    (.mk 1 false ⟨[], .nil⟩ [] .nil b.1 e.1 (cr e.1) [], e.2)
   else if k = 2 then
    let b := RS.num 1 ⟨r, false, left - 1⟩
    let c := RS.num 2 { b.2 with bad := b.2.bad || decide (1 < b.1) }
    let e := RS.items (RS.node f) c.1 c.2
    (.mk 2 (decide (b.1 = 1)) ⟨e.1, cr e.1⟩ e.2.1 (cr e.2.1) 0 [] .nil [], e.2.2)
   else if k = 3 then
    let b := RS.text 2 ⟨r, false, left - 1⟩
    (.mk 3 false ⟨[], .nil⟩ [] .nil 0 [] .nil b.1, b.2)
   else (.mk k false ⟨[], .nil⟩ [] .nil 0 [] .nil [], ⟨r, false, left - 1⟩) := by
 rw [RS.node]
 simp only
 rw [if_neg (by simp; omega), h]
@[simp] theorem Node.kind_mk {k : Int} {o : Bool} {ns : Ss} {its : List Node} {ir : Rt} {sz : Int} {es : List Ext} {er : Rt} {t : Str} : (Node.mk k o ns its ir sz es er t).kind = k := rfl
@[simp] theorem Node.opq_mk {k : Int} {o : Bool} {ns : Ss} {its : List Node} {ir : Rt} {sz : Int} {es : List Ext} {er : Rt} {t : Str} : (Node.mk k o ns its ir sz es er t).opq = o := rfl
@[simp] theorem Node.names_mk {k : Int} {o : Bool} {ns : Ss} {its : List Node} {ir : Rt} {sz : Int} {es : List Ext} {er : Rt} {t : Str} : (Node.mk k o ns its ir sz es er t).names = ns := rfl
@[simp] theorem Node.items_mk {k : Int} {o : Bool} {ns : Ss} {its : List Node} {ir : Rt} {sz : Int} {es : List Ext} {er : Rt} {t : Str} : (Node.mk k o ns its ir sz es er t).items = its := rfl
@[simp] theorem Node.ir_mk {k : Int} {o : Bool} {ns : Ss} {its : List Node} {ir : Rt} {sz : Int} {es : List Ext} {er : Rt} {t : Str} : (Node.mk k o ns its ir sz es er t).ir = ir := rfl
@[simp] theorem Node.size_mk {k : Int} {o : Bool} {ns : Ss} {its : List Node} {ir : Rt} {sz : Int} {es : List Ext} {er : Rt} {t : Str} : (Node.mk k o ns its ir sz es er t).size = sz := rfl
@[simp] theorem Node.exts_mk {k : Int} {o : Bool} {ns : Ss} {its : List Node} {ir : Rt} {sz : Int} {es : List Ext} {er : Rt} {t : Str} : (Node.mk k o ns its ir sz es er t).exts = es := rfl
@[simp] theorem Node.er_mk {k : Int} {o : Bool} {ns : Ss} {its : List Node} {ir : Rt} {sz : Int} {es : List Ext} {er : Rt} {t : Str} : (Node.mk k o ns its ir sz es er t).er = er := rfl
@[simp] theorem Node.target_mk {k : Int} {o : Bool} {ns : Ss} {its : List Node} {ir : Rt} {sz : Int} {es : List Ext} {er : Rt} {t : Str} : (Node.mk k o ns its ir sz es er t).target = t := rfl
theorem Qk {n : Node} {b : Int} (k : n.kind = 1) (hz : Cg n = true) (hb : b = n.size) : (Node.mk 1 false ⟨[], .nil⟩ [] .nil b n.exts (cr n.exts) []).sameB n = true := by
 simp [Cg, k] at hz
 obtain ⟨⟨⟨z1, z2⟩, z3⟩, z4⟩ := hz
 rw [Node.same_eq]
 simp [k, z1, z2, z3, z4, hb]
theorem QY {n : Node} (k : n.kind = 3) (hz : Cg n = true) : (Node.mk 3 false ⟨[], .nil⟩ [] .nil 0 [] .nil n.target).sameB n = true := by
 simp [Cg, k] at hz
 obtain ⟨⟨⟨z1, z2⟩, z3⟩, z4⟩ := hz
 rw [Node.same_eq]
 simp [k, z1, z2, z3, z4]
theorem OG {n : Node} (k : n.kind = 4) (hz : Cg n = true) : (Node.mk 4 false ⟨[], .nil⟩ [] .nil 0 [] .nil []).sameB n = true := by
 simp [Cg, k] at hz
 obtain ⟨⟨⟨⟨z1, z2⟩, z3⟩, z4⟩, z5⟩ := hz
 rw [Node.same_eq]
 simp [k, z1, z2, z3, z4, z5]
theorem Tc {n : Node} {l' : List Node} {r1 r2 : Rt} (k : n.kind = 2) (hz : Cg n = true) (h : Node.samesB l' n.items = true) : (Node.mk 2 n.opq ⟨n.names.l, r1⟩ l' r2 0 [] .nil []).sameB n = true := by
 simp [Cg, k] at hz
 obtain ⟨⟨z1, z2⟩, z3⟩ := hz
 rw [Node.same_eq]
 simp [k, z1, z2, z3, h]
theorem RS.node_enc (n : Node) : ∀ (f : Nat) (rest : Str) (left : Int), n.ok → n.allB = true → n.count ≤ 4096 → n.depth < f → (n.count : Int) ≤ left →
  ∃ n', RS.node f ⟨n.enc ++ rest, false, left⟩ = (n', ⟨rest, false, left - n.count⟩) ∧ n'.sameB n = true := by
 induction n using Node.ind with
 | h n ih =>
  intro f rest left hok hall hcnt hd hl
  rw [Node.all_eq] at hall
  simp only [Bool.and_eq_true] at hall
  obtain ⟨ha, ho⟩ := hall
  obtain ⟨hz, hk⟩ := GM ho
  have hce := Node.count_eq n
  rw [Node.depth_eq] at hd
  have hok2 := hok
  rw [Node.ok_iff] at hok2
  obtain ⟨h1, h2, h3, h4, h5, h6, h7⟩ := hok2
  obtain ⟨g, rfl⟩ : ∃ g, f = g + 1 := ⟨f - 1, by omega⟩
  have hkind : n.kind = 1 ∨ n.kind = 2 ∨ n.kind = 3 ∨ n.kind = 4 := by
   by_cases c1 : n.kind = 1
   ·exact .inl c1
   by_cases c2 : n.kind = 2
   ·exact .inr (.inl c2)
   by_cases c3 : n.kind = 3
   ·exact .inr (.inr (.inl c3))
   by_cases c4 : n.kind = 4
   ·exact .inr (.inr (.inr c4))
   simp [CK, c1, c2, c3, c4] at hk
  have hitems : n.kind ≠ 2 → n.items = [] := fun h => JJ hz h
  have hleft : n.kind ≠ 2 → left - 1 = left - (n.count : Int) := fun h => by rw [hce, hitems h, Node.counts]; omega
  rcases hkind with k | k | k | k
  ·have hk' := hk
   simp [CK, k] at hk'
   obtain ⟨b1, b2, b3⟩ := N8 hk'
   have hs : ((n.size.toNat : Nat) : Int) = n.size := by omega
   have q1 : n.size.toNat < 256 ^ 4 := by rw [p4]; omega
   have q2 : n.exts.length < 256 ^ 4 := by rw [p4]; have := h6.2.1; omega
   rw [Node.enc_file k, List.append_assoc, RS.node_succ (by omega) (RS.num_enc (by rw [p1]; omega) _ _), if_pos rfl]
   simp only
   rw [List.append_assoc, RS.num_enc q1]
   simp only
   rw [List.append_assoc, RS.num_enc q2]
   simp only
   rw [RS.exts_enc _ _ _ b3, hleft (by omega)]
   exact ⟨_, rfl, Qk k hz hs⟩
  ·have hk' := hk
   simp only [CK, k] at hk'
   have hn : Dd n = true := by simpa using hk'
   obtain ⟨c1, c2⟩ := Gw hn
   obtain ⟨_, _, c3⟩ := Hw _ _ c1
   have hni : n.names.l.length ≤ 4096 := by
    have : ∀ l : List Node, l.length ≤ Node.counts l := by
     intro l
     induction l with
     | nil => simp
     | cons x l ih => rw [Node.counts, Node.count_eq, List.length_cons]; omega
    have := this n.items
    omega
   have q1 : (if n.opq = true then 1 else 0) < 256 ^ 1 := by rw [p1]; split <;> omega
   have q2 : n.names.l.length < 256 ^ 2 := by rw [p2]; omega
   have hall : ∀ l : List Node, Node.allsB l = true → ∀ x ∈ l, x.allB = true := by
    intro l
    induction l with
    | nil => simp
    | cons x l ih =>
     intro h y hy
     rw [Node.allsB] at h
     simp only [Bool.and_eq_true] at h
     rcases List.mem_cons.1 hy with rfl | hy
     ·exact h.1
     ·exact ih h.2 y hy
   have hcm : ∀ x ∈ n.items, x.count ≤ Node.counts n.items ∧ x.depth + 1 ≤ Node.depths n.items := by
    have : ∀ l : List Node, ∀ x ∈ l, x.count ≤ Node.counts l ∧ x.depth + 1 ≤ Node.depths l := by
     intro l
     induction l with
     | nil => simp
     | cons x l ih =>
      intro y hy
      rw [Node.counts, Node.depths]
      rcases List.mem_cons.1 hy with rfl | hy
      ·omega
      ·have := ih y hy; omega
    exact this n.items
   obtain ⟨l', e1, e2⟩ := RS.items_enc (f := g) rest n.items n.names.l (left - 1) c2.symm (fun s hs => by have := J3 (c3 s hs); omega) (by omega) (fun x hx r lf hlf =>
    ih x hx g r lf (h4 x hx) (hall _ ha x hx) (by have := hcm x hx; omega) (by have := hcm x hx; omega) hlf)
   have hopq : decide ((if n.opq = true then 1 else 0) = 1) = n.opq := by cases n.opq <;> rfl
   have hnb : (false || decide (1 < (if n.opq = true then 1 else 0))) = false := by cases n.opq <;> rfl
   rw [Node.enc_dir k, List.append_assoc, RS.node_succ (by omega) (RS.num_enc (by rw [p1]; omega) _ _), if_neg (by omega), if_pos rfl]
   simp only
   rw [List.append_assoc, RS.num_enc q1]
   simp only
   rw [hnb, List.append_assoc, RS.num_enc q2]
   simp only
   rw [c2, e1, hopq, hce]
   have e6 : left - 1 - (Node.counts n.items : Int) = left - ((1 + Node.counts n.items : Nat) : Int) := by omega
   rw [e6]
   exact ⟨_, rfl, Tc k hz e2⟩
  ·have q1 : n.target.length < 256 ^ 2 := by
    have hk' := hk
    simp only [CK, k] at hk'
    simp at hk'
    rw [p2]; omega
   rw [Node.enc_link k, List.append_assoc, RS.node_succ (by omega) (RS.num_enc (by rw [p1]; omega) _ _), if_neg (by omega), if_neg (by omega), if_pos rfl]
   simp only
   rw [RS.text_enc q1, hleft (by omega)]
   exact ⟨_, rfl, QY k hz⟩
  ·rw [Node.enc_other (by omega) (by omega) (by omega), RS.node_succ (by omega) (RS.num_enc (by rw [p1]; omega) _ _), if_neg (by omega), if_neg (by omega), if_neg (by omega), hleft (by omega)]
   refine ⟨_, rfl, ?_⟩
   have : ((n.kind.toNat : Nat) : Int) = 4 := by omega
   rw [this]
   exact OG k hz
def I2 : Nat → Str → Option (List Ext × Str)
 | 0, s => some ([], s)
 | c + 1, s => (takeN 4 s).bind fun a => (Gy 4 a.2).bind fun b => (I2 c b.2).bind fun r => some (⟨a.1, b.1⟩ :: r.1, r.2)
def Hh (rd : Str → Option (Node × Str)) : Nat → Str → Option (List Str × List Node × Str)
 | 0, s => some ([], [], s)
 | c + 1, s => (Gy 1 s).bind fun a => (rd a.2).bind fun b => (Hh rd c b.2).bind fun r => some (a.1 :: r.1, b.1 :: r.2.1, r.2.2)
def D9 : Nat → Str → Option (Node × Str)
 | 0, _ => none
 | f + 1, s => (takeN 1 s).bind fun k =>
  if k.1 = 1 then (takeN 4 k.2).bind fun b => (takeN 4 b.2).bind fun c => (I2 c.1 c.2).bind fun e => some (.mk 1 false ⟨[], .nil⟩ [] .nil b.1 e.1 (cr e.1) [], e.2)
  else if k.1 = 2 then (takeN 1 k.2).bind fun b => (takeN 2 b.2).bind fun c => if 1 < b.1 then none else (Hh (D9 f) c.1 c.2).bind fun e => some (.mk 2 (decide (b.1 = 1)) ⟨e.1, cr e.1⟩ e.2.1 (cr e.2.1) 0 [] .nil [], e.2.2)
  else if k.1 = 3 then (Gy 2 k.2).bind fun b => some (.mk 3 false ⟨[], .nil⟩ [] .nil 0 [] .nil b.1, b.2)
  else if k.1 = 4 then some (.mk 4 false ⟨[], .nil⟩ [] .nil 0 [] .nil [], k.2)
  else none
theorem R3 : ∀ {c : Nat} {s r : Str} {l : List Ext}, I2 c s = some (l, r) → l.length = c ∧ s = EM l ++ r
 | 0, s, r, l, h => by rw [I2] at h; cases h; exact ⟨rfl, by simp [EM]⟩
 | c + 1, s, r, l, h => by
  rw [I2] at h
  obtain ⟨⟨a, s1⟩, h1, h⟩ := Option.bind_eq_some_iff.1 h
  obtain ⟨⟨b, s2⟩, h2, h⟩ := Option.bind_eq_some_iff.1 h
  obtain ⟨⟨l', s3⟩, h3, h⟩ := Option.bind_eq_some_iff.1 h
  cases h
  obtain ⟨k1, _⟩ := B5 h1
  obtain ⟨k2, _⟩ := EX h2
  obtain ⟨k3, k4⟩ := R3 h3
  simp only at k2 k4
  refine ⟨by simp [k3], ?_⟩
  rw [Ki, k1, k2, k4]
  simp
theorem Vg {rd : Str → Option (Node × Str)} (hrd : ∀ s n r, rd s = some (n, r) → s = n.enc ++ r) : ∀ {c : Nat} {s r : Str} {ss : List Str} {l : List Node}, Hh rd c s = some (ss, l, r) → ss.length = c ∧ l.length = c ∧ s = Node.encs l ss ++ r
 | 0, s, r, ss, l, h => by rw [Hh] at h; cases h; simp
 | c + 1, s, r, ss, l, h => by
  rw [Hh] at h
  obtain ⟨⟨a, s1⟩, h1, h⟩ := Option.bind_eq_some_iff.1 h
  obtain ⟨⟨b, s2⟩, h2, h⟩ := Option.bind_eq_some_iff.1 h
  obtain ⟨⟨ss', l', s3⟩, h3, h⟩ := Option.bind_eq_some_iff.1 h
  cases h
  obtain ⟨k1, _⟩ := EX h1
  have k2 := hrd _ _ _ h2
  obtain ⟨k3, k4, k5⟩ := Vg hrd h3
  simp only at k2 k5
  refine ⟨by simp [k3], by simp [k4], ?_⟩
  rw [O9, k1, k2, k5]
theorem Ns : ∀ (f : Nat) (s : Str) (n : Node) (r : Str), D9 f s = some (n, r) → s = n.enc ++ r
 | 0, s, n, r, h => by rw [D9] at h; cases h
 | f + 1, s, n, r, h => by
  rw [D9] at h
  obtain ⟨⟨k, s1⟩, h1, h⟩ := Option.bind_eq_some_iff.1 h
  obtain ⟨i1, _⟩ := B5 h1
  simp only at h
  by_cases c1 : k = 1
  ·rw [if_pos c1] at h
   obtain ⟨⟨b, s2⟩, h2, h⟩ := Option.bind_eq_some_iff.1 h
   obtain ⟨⟨c, s3⟩, h3, h⟩ := Option.bind_eq_some_iff.1 h
   obtain ⟨⟨e, s4⟩, h4, h⟩ := Option.bind_eq_some_iff.1 h
   cases h
   obtain ⟨i2, _⟩ := B5 h2
   obtain ⟨i3, _⟩ := B5 h3
   obtain ⟨i4, i5⟩ := R3 h4
   simp only at i3 i4 i5
   rw [Node.enc_file (by simp), i1, i2, i3, i5, c1]
   simp [i4, List.append_assoc]
  rw [if_neg c1] at h
  by_cases c2 : k = 2
  ·rw [if_pos c2] at h
   obtain ⟨⟨b, s2⟩, h2, h⟩ := Option.bind_eq_some_iff.1 h
   obtain ⟨⟨c, s3⟩, h3, h⟩ := Option.bind_eq_some_iff.1 h
   simp only at h
   by_cases c5 : 1 < b
   ·rw [if_pos c5] at h; cases h
   rw [if_neg c5] at h
   obtain ⟨⟨ss, l, s4⟩, h4, h⟩ := Option.bind_eq_some_iff.1 h
   cases h
   obtain ⟨i2, _⟩ := B5 h2
   obtain ⟨i3, _⟩ := B5 h3
   obtain ⟨i4, i5, i6⟩ := Vg (Ns f) h4
   simp only at i3 i4 i5 i6
   have e1 : b = 0 ∨ b = 1 := by omega
   rw [Node.enc_dir (by simp), i1, i2, i3, i6, c2]
   rcases e1 with e1 | e1 <;> simp [e1, i4, List.append_assoc]
  rw [if_neg c2] at h
  by_cases c3 : k = 3
  ·rw [if_pos c3] at h
   obtain ⟨⟨b, s2⟩, h2, h⟩ := Option.bind_eq_some_iff.1 h
   cases h
   obtain ⟨i2, _⟩ := EX h2
   rw [Node.enc_link (by simp), i1, i2, c3]
   simp [List.append_assoc]
  rw [if_neg c3] at h
  by_cases c4 : k = 4
  ·rw [if_pos c4] at h
   cases h
   rw [Node.enc_other (by simp) (by simp) (by simp), i1, c4]
   simp
  rw [if_neg c4] at h
  cases h
theorem T6 (rest : Str) : ∀ l : List Ext, (∀ x ∈ l, 0 ≤ x.off ∧ x.off + x.data.length ≤ 1048576) → I2 l.length (EM l ++ rest) = some (l, rest)
 | [], _ => by rw [List.length_nil, I2]; rfl
 | x :: l, h => by
  have h1 := T6 rest l fun y hy => h y (by simp [hy])
  have h2 := h x (by simp)
  have k1 : x.off.toNat < 256 ^ 4 := by rw [p4]; omega
  have k2 : x.data.length < 256 ^ 4 := by rw [p4]; omega
  have h3 : ((x.off.toNat : Nat) : Int) = x.off := by omega
  rw [List.length_cons, Ki, I2, Dw k1, Option.bind_some, J8 k2, Option.bind_some, h1, Option.bind_some, h3]
theorem Sm {rd : Str → Option (Node × Str)} (rest : Str) : ∀ (l : List Node) (ss : List Str), l.length = ss.length → (∀ s ∈ ss, s.length ≤ 255) →
  (∀ n ∈ l, ∀ (rest : Str), ∃ n', rd (n.enc ++ rest) = some (n', rest) ∧ n'.sameB n = true) → ∃ l', Hh rd l.length (Node.encs l ss ++ rest) = some (ss, l', rest) ∧ Node.samesB l' l = true
 | [], [], _, _, _ => ⟨[], by rw [List.length_nil, Hh, Node.encs_nil]; simp, by simp⟩
 | n :: l, s :: ss, h1, h2, h4 => by
  have k1 : s.length < 256 ^ 1 := by have := h2 s (by simp); rw [p1]; omega
  obtain ⟨n', e2, e3⟩ := h4 n (by simp) (Node.encs l ss ++ rest)
  obtain ⟨l', e4, e5⟩ := Sm rest l ss (by simpa using h1) (fun y hy => h2 y (by simp [hy])) (fun y hy => h4 y (by simp [hy]))
  refine ⟨n' :: l', ?_, by rw [Node.sames_cons, e3, e5]; rfl⟩
  rw [List.length_cons, O9, Hh, J8 k1, Option.bind_some, e2, Option.bind_some, e4, Option.bind_some]
theorem Xa (n : Node) : ∀ (f : Nat) (rest : Str), n.ok → n.allB = true → n.count ≤ 4096 → n.depth < f → ∃ n', D9 f (n.enc ++ rest) = some (n', rest) ∧ n'.sameB n = true := by
 induction n using Node.ind with
 | h n ih =>
  intro f rest hok hall hcnt hd
  rw [Node.all_eq] at hall
  simp only [Bool.and_eq_true] at hall
  obtain ⟨ha, ho⟩ := hall
  obtain ⟨hz, hk⟩ := GM ho
  have hce := Node.count_eq n
  rw [Node.depth_eq] at hd
  have hok2 := hok
  rw [Node.ok_iff] at hok2
  obtain ⟨h1, h2, h3, h4, h5, h6, h7⟩ := hok2
  obtain ⟨g, rfl⟩ : ∃ g, f = g + 1 := ⟨f - 1, by omega⟩
  have hkind : n.kind = 1 ∨ n.kind = 2 ∨ n.kind = 3 ∨ n.kind = 4 := by
   by_cases c1 : n.kind = 1
   ·exact .inl c1
   by_cases c2 : n.kind = 2
   ·exact .inr (.inl c2)
   by_cases c3 : n.kind = 3
   ·exact .inr (.inr (.inl c3))
   by_cases c4 : n.kind = 4
   ·exact .inr (.inr (.inr c4))
   simp [CK, c1, c2, c3, c4] at hk
  rcases hkind with k | k | k | k
  ·have hk' := hk
   simp [CK, k] at hk'
   obtain ⟨b1, b2, b3⟩ := N8 hk'
   have hs : ((n.size.toNat : Nat) : Int) = n.size := by omega
   have q1 : n.size.toNat < 256 ^ 4 := by rw [p4]; omega
   have q2 : n.exts.length < 256 ^ 4 := by rw [p4]; have := h6.2.1; omega
   rw [Node.enc_file k, List.append_assoc, D9, Dw (by rw [p1]; omega), Option.bind_some, if_pos rfl, List.append_assoc, Dw q1, Option.bind_some, List.append_assoc, Dw q2, Option.bind_some, T6 _ _ b3, Option.bind_some]
   exact ⟨_, rfl, Qk k hz hs⟩
  ·have hk' := hk
   simp only [CK, k] at hk'
   have hn : Dd n = true := by simpa using hk'
   obtain ⟨c1, c2⟩ := Gw hn
   obtain ⟨_, _, c3⟩ := Hw _ _ c1
   have hcl : ∀ l : List Node, l.length ≤ Node.counts l ∧ ∀ x ∈ l, x.count ≤ Node.counts l ∧ x.depth + 1 ≤ Node.depths l := by
    intro l
    induction l with
    | nil => simp
    | cons x l ih =>
     refine ⟨by rw [Node.counts, Node.count_eq, List.length_cons]; omega, fun y hy => ?_⟩
     rw [Node.counts, Node.depths]
     rcases List.mem_cons.1 hy with rfl | hy
     ·omega
     ·have := ih.2 y hy; omega
   obtain ⟨hni, hcm⟩ := hcl n.items
   have q1 : (if n.opq = true then 1 else 0) < 256 ^ 1 := by rw [p1]; split <;> omega
   have q2 : n.names.l.length < 256 ^ 2 := by rw [p2]; omega
   have hall : ∀ l : List Node, Node.allsB l = true → ∀ x ∈ l, x.allB = true := by
    intro l
    induction l with
    | nil => simp
    | cons x l ih =>
     intro h y hy
     rw [Node.allsB] at h
     simp only [Bool.and_eq_true] at h
     rcases List.mem_cons.1 hy with rfl | hy
     ·exact h.1
     ·exact ih h.2 y hy
   obtain ⟨l', e1, e2⟩ := Sm (rd := D9 g) rest n.items n.names.l c2.symm (fun s hs => by have := J3 (c3 s hs); omega) (fun x hx r =>
    ih x hx g r (h4 x hx) (hall _ ha x hx) (by have := hcm x hx; omega) (by have := hcm x hx; omega))
   have hopq : decide ((if n.opq = true then 1 else 0) = 1) = n.opq := by cases n.opq <;> rfl
   have hnb : ¬ 1 < (if n.opq = true then 1 else 0) := by split <;> omega
   rw [Node.enc_dir k, List.append_assoc, D9, Dw (by rw [p1]; omega), Option.bind_some, if_neg (by omega), if_pos rfl, List.append_assoc, Dw q1, Option.bind_some, List.append_assoc, Dw q2, Option.bind_some, if_neg hnb, c2, e1, Option.bind_some, hopq]
   exact ⟨_, rfl, Tc k hz e2⟩
  ·have q1 : n.target.length < 256 ^ 2 := by
    have hk' := hk
    simp only [CK, k] at hk'
    simp at hk'
    rw [p2]; omega
   rw [Node.enc_link k, List.append_assoc, D9, Dw (by rw [p1]; omega), Option.bind_some, if_neg (by omega), if_neg (by omega), if_pos rfl, J8 q1, Option.bind_some]
   exact ⟨_, rfl, QY k hz⟩
  ·rw [Node.enc_other (by omega) (by omega) (by omega), D9, Dw (by rw [p1]; omega), Option.bind_some, if_neg (by omega), if_neg (by omega), if_neg (by omega), if_pos (by omega)]
   exact ⟨_, rfl, OG k hz⟩
open Go.Proofs
theorem V3 {l : List Node} {ss : List Str} {i : Nat} {x : Node} {s : Str} (h : l[i]? = some x) (k : ss[i]? = some s) : Node.encs (l.drop i) (ss.drop i) = Ep 1 s ++ (x.enc ++ Node.encs (l.drop (i + 1)) (ss.drop (i + 1))) := by
 have hi := (List.getElem?_eq_some_iff.1 h).1
 have ki := (List.getElem?_eq_some_iff.1 k).1
 rw [List.drop_eq_getElem_cons hi, List.drop_eq_getElem_cons ki, Node.encs_cons, (List.getElem?_eq_some_iff.1 h).2, (List.getElem?_eq_some_iff.1 k).2]
theorem U7 {l : List Ext} {i : Nat} {x : Ext} (h : l[i]? = some x) : EM (l.drop i) = be x.off.toNat 4 ++ (Ep 4 x.data ++ EM (l.drop (i + 1))) := by
 have hi := (List.getElem?_eq_some_iff.1 h).1
 rw [List.drop_eq_getElem_cons hi, (List.getElem?_eq_some_iff.1 h).2]
 simp [EM, Xc]
theorem XD {n : Node} (h : JC n = true) : n.kind = 1 ∨ n.kind = 2 ∨ n.kind = 3 ∨ n.kind = 4 := by
 obtain ⟨_, hk⟩ := GM h
 by_cases c1 : n.kind = 1
 ·exact .inl c1
 by_cases c2 : n.kind = 2
 ·exact .inr (.inl c2)
 by_cases c3 : n.kind = 3
 ·exact .inr (.inr (.inl c3))
 by_cases c4 : n.kind = 4
 ·exact .inr (.inr (.inr c4))
 simp [CK, c1, c2, c3, c4] at hk
theorem Lf : ∀ {l : List Node}, Node.allsB l = true → ∀ x ∈ l, x.allB = true
 | [], _, x, hx => by cases hx
 | y :: l, h, x, hx => by
  rw [Node.allsB] at h
  simp only [Bool.and_eq_true] at h
  rcases List.mem_cons.1 hx with rfl | hx
  ·exact h.1
  ·exact Lf h.2 x hx
theorem IF : ∀ {l : List Node}, l.length ≤ Node.counts l ∧ ∀ x ∈ l, x.count ≤ Node.counts l ∧ x.depth + 1 ≤ Node.depths l
 | [] => by simp
 | y :: l => by
  obtain ⟨h1, h2⟩ := IF (l := l)
  refine ⟨by rw [Node.counts, Node.count_eq, List.length_cons]; omega, fun x hx => ?_⟩
  rw [Node.counts, Node.depths]
  rcases List.mem_cons.1 hx with rfl | hx
  ·omega
  ·have := h2 x hx; omega
@[simp] theorem bk {α β γ : Type} {k : α → β → γ → Prop} {x : α} {y : β} {z : γ} : AJ k (fun j => j x y z) = k x y z := rfl
@[simp] theorem eE {b : Bool} {r : AV → Prop} : AJ r (fun j => ifK (.bool b) (j (.int .i64 1)) (j (.int .i64 0))) = r (.int .i64 ((if b = true then 1 else 0 : Nat) : Int)) := by cases b <;> rfl
open Go.Proofs
def u8C (l : Str) : List AV := l.map fun x => .int .u8 x.toNat
theorem Q8 : ∀ l : Str, chunks 1 l.length (u8C l) = byteCells l
 | [] => rfl
 | x :: l => by
  rw [List.length_cons, chunks]
  simp [u8C, byteCells]
  exact Q8 l
theorem Wf (j : Nat) (z x : AV) (R : List AV) : CL (List.replicate (j + 1) z ++ R) j [x] = List.replicate j z ++ (x :: R) := by
 unfold CL
 rw [show List.replicate (j + 1) z ++ R = List.replicate j z ++ ([z] ++ R) by rw [List.replicate_succ', List.append_assoc]]
 have h1 : (List.replicate j z ++ ([z] ++ R)).take j = List.replicate j z := by
  rw [List.take_append_of_le_length (by simp)]; simp
 have h2 : (List.replicate j z ++ ([z] ++ R)).drop (j + [x].length) = R := by
  rw [← List.drop_drop, List.drop_append_of_le_length (by simp)]; simp
 rw [h1, h2]
 simp
theorem Dm {w0 : World} {S : St} {n k : Nat} {s : Str} (hk : 1 ≤ k ∧ k ≤ 4) (hn : n ≤ 1000000000000) (hs : s.length ≤ 1000000000) {Q : AV → St → Prop} (hq : ∀ S', Sx S S' → Q (.str (s ++ be n k)) S') : AC w0 Cx [.str s, .int .i64 n, .int .i64 k] S Q := by
 apply Ru
 unfold Jw
 have hkl : (k : Int) ≤ lim := by unfold lim; omega
 have hk0 : ¬ k = 0 := by omega
 simp [DQ, hkl, hk0, AD]
 try simp (disch := omega) only [wrap64]
 refine EH (fun p : Nat × Nat => ([.int .i64 (p.1 : Nat), .int .i64 ((p.2 : Int) - 1)], [])) (fun m p S' => m = p.2 ∧ p.2 ≤ k ∧ p.1 = n / 256 ^ (k - p.2) ∧ S' = S ++ [.cells (List.replicate p.2 (.int .u8 0) ++ u8C (be n (k - p.2))) 0]) k (n, k) (by simp) ⟨rfl, Nat.le_refl _, by simp, by
  simp [be, u8C]⟩ ?_
 rintro m ⟨y, i⟩ S' v b ⟨rfl, h1, h2, rfl⟩ hv
 simp at hv h1 h2
 obtain ⟨hv1, hv2⟩ := hv
 simp [hv1, hv2]
 by_cases c : m = 0
 ·subst c
  have hS : (S ++ [Obj.cells (u8C (be n k)) 0])[S.length]? = some (.cells (u8C (be n k)) 0) := by simp
  have e1 : A6 (S ++ [Obj.cells (u8C (be n k)) 0]) 1 (.rs 1 S.length 0 k) = some (byteCells (be n k)) := by
   have := Q8 (be n k)
   rw [MJ] at this
   simp [A6, Bx, u8C, this]
   exact this
  simp [Dt, e1, L3]
  rw [GL (by rw [MJ]; omega)]
  simp
  exact hq _ (Sx.app _ _)
 ·obtain ⟨j, rfl⟩ : ∃ j, m = j + 1 := ⟨m - 1, by omega⟩
  have hS : (S ++ [Obj.cells (List.replicate (j + 1) (.int .u8 0) ++ u8C (be n (k - (j + 1)))) 0])[S.length]? = some (.cells (List.replicate (j + 1) (.int .u8 0) ++ u8C (be n (k - (j + 1)))) 0) := by simp
  have e1 : (1 : Int) ≤ (j : Int) + 1 := by omega
  have e2 : ((j + 1 : Nat) : Int) - 1 = (j : Int) := by omega
  have e3 : IntKind.u8.wrap (Int.tmod (y : Int) 256) = ((UInt8.ofNat y).toNat : Int) := by
   rw [Int.tmod_eq_emod_of_nonneg (by omega), show ((y : Int) % 256) = ((y % 256 : Nat) : Int) by omega, ZM]
   simp
  have e4 : Int.tdiv (y : Int) 256 = ((y / 256 : Nat) : Int) := by rw [Int.tdiv_eq_ediv_of_nonneg (by omega)]; omega
  have hy : y ≤ n := by rw [h2]; exact Nat.div_le_self _ _
  simp [e1, e2, X7, X2, e3, e4]
  have e5 : j < k := by omega
  have e6 : Bk Dh (S ++ [Obj.cells (List.replicate (j + 1) (.int .u8 0) ++ u8C (be n (k - (j + 1)))) 0]) (.ptr S.length j) (.int .u8 ((y : Int) % 256)) = some (S ++ [Obj.cells (List.replicate j (.int .u8 0) ++ u8C (be n (k - j))) 0]) := by
   rw [Ae hS]
   have hkj : k - j = k - (j + 1) + 1 := by omega
   have hlen : j + 1 ≤ (List.replicate (j + 1) (AV.int .u8 0) ++ u8C (be n (k - (j + 1)))).length := by simp
   simp only [Cr, Xz, WE, List.length_singleton, Rb, hlen, and_self, if_true, Option.map_some, Wf]
   rw [hkj, be, ← h2]
   simp [u8C]
  simp [e5, e6]
  try simp (disch := omega) only [wrap64]
  refine ⟨_, (y / 256, j), by omega, by simp, rfl, by simp; omega, ?_, rfl⟩
  simp only
  rw [h2, Nat.div_div_eq_div_mul, ← Nat.pow_succ]
  congr 2
  omega
theorem IH {w0 : World} {S : St} {k : Nat} {s t : Str} (hk : 1 ≤ k ∧ k ≤ 4) (hs : s.length + t.length ≤ 1000000000) {Q : AV → St → Prop} (hq : ∀ S', Sx S S' → Q (.str (s ++ Ep k t)) S') : AC w0 Eu [.str s, .str t, .int .i64 k] S Q := by
 apply Ps
 unfold IK
 refine Dm hk (by omega) (by omega) (fun S1 h1 => ?_)
 rw [GL (by simp; omega)]
 have := hq S1 h1
 simpa [Ep, List.append_assoc] using this
theorem TY {w0 : World} (n : Node) : ∀ {S : St} {Q : AV → St → Prop}, n.ok → n.allB = true → n.count ≤ 4096 → n.enc.length ≤ 900000000 → (∀ S', Sx S S' → Q (.str n.enc) S') → AC w0 HS [.agg n.c] S Q := by
 induction n using Node.ind with
 | h n ih =>
  intro S Q hok hall hcnt hlen hq
  rw [Node.all_eq] at hall
  simp only [Bool.and_eq_true] at hall
  obtain ⟨ha, ho⟩ := hall
  obtain ⟨hz, hk⟩ := GM ho
  rw [Node.count_eq] at hcnt
  have hkind := XD ho
  rw [Node.c_eq]
  apply R4
  unfold JT
  rw [Node.ok_iff] at hok
  obtain ⟨h1, h2, h3, h4, h5, h6, h7⟩ := hok
  simp
  have hki : n.kind = ((n.kind.toNat : Nat) : Int) := by omega
  have hk256 : n.kind.toNat < 256 := by omega
  have hc' := Node.c_eq' n
  rw [hki]
  refine Dm (k := 1) (by omega) (by omega) (by simp) (fun S1 hS1 => ?_)
  rcases hkind with k | k | k | k
  ·have hkn : n.kind.toNat = 1 := by omega
   have hk' := hk
   simp [CK, k] at hk'
   obtain ⟨b1, b2, b3⟩ := N8 hk'
   have hs : n.size = ((n.size.toNat : Nat) : Int) := by omega
   have hel := h6.2.1
   rw [Node.enc_file k] at hlen hq
   simp at hlen
   simp [hkn, AD]
   rw [hs]
   refine Dm (k := 4) (by omega) (by omega) (by simp) (fun S2 hS2 => ?_)
   refine Dm (k := 4) (by omega) (by omega) (by simp) (fun S3 hS3 => ?_)
   refine BI n.exts (fun i (l' : Str) => ([.str l', .int .i64 i], [some n.c])) (fun i l' S' => Sx S S' ∧ l' ++ EM (n.exts.drop i) = be 1 1 ++ (be n.size.toNat 4 ++ (be n.exts.length 4 ++ EM n.exts))) _ (by rw [hc']; simp [k, ← hs]; rfl) ⟨(hS1.trans hS2).trans hS3, by simp⟩ ?_ ?_
   ·rintro i l' S' v b x c hxi hd hc hm ⟨hSx, he⟩ hv
    simp at hv
    obtain ⟨⟨hv1, hv2⟩, hv3⟩ := hv
    rw [hc'] at hv3
    have hb3 := b3 x hm
    have hoff : x.off = ((x.off.toNat : Nat) : Int) := by omega
    rw [U7 hxi] at he
    have hl' := congrArg List.length he
    simp [Ep] at hl'
    simp [hv1, hv2, hv3, hc, hxi]
    rw [hoff]
    refine Dm (k := 4) (by omega) (by omega) (by omega) (fun S4 hS4 => ?_)
    simp
    refine IH (k := 4) (by omega) (by simp; omega) (fun S5 hS5 => ?_)
    simp
    try simp (disch := omega) only [wrap64]
    exact .next c _ (by rw [hc']; simp [k]; rfl) ⟨(hSx.trans hS4).trans hS5, by rw [← he]; simp [List.append_assoc]⟩
   ·rintro l' S' v b ⟨hSx, he⟩ hv N
    simp at hv
    obtain ⟨⟨hv1, hv2⟩, hv3⟩ := hv
    rw [hc'] at hv3
    simp [hv1, hv2, hv3, k]
    rw [List.drop_length, show EM ([] : List Ext) = [] from rfl, List.append_nil] at he
    rw [← he] at hq
    exact hq _ hSx
  ·have hkn : n.kind.toNat = 2 := by omega
   have hk' := hk
   simp only [CK, k] at hk'
   have hn : Dd n = true := by simpa using hk'
   obtain ⟨c1, c2⟩ := Gw hn
   obtain ⟨_, _, c3⟩ := Hw _ _ c1
   obtain ⟨hni, hcm⟩ := IF (l := n.items)
   rw [Node.enc_dir k] at hlen hq
   simp at hlen
   simp [hkn]
   simp only [AD]
   generalize hob : (if n.opq = true then 1 else 0 : Nat) = ob at hlen hq ⊢
   have hob2 : ob < 256 := by rw [← hob]; split <;> omega
   refine Dm (k := 1) (by omega) (by omega) (by simp) (fun S2 hS2 => ?_)
   simp
   refine Dm (k := 2) (by omega) (by omega) (by simp) (fun S3 hS3 => ?_)
   refine BI n.names.l (fun i (l' : Str) => ([.str l', .int .i64 i], [some n.c])) (fun i l' S' => Sx S S' ∧ l' ++ Node.encs (n.items.drop i) (n.names.l.drop i) = be 2 1 ++ (be ob 1 ++ (be n.names.l.length 2 ++ Node.encs n.items n.names.l))) _ (by rw [hc']; simp [k]; rfl) ⟨(hS1.trans hS2).trans hS3, by simp⟩ ?_ ?_
   ·rintro i l' S' v b s c hxi hd hc hm ⟨hSx, he⟩ hv
    obtain ⟨x, hx⟩ : ∃ x, n.items[i]? = some x := ⟨n.items[i]'(by omega), by simp [show i < n.items.length by omega]⟩
    have hxm := List.mem_of_getElem? hx
    have hsl := J3 (c3 s hm)
    simp at hv
    obtain ⟨⟨hv1, hv2⟩, hv3⟩ := hv
    rw [hc'] at hv3
    rw [V3 hx hxi] at he
    have hl' := congrArg List.length he
    simp [Ep] at hl'
    simp [hv1, hv2, hv3, hc, hxi, hx]
    refine IH (k := 1) (by omega) (by omega) (fun S4 hS4 => ?_)
    try simp
    refine ih x hxm (h4 x hxm) (Lf ha x hxm) (by have := hcm x hxm; omega) (by omega) (fun S5 hS5 => ?_)
    rw [GL (by simp [Ep]; omega)]
    simp
    try simp (disch := omega) only [wrap64]
    exact .next c _ (by rw [hc']; simp [k]; rfl) ⟨(hSx.trans hS4).trans hS5, by rw [← he]; simp [List.append_assoc]⟩
   ·rintro l' S' v b ⟨hSx, he⟩ hv N
    simp at hv
    obtain ⟨⟨hv1, hv2⟩, hv3⟩ := hv
    rw [hc'] at hv3
    simp [hv1, hv2, hv3, k]
    rw [List.drop_length, Node.encs_nil2, List.append_nil] at he
    rw [← he] at hq
    exact hq _ hSx
  ·have hkn : n.kind.toNat = 3 := by omega
   have hk' := hk
   simp only [CK, k] at hk'
   simp at hk'
   rw [Node.enc_link k] at hlen hq
   simp [Ep] at hlen
   simp [hkn, AD]
   refine IH (k := 2) (by omega) (by simp; omega) (fun S2 hS2 => ?_)
   simp
   exact hq _ (hS1.trans hS2)
  ·have hkn : n.kind.toNat = 4 := by omega
   rw [Node.enc_other (by omega) (by omega) (by omega)] at hq
   simp [hkn, AD]
   rw [hkn] at hq
   exact hq _ hS1
end Go.Av
