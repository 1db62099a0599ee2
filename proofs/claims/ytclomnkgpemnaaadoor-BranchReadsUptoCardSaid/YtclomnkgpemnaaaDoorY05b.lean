/- Parts of the proofs of this seat: abstract values over the model, and what the functions of the program do. No condition. -/
import Derived.Test.YtclomnkgpemnaaaDoorY05
import Derived.Test.YtclomnkgpemnaaaDoorY03a
import Derived.Test.YtclomnkgpemnaaaDoorXSplit
set_option linter.all false
set_option linter.unusedVariables false
namespace Go.Av
theorem p1 : (256 : Nat) ^ 1 = 256 := rfl
theorem p2 : (256 : Nat) ^ 2 = 65536 := rfl
theorem p4 : (256 : Nat) ^ 4 = 4294967296 := rfl
theorem RS.exts_succ {c : Nat} {st r1 r2 : RS} {a : Nat} {b : Str} (hb : st.bad = false) (h1 : st.num 4 = (a, r1)) (h2 : r1.text 4 = (b, r2)) : RS.exts (c + 1) st = (⟨a, b⟩ :: (RS.exts c r2).1, (RS.exts c r2).2) := by
  rw [RS.exts, if_neg (by rw [hb]; exact Bool.false_ne_true)]
  simp only [h1, h2]
theorem RS.num_enc {n k : Nat} (h : n < 256 ^ k) (r : Str) (left : Int) : RS.num k ⟨be n k ++ r, false, left⟩ = (n, ⟨r, false, left⟩) := by
  unfold RS.num
  simp only
  rw [takeN_be h]
theorem RS.text_enc {k : Nat} {t : Str} (h : t.length < 256 ^ k) (r : Str) (left : Int) : RS.text k ⟨encT k t ++ r, false, left⟩ = (t, ⟨r, false, left⟩) := by
  unfold RS.text
  simp only
  rw [takeT_enc h]
theorem encXs_cons (x : Ext) (l : List Ext) (r : Str) : encXs (x :: l) ++ r = be x.off.toNat 4 ++ (encT 4 x.data ++ (encXs l ++ r)) := by simp [encXs, encX, List.append_assoc]
theorem RS.exts_enc (left : Int) (rest : Str) : ∀ l : List Ext, (∀ x ∈ l, 0 ≤ x.off ∧ x.off + x.data.length ≤ 1048576) → RS.exts l.length ⟨encXs l ++ rest, false, left⟩ = (l, ⟨rest, false, left⟩)
  | [], _ => by rw [List.length_nil, RS.exts]; rfl
  | x :: l, h => by
    have h1 := RS.exts_enc left rest l fun y hy => h y (by simp [hy])
    have h2 := h x (by simp)
    have k1 : x.off.toNat < 256 ^ 4 := by rw [p4]; omega
    have k2 : x.data.length < 256 ^ 4 := by rw [p4]; omega
    have h3 : ((x.off.toNat : Nat) : Int) = x.off := by omega
    rw [List.length_cons, encXs_cons, RS.exts_succ rfl (RS.num_enc k1 _ left) (RS.text_enc k2 _ left), h1, h3]
theorem nameR_len {s : Str} (h : nameR s = true) : s.length ≤ 64 := by
  simp [nameR] at h
  omega
theorem oneB_zero {n : Node} (h : oneB n = true) : zeroB n = true ∧ kindB n = true := by simpa [oneB] using h
theorem RS.items_succ {rd : RS → Node × RS} {c : Nat} {st r1 r2 : RS} {a : Str} {b : Node} (hb : st.bad = false) (h1 : st.text 1 = (a, r1)) (h2 : rd r1 = (b, r2)) :
    RS.items rd (c + 1) st = (a :: (RS.items rd c r2).1, b :: (RS.items rd c r2).2.1, (RS.items rd c r2).2.2) := by
  rw [RS.items, if_neg (by rw [hb]; exact Bool.false_ne_true)]
  simp only [h1, h2]
theorem encs_app (n : Node) (l : List Node) (s : Str) (ss : List Str) (r : Str) : Node.encs (n :: l) (s :: ss) ++ r = encT 1 s ++ (n.enc ++ (Node.encs l ss ++ r)) := by simp [List.append_assoc]
theorem RS.items_enc {f : Nat} (rest : Str) : ∀ (l : List Node) (ss : List Str) (left : Int), l.length = ss.length → (∀ s ∈ ss, s.length ≤ 255) → (Node.counts l : Int) ≤ left →
    (∀ n ∈ l, ∀ (rest : Str) (left : Int), (n.count : Int) ≤ left → ∃ n', RS.node f ⟨n.enc ++ rest, false, left⟩ = (n', ⟨rest, false, left - n.count⟩) ∧ n'.sameB n = true) →
    ∃ l', RS.items (RS.node f) l.length ⟨Node.encs l ss ++ rest, false, left⟩ = (ss, l', ⟨rest, false, left - Node.counts l⟩) ∧ Node.samesB l' l = true
  | [], [], left, _, _, _, _ => ⟨[], by rw [List.length_nil, RS.items, Node.encs_nil, Node.counts]; simp, by simp⟩
  | n :: l, s :: ss, left, h1, h2, h3, h4 => by
    rw [Node.counts] at h3
    have k1 : s.length < 256 ^ 1 := by have := h2 s (by simp); rw [p1]; omega
    obtain ⟨n', e2, e3⟩ := h4 n (by simp) (Node.encs l ss ++ rest) left (by omega)
    obtain ⟨l', e4, e5⟩ := RS.items_enc rest l ss (left - n.count) (by simpa using h1) (fun y hy => h2 y (by simp [hy])) (by omega) (fun y hy => h4 y (by simp [hy]))
    refine ⟨n' :: l', ?_, by rw [Node.sames_cons, e3, e5]; rfl⟩
    have e6 : left - (n.count : Int) - (Node.counts l : Int) = left - ((n.count + Node.counts l : Nat) : Int) := by omega
    rw [List.length_cons, encs_app, RS.items_succ rfl (RS.text_enc k1 _ left) e2, e4, Node.counts, e6]
theorem samesB_len {l m : List Node} (h : Node.samesB l m = true) : l.length = m.length := by
  by_cases c : l.length = m.length
  · exact c
  · rw [Node.sames_len _ _ c] at h; cases h
theorem RS.node_succ {f : Nat} {s r : Str} {left : Int} {k : Nat} (hl : 0 ≤ left - 1) (h : RS.num 1 ⟨s, false, left - 1⟩ = (k, ⟨r, false, left - 1⟩)) : RS.node (f + 1) ⟨s, false, left⟩ =
      if k = 1 then
        let b := RS.num 4 ⟨r, false, left - 1⟩
        let c := b.2.num 4
        let e := RS.exts c.1 c.2
        (.mk 1 false ⟨[], .nil⟩ [] .nil b.1 e.1 (cr e.1) [], e.2)
      else if k = 2 then
        let b := RS.num 1 ⟨r, false, left - 1⟩
        let c := RS.num 2 { b.2 with bad := b.2.bad || decide (1 < b.1) }
        let e := RS.items (RS.node f) c.1 c.2
        (.mk 2 (decide (b.1 = 1)) ⟨e.1, cr e.1⟩ e.2.1 (cr e.2.1) 0 [] .nil [], e.2.2)
      else if k = 3 then
        let b := RS.text 2 ⟨r, false, left - 1⟩
        (.mk 3 false ⟨[], .nil⟩ [] .nil 0 [] .nil b.1, b.2)
      else (.mk k false ⟨[], .nil⟩ [] .nil 0 [] .nil [], ⟨r, false, left - 1⟩) := by
  rw [RS.node]
  simp only
  rw [if_neg (by simp; omega), h]
@[simp] theorem Node.kind_mk {k : Int} {o : Bool} {ns : Ss} {its : List Node} {ir : Rt} {sz : Int} {es : List Ext} {er : Rt} {t : Str} : (Node.mk k o ns its ir sz es er t).kind = k := rfl
@[simp] theorem Node.opq_mk {k : Int} {o : Bool} {ns : Ss} {its : List Node} {ir : Rt} {sz : Int} {es : List Ext} {er : Rt} {t : Str} : (Node.mk k o ns its ir sz es er t).opq = o := rfl
@[simp] theorem Node.names_mk {k : Int} {o : Bool} {ns : Ss} {its : List Node} {ir : Rt} {sz : Int} {es : List Ext} {er : Rt} {t : Str} : (Node.mk k o ns its ir sz es er t).names = ns := rfl
@[simp] theorem Node.items_mk {k : Int} {o : Bool} {ns : Ss} {its : List Node} {ir : Rt} {sz : Int} {es : List Ext} {er : Rt} {t : Str} : (Node.mk k o ns its ir sz es er t).items = its := rfl
@[simp] theorem Node.ir_mk {k : Int} {o : Bool} {ns : Ss} {its : List Node} {ir : Rt} {sz : Int} {es : List Ext} {er : Rt} {t : Str} : (Node.mk k o ns its ir sz es er t).ir = ir := rfl
@[simp] theorem Node.size_mk {k : Int} {o : Bool} {ns : Ss} {its : List Node} {ir : Rt} {sz : Int} {es : List Ext} {er : Rt} {t : Str} : (Node.mk k o ns its ir sz es er t).size = sz := rfl
@[simp] theorem Node.exts_mk {k : Int} {o : Bool} {ns : Ss} {its : List Node} {ir : Rt} {sz : Int} {es : List Ext} {er : Rt} {t : Str} : (Node.mk k o ns its ir sz es er t).exts = es := rfl
@[simp] theorem Node.er_mk {k : Int} {o : Bool} {ns : Ss} {its : List Node} {ir : Rt} {sz : Int} {es : List Ext} {er : Rt} {t : Str} : (Node.mk k o ns its ir sz es er t).er = er := rfl
@[simp] theorem Node.target_mk {k : Int} {o : Bool} {ns : Ss} {its : List Node} {ir : Rt} {sz : Int} {es : List Ext} {er : Rt} {t : Str} : (Node.mk k o ns its ir sz es er t).target = t := rfl
theorem same_file {n : Node} {b : Int} (k : n.kind = 1) (hz : zeroB n = true) (hb : b = n.size) : (Node.mk 1 false ⟨[], .nil⟩ [] .nil b n.exts (cr n.exts) []).sameB n = true := by
  simp [zeroB, k] at hz
  obtain ⟨⟨⟨z1, z2⟩, z3⟩, z4⟩ := hz
  rw [Node.same_eq]
  simp [k, z1, z2, z3, z4, hb]
theorem same_link {n : Node} (k : n.kind = 3) (hz : zeroB n = true) : (Node.mk 3 false ⟨[], .nil⟩ [] .nil 0 [] .nil n.target).sameB n = true := by
  simp [zeroB, k] at hz
  obtain ⟨⟨⟨z1, z2⟩, z3⟩, z4⟩ := hz
  rw [Node.same_eq]
  simp [k, z1, z2, z3, z4]
theorem same_white {n : Node} (k : n.kind = 4) (hz : zeroB n = true) : (Node.mk 4 false ⟨[], .nil⟩ [] .nil 0 [] .nil []).sameB n = true := by
  simp [zeroB, k] at hz
  obtain ⟨⟨⟨⟨z1, z2⟩, z3⟩, z4⟩, z5⟩ := hz
  rw [Node.same_eq]
  simp [k, z1, z2, z3, z4, z5]
theorem same_dir {n : Node} {l' : List Node} {r1 r2 : Rt} (k : n.kind = 2) (hz : zeroB n = true) (h : Node.samesB l' n.items = true) : (Node.mk 2 n.opq ⟨n.names.l, r1⟩ l' r2 0 [] .nil []).sameB n = true := by
  simp [zeroB, k] at hz
  obtain ⟨⟨z1, z2⟩, z3⟩ := hz
  rw [Node.same_eq]
  simp [k, z1, z2, z3, h]
theorem RS.node_enc (n : Node) : ∀ (f : Nat) (rest : Str) (left : Int), n.ok → n.allB = true → n.count ≤ 4096 → n.depth < f → (n.count : Int) ≤ left →
    ∃ n', RS.node f ⟨n.enc ++ rest, false, left⟩ = (n', ⟨rest, false, left - n.count⟩) ∧ n'.sameB n = true := by
  induction n using Node.ind with
  | h n ih =>
    intro f rest left hok hall hcnt hd hl
    rw [Node.all_eq] at hall
    simp only [Bool.and_eq_true] at hall
    obtain ⟨ha, ho⟩ := hall
    obtain ⟨hz, hk⟩ := oneB_zero ho
    have hce := Node.count_eq n
    rw [Node.depth_eq] at hd
    have hok2 := hok
    rw [Node.ok_iff] at hok2
    obtain ⟨h1, h2, h3, h4, h5, h6, h7⟩ := hok2
    obtain ⟨g, rfl⟩ : ∃ g, f = g + 1 := ⟨f - 1, by omega⟩
    have hkind : n.kind = 1 ∨ n.kind = 2 ∨ n.kind = 3 ∨ n.kind = 4 := by
      by_cases c1 : n.kind = 1
      · exact .inl c1
      by_cases c2 : n.kind = 2
      · exact .inr (.inl c2)
      by_cases c3 : n.kind = 3
      · exact .inr (.inr (.inl c3))
      by_cases c4 : n.kind = 4
      · exact .inr (.inr (.inr c4))
      simp [kindB, c1, c2, c3, c4] at hk
    have hitems : n.kind ≠ 2 → n.items = [] := fun h => zeroB_items hz h
    have hleft : n.kind ≠ 2 → left - 1 = left - (n.count : Int) := fun h => by rw [hce, hitems h, Node.counts]; omega
    rcases hkind with k | k | k | k
    · have hk' := hk
      simp [kindB, k] at hk'
      obtain ⟨b1, b2, b3⟩ := extOk_in hk'
      have hs : ((n.size.toNat : Nat) : Int) = n.size := by omega
      have q1 : n.size.toNat < 256 ^ 4 := by rw [p4]; omega
      have q2 : n.exts.length < 256 ^ 4 := by rw [p4]; have := h6.2.1; omega
      rw [Node.enc_file k, List.append_assoc, RS.node_succ (by omega) (RS.num_enc (by rw [p1]; omega) _ _), if_pos rfl]
      simp only
      rw [List.append_assoc, RS.num_enc q1]
      simp only
      rw [List.append_assoc, RS.num_enc q2]
      simp only
      rw [RS.exts_enc _ _ _ b3, hleft (by omega)]
      exact ⟨_, rfl, same_file k hz hs⟩
    · have hk' := hk
      simp only [kindB, k] at hk'
      have hn : namesB n = true := by simpa using hk'
      obtain ⟨c1, c2⟩ := namesB_iff hn
      obtain ⟨_, _, c3⟩ := chain_pw _ _ c1
      have hni : n.names.l.length ≤ 4096 := by
        have : ∀ l : List Node, l.length ≤ Node.counts l := by
          intro l
          induction l with
          | nil => simp
          | cons x l ih => rw [Node.counts, Node.count_eq, List.length_cons]; omega
        have := this n.items
        omega
      have q1 : (if n.opq = true then 1 else 0) < 256 ^ 1 := by rw [p1]; split <;> omega
      have q2 : n.names.l.length < 256 ^ 2 := by rw [p2]; omega
      have hall : ∀ l : List Node, Node.allsB l = true → ∀ x ∈ l, x.allB = true := by
        intro l
        induction l with
        | nil => simp
        | cons x l ih =>
          intro h y hy
          rw [Node.allsB] at h
          simp only [Bool.and_eq_true] at h
          rcases List.mem_cons.1 hy with rfl | hy
          · exact h.1
          · exact ih h.2 y hy
      have hcm : ∀ x ∈ n.items, x.count ≤ Node.counts n.items ∧ x.depth + 1 ≤ Node.depths n.items := by
        have : ∀ l : List Node, ∀ x ∈ l, x.count ≤ Node.counts l ∧ x.depth + 1 ≤ Node.depths l := by
          intro l
          induction l with
          | nil => simp
          | cons x l ih =>
            intro y hy
            rw [Node.counts, Node.depths]
            rcases List.mem_cons.1 hy with rfl | hy
            · omega
            · have := ih y hy; omega
        exact this n.items
      obtain ⟨l', e1, e2⟩ := RS.items_enc (f := g) rest n.items n.names.l (left - 1) c2.symm (fun s hs => by have := nameR_len (c3 s hs); omega) (by omega) (fun x hx r lf hlf =>
        ih x hx g r lf (h4 x hx) (hall _ ha x hx) (by have := hcm x hx; omega) (by have := hcm x hx; omega) hlf)
      have hopq : decide ((if n.opq = true then 1 else 0) = 1) = n.opq := by cases n.opq <;> rfl
      have hnb : (false || decide (1 < (if n.opq = true then 1 else 0))) = false := by cases n.opq <;> rfl
      rw [Node.enc_dir k, List.append_assoc, RS.node_succ (by omega) (RS.num_enc (by rw [p1]; omega) _ _), if_neg (by omega), if_pos rfl]
      simp only
      rw [List.append_assoc, RS.num_enc q1]
      simp only
      rw [hnb, List.append_assoc, RS.num_enc q2]
      simp only
      rw [c2, e1, hopq, hce]
      have e6 : left - 1 - (Node.counts n.items : Int) = left - ((1 + Node.counts n.items : Nat) : Int) := by omega
      rw [e6]
      exact ⟨_, rfl, same_dir k hz e2⟩
    · have q1 : n.target.length < 256 ^ 2 := by
        have hk' := hk
        simp only [kindB, k] at hk'
        simp at hk'
        rw [p2]; omega
      rw [Node.enc_link k, List.append_assoc, RS.node_succ (by omega) (RS.num_enc (by rw [p1]; omega) _ _), if_neg (by omega), if_neg (by omega), if_pos rfl]
      simp only
      rw [RS.text_enc q1, hleft (by omega)]
      exact ⟨_, rfl, same_link k hz⟩
    · rw [Node.enc_other (by omega) (by omega) (by omega), RS.node_succ (by omega) (RS.num_enc (by rw [p1]; omega) _ _), if_neg (by omega), if_neg (by omega), if_neg (by omega), hleft (by omega)]
      refine ⟨_, rfl, ?_⟩
      have : ((n.kind.toNat : Nat) : Int) = 4 := by omega
      rw [this]
      exact same_white k hz
end Go.Av
set_option linter.unusedVariables false
namespace Go.Av
open Go.Proofs
theorem encs_drop {l : List Node} {ss : List Str} {i : Nat} {x : Node} {s : Str} (h : l[i]? = some x) (k : ss[i]? = some s) : Node.encs (l.drop i) (ss.drop i) = encT 1 s ++ (x.enc ++ Node.encs (l.drop (i + 1)) (ss.drop (i + 1))) := by
  have hi := (List.getElem?_eq_some_iff.1 h).1
  have ki := (List.getElem?_eq_some_iff.1 k).1
  rw [List.drop_eq_getElem_cons hi, List.drop_eq_getElem_cons ki, Node.encs_cons, (List.getElem?_eq_some_iff.1 h).2, (List.getElem?_eq_some_iff.1 k).2]
theorem encXs_drop {l : List Ext} {i : Nat} {x : Ext} (h : l[i]? = some x) : encXs (l.drop i) = be x.off.toNat 4 ++ (encT 4 x.data ++ encXs (l.drop (i + 1))) := by
  have hi := (List.getElem?_eq_some_iff.1 h).1
  rw [List.drop_eq_getElem_cons hi, (List.getElem?_eq_some_iff.1 h).2]
  simp [encXs, encX]
theorem kinds4 {n : Node} (h : oneB n = true) : n.kind = 1 ∨ n.kind = 2 ∨ n.kind = 3 ∨ n.kind = 4 := by
  obtain ⟨_, hk⟩ := oneB_zero h
  by_cases c1 : n.kind = 1
  · exact .inl c1
  by_cases c2 : n.kind = 2
  · exact .inr (.inl c2)
  by_cases c3 : n.kind = 3
  · exact .inr (.inr (.inl c3))
  by_cases c4 : n.kind = 4
  · exact .inr (.inr (.inr c4))
  simp [kindB, c1, c2, c3, c4] at hk
theorem alls_mem : ∀ {l : List Node}, Node.allsB l = true → ∀ x ∈ l, x.allB = true
  | [], _, x, hx => by cases hx
  | y :: l, h, x, hx => by
    rw [Node.allsB] at h
    simp only [Bool.and_eq_true] at h
    rcases List.mem_cons.1 hx with rfl | hx
    · exact h.1
    · exact alls_mem h.2 x hx
theorem counts_mem : ∀ {l : List Node}, l.length ≤ Node.counts l ∧ ∀ x ∈ l, x.count ≤ Node.counts l ∧ x.depth + 1 ≤ Node.depths l
  | [] => by simp
  | y :: l => by
    obtain ⟨h1, h2⟩ := counts_mem (l := l)
    refine ⟨by rw [Node.counts, Node.count_eq, List.length_cons]; omega, fun x hx => ?_⟩
    rw [Node.counts, Node.depths]
    rcases List.mem_cons.1 hx with rfl | hx
    · omega
    · have := h2 x hx; omega
@[simp] theorem join_one3 {α β γ : Type} {k : α → β → γ → Prop} {x : α} {y : β} {z : γ} : joinK k (fun j => j x y z) = k x y z := rfl
@[simp] theorem if_num {b : Bool} {r : AV → Prop} : joinK r (fun j => ifK (.bool b) (j (.int .i64 1)) (j (.int .i64 0))) = r (.int .i64 ((if b = true then 1 else 0 : Nat) : Int)) := by cases b <;> rfl
end Go.Av
set_option linter.unusedVariables false
namespace Go.Av
open Go.Proofs
def u8C (l : Str) : List AV := l.map fun x => .int .u8 x.toNat
theorem chunks_u8 : ∀ l : Str, chunks 1 l.length (u8C l) = byteCells l
  | [] => rfl
  | x :: l => by
    rw [List.length_cons, chunks]
    simp [u8C, byteCells]
    exact chunks_u8 l
theorem write_rep (j : Nat) (z x : AV) (R : List AV) : writeAt (List.replicate (j + 1) z ++ R) j [x] = List.replicate j z ++ (x :: R) := by
  unfold writeAt
  rw [show List.replicate (j + 1) z ++ R = List.replicate j z ++ ([z] ++ R) by rw [List.replicate_succ', List.append_assoc]]
  have h1 : (List.replicate j z ++ ([z] ++ R)).take j = List.replicate j z := by
    rw [List.take_append_of_le_length (by simp)]; simp
  have h2 : (List.replicate j z ++ ([z] ++ R)).drop (j + [x].length) = R := by
    rw [← List.drop_drop, List.drop_append_of_le_length (by simp)]; simp
  rw [h1, h2]
  simp
theorem ref02_Put_A {w0 : World} {S : St} {n k : Nat} {s : Str} (hk : 1 ≤ k ∧ k ≤ 4) (hn : n ≤ 1000000000000) (hs : s.length ≤ 1000000000) {Q : AV → St → Prop} (hq : ∀ S', Sx S S' → Q (.str (s ++ be n k)) S') : AC w0 F_ref02_Put [.str s, .int .i64 n, .int .i64 k] S Q := by
  apply ref02_Put_ok
  unfold G_ref02_Put
  have hkl : (k : Int) ≤ lim := by unfold lim; omega
  have hk0 : ¬ k = 0 := by omega
  simp [makeSliceA, hkl, hk0, joinK_eq]
  try simp (disch := omega) only [wrap64]
  refine loopQ_by (fun p : Nat × Nat => ([.int .i64 (p.1 : Nat), .int .i64 ((p.2 : Int) - 1)], [])) (fun m p S' => m = p.2 ∧ p.2 ≤ k ∧ p.1 = n / 256 ^ (k - p.2) ∧ S' = S ++ [.cells (List.replicate p.2 (.int .u8 0) ++ u8C (be n (k - p.2))) 0]) k (n, k) (by simp) ⟨rfl, Nat.le_refl _, by simp, by
    simp [be, u8C]⟩ ?_
  rintro m ⟨y, i⟩ S' v b ⟨rfl, h1, h2, rfl⟩ hv
  simp at hv h1 h2
  obtain ⟨hv1, hv2⟩ := hv
  simp [hv1, hv2]
  by_cases c : m = 0
  · subst c
    have hS : (S ++ [Obj.cells (u8C (be n k)) 0])[S.length]? = some (.cells (u8C (be n k)) 0) := by simp
    have e1 : elemsA (S ++ [Obj.cells (u8C (be n k)) 0]) 1 (.rs 1 S.length 0 k) = some (byteCells (be n k)) := by
      have := chunks_u8 (be n k)
      rw [be_len] at this
      simp [elemsA, objCells, u8C, this]
      exact this
    simp [convBytesA, e1, bytesOf_byteCells]
    rw [binA_add_str (by rw [be_len]; omega)]
    simp
    exact hq _ (Sx.app _ _)
  · obtain ⟨j, rfl⟩ : ∃ j, m = j + 1 := ⟨m - 1, by omega⟩
    have hS : (S ++ [Obj.cells (List.replicate (j + 1) (.int .u8 0) ++ u8C (be n (k - (j + 1)))) 0])[S.length]? = some (.cells (List.replicate (j + 1) (.int .u8 0) ++ u8C (be n (k - (j + 1)))) 0) := by simp
    have e1 : (1 : Int) ≤ (j : Int) + 1 := by omega
    have e2 : ((j + 1 : Nat) : Int) - 1 = (j : Int) := by omega
    have e3 : IntKind.u8.wrap (Int.tmod (y : Int) 256) = ((UInt8.ofNat y).toNat : Int) := by
      rw [Int.tmod_eq_emod_of_nonneg (by omega), show ((y : Int) % 256) = ((y % 256 : Nat) : Int) by omega, u8_wrap]
      simp
    have e4 : Int.tdiv (y : Int) 256 = ((y / 256 : Nat) : Int) := by rw [Int.tdiv_eq_ediv_of_nonneg (by omega)]; omega
    have hy : y ≤ n := by rw [h2]; exact Nat.div_le_self _ _
    simp [e1, e2, binA_rem, binA_quo, e3, e4]
    have e5 : j < k := by omega
    have e6 : storeA T_uint8 (S ++ [Obj.cells (List.replicate (j + 1) (.int .u8 0) ++ u8C (be n (k - (j + 1)))) 0]) (.ptr S.length j) (.int .u8 ((y : Int) % 256)) = some (S ++ [Obj.cells (List.replicate j (.int .u8 0) ++ u8C (be n (k - j))) 0]) := by
      rw [storeA_ptr hS]
      have hkj : k - j = k - (j + 1) + 1 := by omega
      have hlen : j + 1 ≤ (List.replicate (j + 1) (AV.int .u8 0) ++ u8C (be n (k - (j + 1)))).length := by simp
      simp only [storeCellsA, free_int, cells_int, List.length_singleton, T_uint8_size, hlen, and_self, if_true, Option.map_some, write_rep]
      rw [hkj, be, ← h2]
      simp [u8C]
    simp [e5, e6]
    try simp (disch := omega) only [wrap64]
    refine ⟨_, (y / 256, j), by omega, by simp, rfl, by simp; omega, ?_, rfl⟩
    simp only
    rw [h2, Nat.div_div_eq_div_mul, ← Nat.pow_succ]
    congr 2
    omega
theorem ref05_text_A {w0 : World} {S : St} {k : Nat} {s t : Str} (hk : 1 ≤ k ∧ k ≤ 4) (hs : s.length + t.length ≤ 1000000000) {Q : AV → St → Prop} (hq : ∀ S', Sx S S' → Q (.str (s ++ encT k t)) S') : AC w0 F_ref05_text [.str s, .str t, .int .i64 k] S Q := by
  apply ref05_text_ok
  unfold G_ref05_text
  refine ref02_Put_A hk (by omega) (by omega) (fun S1 h1 => ?_)
  rw [binA_add_str (by simp; omega)]
  have := hq S1 h1
  simpa [encT, List.append_assoc] using this
theorem ref05_Put_A {w0 : World} (n : Node) : ∀ {S : St} {Q : AV → St → Prop}, n.ok → n.allB = true → n.count ≤ 4096 → n.enc.length ≤ 900000000 → (∀ S', Sx S S' → Q (.str n.enc) S') → AC w0 F_ref05_Put [.agg n.c] S Q := by
  induction n using Node.ind with
  | h n ih =>
    intro S Q hok hall hcnt hlen hq
    rw [Node.all_eq] at hall
    simp only [Bool.and_eq_true] at hall
    obtain ⟨ha, ho⟩ := hall
    obtain ⟨hz, hk⟩ := oneB_zero ho
    rw [Node.count_eq] at hcnt
    have hkind := kinds4 ho
    rw [Node.c_eq]
    apply ref05_Put_ok
    unfold G_ref05_Put
    rw [Node.ok_iff] at hok
    obtain ⟨h1, h2, h3, h4, h5, h6, h7⟩ := hok
    simp
    have hki : n.kind = ((n.kind.toNat : Nat) : Int) := by omega
    have hk256 : n.kind.toNat < 256 := by omega
    have hc' := Node.c_eq' n
    rw [hki]
    refine ref02_Put_A (k := 1) (by omega) (by omega) (by simp) (fun S1 hS1 => ?_)
    rcases hkind with k | k | k | k
    · have hkn : n.kind.toNat = 1 := by omega
      have hk' := hk
      simp [kindB, k] at hk'
      obtain ⟨b1, b2, b3⟩ := extOk_in hk'
      have hs : n.size = ((n.size.toNat : Nat) : Int) := by omega
      have hel := h6.2.1
      rw [Node.enc_file k] at hlen hq
      simp at hlen
      simp [hkn, joinK_eq]
      rw [hs]
      refine ref02_Put_A (k := 4) (by omega) (by omega) (by simp) (fun S2 hS2 => ?_)
      refine ref02_Put_A (k := 4) (by omega) (by omega) (by simp) (fun S3 hS3 => ?_)
      refine loop_list n.exts (fun i (l' : Str) => ([.str l', .int .i64 i], [some n.c])) (fun i l' S' => Sx S S' ∧ l' ++ encXs (n.exts.drop i) = be 1 1 ++ (be n.size.toNat 4 ++ (be n.exts.length 4 ++ encXs n.exts))) _ (by rw [hc']; simp [k, ← hs]; rfl) ⟨(hS1.trans hS2).trans hS3, by simp⟩ ?_ ?_
      · rintro i l' S' v b x c hxi hd hc hm ⟨hSx, he⟩ hv
        simp at hv
        obtain ⟨⟨hv1, hv2⟩, hv3⟩ := hv
        rw [hc'] at hv3
        have hb3 := b3 x hm
        have hoff : x.off = ((x.off.toNat : Nat) : Int) := by omega
        rw [encXs_drop hxi] at he
        have hl' := congrArg List.length he
        simp [encT] at hl'
        simp [hv1, hv2, hv3, hc, hxi]
        rw [hoff]
        refine ref02_Put_A (k := 4) (by omega) (by omega) (by omega) (fun S4 hS4 => ?_)
        simp
        refine ref05_text_A (k := 4) (by omega) (by simp; omega) (fun S5 hS5 => ?_)
        simp
        try simp (disch := omega) only [wrap64]
        exact .next c _ (by rw [hc']; simp [k]; rfl) ⟨(hSx.trans hS4).trans hS5, by rw [← he]; simp [List.append_assoc]⟩
      · rintro l' S' v b ⟨hSx, he⟩ hv N
        simp at hv
        obtain ⟨⟨hv1, hv2⟩, hv3⟩ := hv
        rw [hc'] at hv3
        simp [hv1, hv2, hv3, k]
        rw [List.drop_length, show encXs ([] : List Ext) = [] from rfl, List.append_nil] at he
        rw [← he] at hq
        exact hq _ hSx
    · have hkn : n.kind.toNat = 2 := by omega
      have hk' := hk
      simp only [kindB, k] at hk'
      have hn : namesB n = true := by simpa using hk'
      obtain ⟨c1, c2⟩ := namesB_iff hn
      obtain ⟨_, _, c3⟩ := chain_pw _ _ c1
      obtain ⟨hni, hcm⟩ := counts_mem (l := n.items)
      rw [Node.enc_dir k] at hlen hq
      simp at hlen
      simp [hkn]
      simp only [joinK_eq]
      generalize hob : (if n.opq = true then 1 else 0 : Nat) = ob at hlen hq ⊢
      have hob2 : ob < 256 := by rw [← hob]; split <;> omega
      refine ref02_Put_A (k := 1) (by omega) (by omega) (by simp) (fun S2 hS2 => ?_)
      simp
      refine ref02_Put_A (k := 2) (by omega) (by omega) (by simp) (fun S3 hS3 => ?_)
      refine loop_list n.names.l (fun i (l' : Str) => ([.str l', .int .i64 i], [some n.c])) (fun i l' S' => Sx S S' ∧ l' ++ Node.encs (n.items.drop i) (n.names.l.drop i) = be 2 1 ++ (be ob 1 ++ (be n.names.l.length 2 ++ Node.encs n.items n.names.l))) _ (by rw [hc']; simp [k]; rfl) ⟨(hS1.trans hS2).trans hS3, by simp⟩ ?_ ?_
      · rintro i l' S' v b s c hxi hd hc hm ⟨hSx, he⟩ hv
        obtain ⟨x, hx⟩ : ∃ x, n.items[i]? = some x := ⟨n.items[i]'(by omega), by simp [show i < n.items.length by omega]⟩
        have hxm := List.mem_of_getElem? hx
        have hsl := nameR_len (c3 s hm)
        simp at hv
        obtain ⟨⟨hv1, hv2⟩, hv3⟩ := hv
        rw [hc'] at hv3
        rw [encs_drop hx hxi] at he
        have hl' := congrArg List.length he
        simp [encT] at hl'
        simp [hv1, hv2, hv3, hc, hxi, hx]
        refine ref05_text_A (k := 1) (by omega) (by omega) (fun S4 hS4 => ?_)
        try simp
        refine ih x hxm (h4 x hxm) (alls_mem ha x hxm) (by have := hcm x hxm; omega) (by omega) (fun S5 hS5 => ?_)
        rw [binA_add_str (by simp [encT]; omega)]
        simp
        try simp (disch := omega) only [wrap64]
        exact .next c _ (by rw [hc']; simp [k]; rfl) ⟨(hSx.trans hS4).trans hS5, by rw [← he]; simp [List.append_assoc]⟩
      · rintro l' S' v b ⟨hSx, he⟩ hv N
        simp at hv
        obtain ⟨⟨hv1, hv2⟩, hv3⟩ := hv
        rw [hc'] at hv3
        simp [hv1, hv2, hv3, k]
        rw [List.drop_length, Node.encs_nil2, List.append_nil] at he
        rw [← he] at hq
        exact hq _ hSx
    · have hkn : n.kind.toNat = 3 := by omega
      have hk' := hk
      simp only [kindB, k] at hk'
      simp at hk'
      rw [Node.enc_link k] at hlen hq
      simp [encT] at hlen
      simp [hkn, joinK_eq]
      refine ref05_text_A (k := 2) (by omega) (by simp; omega) (fun S2 hS2 => ?_)
      simp
      exact hq _ (hS1.trans hS2)
    · have hkn : n.kind.toNat = 4 := by omega
      rw [Node.enc_other (by omega) (by omega) (by omega)] at hq
      simp [hkn, joinK_eq]
      rw [hkn] at hq
      exact hq _ hS1
end Go.Av
