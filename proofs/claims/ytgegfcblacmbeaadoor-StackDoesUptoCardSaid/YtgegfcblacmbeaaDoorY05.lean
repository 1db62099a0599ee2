/- Parts of the proofs of this seat: abstract values over the model, and what the functions of the program do. No condition. -/
import Derived.Test.YtgegfcblacmbeaaDoorY04b
import Derived.Test.YtgegfcblacmbeaaDoorXJoin
import Derived.Test.YtgegfcblacmbeaaDoorX03
set_option linter.all false
set_option linter.unusedVariables false
/-! Images: bytes of numbers, of nodes; reading them. -/
namespace Go.Av
/-- A number's bytes, the highest first. -/
def be (n : Nat) : Nat → Str
  | 0 => []
  | k + 1 => UInt8.ofNat (n / 256 ^ k) :: be n k
@[simp] theorem be_len (n : Nat) : ∀ k, (be n k).length = k
  | 0 => rfl
  | k + 1 => by simp [be, be_len n k]
def val : Str → Nat
  | [] => 0
  | b :: l => b.toNat * 256 ^ l.length + val l
theorem val_lt : ∀ l : Str, val l < 256 ^ l.length
  | [] => by simp [val]
  | b :: l => by
    have h1 := val_lt l
    have h2 : b.toNat < 256 := b.toNat_lt
    rw [val, List.length_cons, Nat.pow_succ]
    have h3 : b.toNat * 256 ^ l.length ≤ 255 * 256 ^ l.length := Nat.mul_le_mul_right _ (by omega)
    omega
theorem val_be (n : Nat) : ∀ k, val (be n k) = n % 256 ^ k
  | 0 => by simp [be, val, Nat.mod_one]
  | k + 1 => by
    rw [be, val, val_be n k, be_len]
    have : (UInt8.ofNat (n / 256 ^ k)).toNat = n / 256 ^ k % 256 := by simp
    rw [this, Nat.pow_succ, Nat.mod_mul]
    rw [Nat.mul_comm, Nat.add_comm]
theorem be_mod (n : Nat) : ∀ k j, k ≤ j → be (n % 256 ^ j) k = be n k
  | 0, j, _ => rfl
  | k + 1, j, h => by
    rw [be, be, be_mod n k j (by omega)]
    congr 1
    apply UInt8.toNat_inj.1
    have e : 256 ^ j = 256 ^ k * (256 * 256 ^ (j - k - 1)) := by rw [← Nat.pow_succ', ← Nat.pow_add]; congr 1; omega
    simp only [UInt8.toNat_ofNat']
    rw [e, Nat.mod_mul_right_div_self, Nat.mod_mul_right_mod]
theorem be_val : ∀ l : Str, be (val l) l.length = l
  | [] => rfl
  | b :: l => by
    have h1 := val_lt l
    rw [List.length_cons, be]
    have e1 : val (b :: l) / 256 ^ l.length = b.toNat := by
      rw [val, Nat.add_comm, Nat.add_mul_div_right _ _ (Nat.pow_pos (by omega)), Nat.div_eq_of_lt h1, Nat.zero_add]
    have e2 : be (val (b :: l)) l.length = l := by
      rw [← be_mod _ _ l.length (Nat.le_refl _)]
      have : val (b :: l) % 256 ^ l.length = val l := by
        rw [val, Nat.add_comm, Nat.add_mul_mod_self_right, Nat.mod_eq_of_lt h1]
      rw [this, be_val l]
    rw [e1, e2]
    simp
/-- A number is taken. -/
def takeN (k : Nat) (s : Str) : Option (Nat × Str) := if s.length < k then none else some (val (s.take k), s.drop k)
theorem takeN_be {n k : Nat} (h : n < 256 ^ k) (r : Str) : takeN k (be n k ++ r) = some (n, r) := by
  have h1 : ¬ (be n k ++ r).length < k := by simp
  have h2 : (be n k ++ r).take k = be n k := by rw [List.take_append_of_le_length (by simp)]; simp [List.take_of_length_le]
  have h3 : (be n k ++ r).drop k = r := by rw [List.drop_append_of_le_length (by simp), List.drop_of_length_le (by simp)]; rfl
  rw [takeN, if_neg h1, h2, h3, val_be, Nat.mod_eq_of_lt h]
theorem takeN_some {k : Nat} {s r : Str} {n : Nat} (h : takeN k s = some (n, r)) : s = be n k ++ r ∧ n < 256 ^ k := by
  unfold takeN at h
  split at h
  · cases h
  · rename_i c
    cases h
    have hl : (s.take k).length = k := by rw [List.length_take]; omega
    have h1 := be_val (s.take k)
    have h2 := val_lt (s.take k)
    rw [hl] at h1 h2
    exact ⟨by rw [h1, List.take_append_drop], h2⟩
/-- A text is taken. -/
def takeT (k : Nat) (s : Str) : Option (Str × Str) := (takeN k s).bind fun p => if p.2.length < p.1 then none else some (p.2.take p.1, p.2.drop p.1)
/-- A text, behind its length. -/
def encT (k : Nat) (t : Str) : Str := be t.length k ++ t
theorem takeT_enc {k : Nat} {t : Str} (h : t.length < 256 ^ k) (r : Str) : takeT k (encT k t ++ r) = some (t, r) := by
  rw [takeT, encT, List.append_assoc, takeN_be h]
  simp
theorem takeT_some {k : Nat} {s t r : Str} (h : takeT k s = some (t, r)) : s = encT k t ++ r ∧ t.length < 256 ^ k := by
  unfold takeT at h
  obtain ⟨⟨n, q⟩, h1, h2⟩ := Option.bind_eq_some_iff.1 h
  obtain ⟨h3, h4⟩ := takeN_some h1
  simp only at h2
  split at h2
  · cases h2
  · rename_i c
    cases h2
    have : (q.take n).length = n := by rw [List.length_take]; omega
    rw [encT, this, h3, List.append_assoc, List.take_append_drop]
    exact ⟨rfl, h4⟩
def encX (x : Ext) : Str := be x.off.toNat 4 ++ encT 4 x.data
def encXs (l : List Ext) : Str := l.flatMap encX
mutual
/-- A node's bytes. -/
def Node.enc : Node → Str
  | .mk k o ns its ir sz es er t => be k.toNat 1 ++
    (if k = 1 then be sz.toNat 4 ++ (be es.length 4 ++ encXs es) else if k = 2 then be (if o = true then 1 else 0) 1 ++ (be ns.l.length 2 ++ Node.encs its ns.l) else if k = 3 then encT 2 t else [])
def Node.encs : List Node → List Str → Str
  | [], _ => []
  | n :: l, ss => match ss with
    | [] => []
    | s :: ss => encT 1 s ++ (n.enc ++ Node.encs l ss)
end
theorem Node.enc_eq (n : Node) : n.enc = be n.kind.toNat 1 ++
    (if n.kind = 1 then be n.size.toNat 4 ++ (be n.exts.length 4 ++ encXs n.exts) else if n.kind = 2 then be (if n.opq = true then 1 else 0) 1 ++ (be n.names.l.length 2 ++ Node.encs n.items n.names.l) else if n.kind = 3 then encT 2 n.target else []) := by
  cases n
  rw [Node.enc]
  rfl
theorem Node.enc_file {n : Node} (h : n.kind = 1) : n.enc = be 1 1 ++ (be n.size.toNat 4 ++ (be n.exts.length 4 ++ encXs n.exts)) := by rw [Node.enc_eq]; simp only [h]; rfl
theorem Node.enc_dir {n : Node} (h : n.kind = 2) : n.enc = be 2 1 ++ (be (if n.opq = true then 1 else 0) 1 ++ (be n.names.l.length 2 ++ Node.encs n.items n.names.l)) := by rw [Node.enc_eq]; simp only [h]; rfl
theorem Node.enc_link {n : Node} (h : n.kind = 3) : n.enc = be 3 1 ++ encT 2 n.target := by rw [Node.enc_eq]; simp only [h]; rfl
theorem Node.enc_other {n : Node} (h1 : n.kind ≠ 1) (h2 : n.kind ≠ 2) (h3 : n.kind ≠ 3) : n.enc = be n.kind.toNat 1 := by rw [Node.enc_eq, if_neg h1, if_neg h2, if_neg h3, List.append_nil]
@[simp] theorem Node.encs_nil (ss : List Str) : Node.encs [] ss = [] := by rw [Node.encs]
@[simp] theorem Node.encs_nil2 (l : List Node) : Node.encs l [] = [] := by cases l <;> rw [Node.encs]
@[simp] theorem Node.encs_cons (n : Node) (l : List Node) (s : Str) (ss : List Str) : Node.encs (n :: l) (s :: ss) = encT 1 s ++ (n.enc ++ Node.encs l ss) := by rw [Node.encs]
/-- What reads: what is left, whether something was wrong, how many nodes there may be. -/
structure RS where
  s : Str
  bad : Bool
  left : Int
def RS.num (k : Nat) (st : RS) : Nat × RS := match takeN k st.s with | some (n, r) => (n, { st with s := r }) | none => (0, { st with bad := true })
def RS.text (k : Nat) (st : RS) : Str × RS := match takeT k st.s with | some (t, r) => (t, { st with s := r }) | none => ([], { st with bad := true })
/-- Extents, so many. -/
def RS.exts : Nat → RS → List Ext × RS
  | 0, st => ([], st)
  | c + 1, st => if st.bad = true then ([], st) else
    let a := st.num 4
    let b := a.2.text 4
    let r := RS.exts c b.2
    (⟨a.1, b.1⟩ :: r.1, r.2)
/-- A right of what was read. -/
def cr {α : Type} (l : List α) : Rt := match l with | [] => .nil | _ => .none
/-- Entries, so many. -/
def RS.items (rd : RS → Node × RS) : Nat → RS → List Str × List Node × RS
  | 0, st => ([], [], st)
  | c + 1, st => if st.bad = true then ([], [], st) else
    let a := st.text 1
    let b := rd a.2
    let r := RS.items rd c b.2
    (a.1 :: r.1, b.1 :: r.2.1, r.2.2)
/-- A node; fuel: 16 - depth. -/
def RS.node : Nat → RS → Node × RS
  | 0, st => (Node.none, { st with bad := true, left := st.left - 1 })
  | f + 1, st =>
    if st.bad = true ∨ st.left - 1 < 0 then (Node.none, { st with bad := true, left := st.left - 1 })
    else
      let a := RS.num 1 { st with left := st.left - 1 }
      if a.1 = 1 then
        let b := a.2.num 4
        let c := b.2.num 4
        let e := RS.exts c.1 c.2
        (.mk 1 false ⟨[], .nil⟩ [] .nil b.1 e.1 (cr e.1) [], e.2)
      else if a.1 = 2 then
        let b := a.2.num 1
        let c := RS.num 2 { b.2 with bad := b.2.bad || decide (1 < b.1) }
        let e := RS.items (RS.node f) c.1 c.2
        (.mk 2 (decide (b.1 = 1)) ⟨e.1, cr e.1⟩ e.2.1 (cr e.2.1) 0 [] .nil [], e.2.2)
      else if a.1 = 3 then
        let b := a.2.text 2
        (.mk 3 false ⟨[], .nil⟩ [] .nil 0 [] .nil b.1, b.2)
      else (.mk a.1 false ⟨[], .nil⟩ [] .nil 0 [] .nil [], a.2)
theorem RS.num_of {k : Nat} {st : RS} : (st.num k).2.bad = false → st.bad = false ∧ st.s = be (st.num k).1 k ++ (st.num k).2.s ∧ (st.num k).1 < 256 ^ k ∧ (st.num k).2.left = st.left := by
  unfold RS.num
  cases h : takeN k st.s with
  | none => simp
  | some p =>
    obtain ⟨n, r⟩ := p
    obtain ⟨h1, h2⟩ := takeN_some h
    exact fun hb => ⟨hb, h1, h2, rfl⟩
theorem RS.num_lt {k : Nat} {st : RS} : (st.num k).1 < 256 ^ k ∧ (st.num k).2.s.length ≤ st.s.length ∧ (st.num k).2.left = st.left ∧ (st.bad = true → (st.num k).2.bad = true) := by
  unfold RS.num
  cases h : takeN k st.s with
  | none => exact ⟨Nat.pow_pos (by omega), Nat.le_refl _, rfl, fun _ => rfl⟩
  | some p =>
    obtain ⟨n, r⟩ := p
    obtain ⟨h1, h2⟩ := takeN_some h
    exact ⟨h2, by rw [h1]; simp, rfl, id⟩
theorem RS.text_of {k : Nat} {st : RS} : (st.text k).2.bad = false → st.bad = false ∧ st.s = encT k (st.text k).1 ++ (st.text k).2.s ∧ (st.text k).1.length < 256 ^ k ∧ (st.text k).2.left = st.left := by
  unfold RS.text
  cases h : takeT k st.s with
  | none => simp
  | some p =>
    obtain ⟨n, r⟩ := p
    obtain ⟨h1, h2⟩ := takeT_some h
    exact fun hb => ⟨hb, h1, h2, rfl⟩
theorem RS.text_lt {k : Nat} {st : RS} : (st.text k).1.length + (st.text k).2.s.length ≤ st.s.length ∧ ((st.text k).2.bad = false → 1 ≤ k → (st.text k).2.s.length + 1 ≤ st.s.length) ∧ (st.text k).2.left = st.left ∧ (st.bad = true → (st.text k).2.bad = true) := by
  unfold RS.text
  cases h : takeT k st.s with
  | none => exact ⟨by simp, by simp, rfl, fun _ => rfl⟩
  | some p =>
    obtain ⟨n, r⟩ := p
    obtain ⟨h1, h2⟩ := takeT_some h
    refine ⟨by simp only [h1, encT, List.length_append, be_len]; omega, fun _ hk => by simp only [h1, encT, List.length_append, be_len]; omega, rfl, id⟩
theorem RS.exts_of : ∀ (c : Nat) (st : RS), (RS.exts c st).2.bad = false → st.bad = false ∧ (RS.exts c st).1.length = c ∧ st.s = encXs (RS.exts c st).1 ++ (RS.exts c st).2.s ∧ (RS.exts c st).2.left = st.left
  | 0, st, h => ⟨h, rfl, by simp [RS.exts, encXs], rfl⟩
  | c + 1, st, h => by
    rw [RS.exts] at h ⊢
    by_cases hb : st.bad = true
    · rw [if_pos hb] at h
      rw [hb] at h
      cases h
    · rw [if_neg hb] at h ⊢
      simp only at h ⊢
      obtain ⟨h1, h2, h3, h4⟩ := RS.exts_of c _ h
      obtain ⟨k1, k2, k3, k4⟩ := RS.text_of h1
      obtain ⟨j1, j2, j3, j4⟩ := RS.num_of k1
      refine ⟨j1, by simp [h2], ?_, by rw [h4, k4, j4]⟩
      simp only [encXs, List.flatMap_cons, encX, Int.toNat_natCast] at h3 ⊢
      rw [j2, k2, h3]
      simp [List.append_assoc]
theorem RS.exts_lt : ∀ (c : Nat) (st : RS), (RS.exts c st).1.length + (RS.exts c st).2.s.length ≤ st.s.length + 1 ∧ (∀ x ∈ (RS.exts c st).1, 0 ≤ x.off ∧ x.off < 4294967296 ∧ x.data.length ≤ st.s.length) ∧ (RS.exts c st).2.s.length ≤ st.s.length ∧ (st.bad = true → (RS.exts c st).1 = []) ∧ (RS.exts c st).2.left = st.left
  | 0, st => by simp [RS.exts]
  | c + 1, st => by
    rw [RS.exts]
    by_cases hb : st.bad = true
    · rw [if_pos hb]; simp
    · rw [if_neg hb]
      simp only
      obtain ⟨h1, h2, h3, h4, h5⟩ := RS.exts_lt c ((st.num 4).2.text 4).2
      obtain ⟨k1, k2, k3, k4⟩ := RS.text_lt (k := 4) (st := (st.num 4).2)
      obtain ⟨j1, j2, j3, j4⟩ := RS.num_lt (k := 4) (st := st)
      refine ⟨?_, ?_, by omega, fun e => absurd e hb, by rw [h5, k3, j3]⟩
      · cases hbb : ((st.num 4).2.text 4).2.bad with
        | true => rw [h4 hbb] at h1 ⊢; simp; omega
        | false => have := k2 hbb (by omega); simp; omega
      · intro x hx
        rcases List.mem_cons.1 hx with rfl | hx
        · simp; omega
        · have := h2 x hx; omega
theorem RS.items_of {rd : RS → Node × RS} (hrd : ∀ st : RS, (rd st).2.bad = false → st.bad = false ∧ ((rd st).1.allB = true → st.s = (rd st).1.enc ++ (rd st).2.s)) : ∀ (c : Nat) (st : RS), (RS.items rd c st).2.2.bad = false →
    st.bad = false ∧ (RS.items rd c st).1.length = c ∧ (RS.items rd c st).2.1.length = c ∧ (Node.allsB (RS.items rd c st).2.1 = true → st.s = Node.encs (RS.items rd c st).2.1 (RS.items rd c st).1 ++ (RS.items rd c st).2.2.s)
  | 0, st, h => ⟨h, rfl, rfl, by simp [RS.items]⟩
  | c + 1, st, h => by
    rw [RS.items] at h ⊢
    by_cases hb : st.bad = true
    · rw [if_pos hb] at h
      rw [hb] at h
      cases h
    · rw [if_neg hb] at h ⊢
      simp only at h ⊢
      obtain ⟨h1, h2, h3, h4⟩ := RS.items_of hrd c _ h
      obtain ⟨k1, k2⟩ := hrd _ h1
      obtain ⟨j1, j2, j3, j4⟩ := RS.text_of k1
      refine ⟨j1, by simp [h2], by simp [h3], fun ha => ?_⟩
      rw [Node.allsB] at ha
      simp only [Bool.and_eq_true] at ha
      rw [Node.encs_cons, j2, k2 ha.1, h4 ha.2]
      simp [List.append_assoc]
theorem RS.node_of : ∀ (f : Nat) (st : RS), (RS.node f st).2.bad = false → st.bad = false ∧ ((RS.node f st).1.allB = true → st.s = (RS.node f st).1.enc ++ (RS.node f st).2.s)
  | 0, st, h => by simp [RS.node] at h
  | f + 1, st, h => by
    rw [RS.node] at h ⊢
    by_cases hb : st.bad = true ∨ st.left - 1 < 0
    · rw [if_pos hb] at h; simp at h
    · rw [if_neg hb] at h ⊢
      have hb0 : st.bad = false := by
        cases e : st.bad with
        | false => rfl
        | true => exact absurd (.inl e) hb
      refine ⟨hb0, ?_⟩
      simp only at h ⊢
      generalize hA : RS.num 1 { st with left := st.left - 1 } = A at h ⊢
      have hA' : A.2.bad = false → st.s = be A.1 1 ++ A.2.s ∧ A.1 < 256 ^ 1 := fun e => by
        have := RS.num_of (k := 1) (st := { st with left := st.left - 1 }) (by rw [hA]; exact e)
        rw [hA] at this
        exact ⟨this.2.1, this.2.2.1⟩
      by_cases c1 : A.1 = 1
      · rw [if_pos c1] at h ⊢
        simp only at h ⊢
        obtain ⟨h1, h2, h3, _⟩ := RS.exts_of _ _ h
        obtain ⟨k1, k2, k3, _⟩ := RS.num_of h1
        obtain ⟨j1, j2, j3, _⟩ := RS.num_of k1
        obtain ⟨i1, i2⟩ := hA' j1
        intro _
        rw [Node.enc_file (by simp only [Node.kind])]
        simp only [Node.size, Node.exts, Int.toNat_natCast]
        rw [i1, j2, k2, h3, h2, c1]
        simp [List.append_assoc]
      rw [if_neg c1] at h ⊢
      by_cases c2 : A.1 = 2
      · rw [if_pos c2] at h ⊢
        simp only at h ⊢
        generalize hB : A.2.num 1 = B at h ⊢
        generalize hC : RS.num 2 { B.2 with bad := B.2.bad || decide (1 < B.1) } = D at h ⊢
        obtain ⟨h1, h2, h3, h4⟩ := RS.items_of (RS.node_of f) _ _ h
        generalize hE : RS.items (RS.node f) D.1 D.2 = E at h h2 h3 h4 ⊢
        have k := RS.num_of (k := 2) (st := { B.2 with bad := B.2.bad || decide (1 < B.1) }) (by rw [hC]; exact h1)
        rw [hC] at k
        obtain ⟨k1, k2, k3, _⟩ := k
        simp only [Bool.or_eq_false_iff, decide_eq_false_iff_not] at k1 k2
        have j := RS.num_of (k := 1) (st := A.2) (by rw [hB]; exact k1.1)
        rw [hB] at j
        obtain ⟨j1, j2, j3, _⟩ := j
        obtain ⟨i1, i2⟩ := hA' j1
        intro ha
        rw [Node.all_eq] at ha
        simp only [Bool.and_eq_true, Node.items] at ha
        rw [Node.enc_dir (by simp only [Node.kind])]
        simp only [Node.opq, Node.names, Node.items]
        have e := h4 ha.1
        rw [i1, j2, k2, e, h2, c2]
        have e1 : B.1 = 0 ∨ B.1 = 1 := by omega
        rcases e1 with e1 | e1 <;> simp [e1, List.append_assoc]
      rw [if_neg c2] at h ⊢
      by_cases c3 : A.1 = 3
      · rw [if_pos c3] at h ⊢
        simp only at h ⊢
        obtain ⟨k1, k2, k3, _⟩ := RS.text_of h
        obtain ⟨i1, i2⟩ := hA' k1
        intro _
        rw [Node.enc_link (by simp only [Node.kind])]
        simp only [Node.target]
        rw [i1, k2, c3]
        simp [List.append_assoc]
      · rw [if_neg c3] at h ⊢
        simp only at h ⊢
        obtain ⟨i1, i2⟩ := hA' h
        intro _
        rw [Node.enc_other (by simp only [Node.kind]; omega) (by simp only [Node.kind]; omega) (by simp only [Node.kind]; omega)]
        simp only [Node.kind, Int.toNat_natCast]
        exact i1
end Go.Av
set_option linter.unusedVariables false
/-! Numbers and texts as bytes. -/
namespace Go.Av
open Go.Proofs
/-- Bytes that are written. -/
def wrC (l : Str) (r : Rt) : Obj := .cells [.vs 1 (byteCells l) r] t_wire_Writer
def okW (r : Rt) (l : Str) : Prop := r ≠ .none ∧ r ≠ .full ∧ (r = .nil → l = [])
theorem okW_own {t : Nat} {l : Str} : okW (.own t) l := ⟨by simp, by simp, by simp⟩
theorem byteCells_app (a b : Str) : byteCells (a ++ b) = byteCells a ++ byteCells b := by simp [byteCells]
theorem byteCells_len (a : Str) : (byteCells a).length = a.length := by simp [byteCells]
theorem u8_wrap (n : Nat) : IntKind.u8.wrap (n : Int) = ((UInt8.ofNat n).toNat : Int) := by
  simp [IntKind.wrap, IntKind.bits, IntKind.signed]
theorem shr_byte (n i : Nat) (hi : i ≤ 7) : binA .shr (.int .i64 (n : Int)) (.int .u64 (IntKind.u64.wrap (IntKind.i64.wrap (8 * (i : Int))))) = some (.int .i64 ((n / 256 ^ i : Nat) : Int)) := by
  have h1 : IntKind.i64.wrap (8 * (i : Int)) = ((8 * i : Nat) : Int) := by rw [wrap64 (by omega) (by omega)]; omega
  have h2 : IntKind.u64.wrap ((8 * i : Nat) : Int) = ((8 * i : Nat) : Int) := by
    simp [IntKind.wrap, IntKind.bits, IntKind.signed]; omega
  rw [h1, h2]
  have h3 : min (8 * i) 64 = 8 * i := by omega
  have h4 : (2 : Nat) ^ (8 * i) = 256 ^ i := by rw [Nat.pow_mul]
  simp only [binA]
  rw [if_neg (by omega)]
  simp only [Int.toNat_natCast, IntKind.bits, h3]
  have h5 : (2 : Int) ^ (8 * i) = ((256 ^ i : Nat) : Int) := by rw [← h4]; simp
  rw [h5, Int.fdiv_eq_ediv_of_nonneg _ (Int.natCast_nonneg _)]
  rfl
theorem wire_Put_A {w0 : World} {S : St} {id n k : Nat} {l : Str} {r : Rt} (hS : S[id]? = some (wrC l r)) (hr : okW r l) (hk : 1 ≤ k ∧ k ≤ 4) (hn : n < 256 ^ k) (hl : l.length ≤ 10000000000) {Q : AV → St → Prop}
    (hq : ∀ r', okW r' (l ++ be n k) → Q (.bool true) (S.set id (wrC (l ++ be n k) r'))) : AC w0 F_wire_Writer_Put [.ptr id 0, .int .i64 n, .int .i64 k] S Q := by
  apply wire_Writer_Put_ok
  unfold G_wire_Writer_Put
  have hn2 : n < 4294967296 := Nat.lt_of_lt_of_le hn (by rw [show (4294967296 : Nat) = 256 ^ 4 from rfl]; exact Nat.pow_le_pow_right (by omega) (by omega))
  have e0 := shr_byte n k (by omega)
  rw [Nat.div_eq_of_lt hn] at e0
  simp [show ¬ ((k : Int) < 1) by omega, show ¬ (4 < (k : Int)) by omega, show ¬ ((n : Int) < 0) by omega, joinK_eq, e0]
  try simp (disch := omega) only [wrap64]
  refine loopQ_by (fun p : Nat => ([.int .i64 ((p : Int) - 1)], [])) (fun m p S' => m = p ∧ p ≤ k ∧ ∃ l' r', okW r' l' ∧ S' = S.set id (wrC l' r') ∧ l' ++ be n p = l ++ be n k ∧ l'.length = l.length + k - p) k k rfl ⟨rfl, Nat.le_refl _, l, r, hr, by
    obtain ⟨hlt, he⟩ := List.getElem?_eq_some_iff.1 hS
    rw [← he, List.set_getElem_self], rfl, by omega⟩ ?_
  rintro m p S' v b ⟨rfl, hp, l', r', hr', rfl, he, hll⟩ hv
  simp at hv
  simp [hv]
  by_cases c : m = 0
  · subst c
    simp [be] at he
    subst he
    simp
    exact hq r' hr'
  · obtain ⟨q, rfl⟩ : ∃ q, m = q + 1 := ⟨m - 1, by omega⟩
    have hS2 : (S.set id (wrC l' r'))[id]? = some (wrC l' r') := getSet_self hS
    have e1 : ((q + 1 : Nat) : Int) - 1 = (q : Int) := by omega
    simp [e1, loadA_ptr hS2]
    have e2 := shr_byte n q (by omega)
    rw [be] at he
    generalize n / 256 ^ q = z at e2 he
    have hS2' : (S.set id (wrC l' r'))[id]? = some (.cells [.vs 1 (byteCells l') r'] t_wire_Writer) := hS2
    have hS3 := getSet_self (o' := .cells [.vs 1 (byteCells l') r'.strip] t_wire_Writer) hS2
    have e3 : (1 : Int) ≤ (q : Int) + 1 := by omega
    simp only [stripMem_ptr hS2']
    simp [e3, e2, u8_wrap, List.set_set]
    have hll' : l'.length + 1 ≤ lim := by unfold lim; omega
    obtain ⟨o1, o2, o3⟩ := hr'
    simp [appendA, elemsA, o1, byteCells_len, hll']
    rw [List.set_set] at hS3
    simp [storeA_ptr hS3, List.set_set]
    try simp (disch := omega) only [wrap64]
    refine ⟨_, q, by omega, rfl, rfl, by omega, l' ++ [UInt8.ofNat z], .own (rowTy T_uint8 r'), okW_own, ?_, ?_, by simp; omega⟩
    · simp [wrC, byteCells]
    · rw [← he]
      simp
theorem wire_Text_A {w0 : World} {S : St} {id k : Nat} {l s : Str} {r : Rt} (hS : S[id]? = some (wrC l r)) (hr : okW r l) (hk : 1 ≤ k ∧ k ≤ 4) (hn : s.length < 256 ^ k) (hl : l.length + s.length ≤ 10000000000) {Q : AV → St → Prop}
    (hq : ∀ r', okW r' (l ++ encT k s) → Q (.bool true) (S.set id (wrC (l ++ encT k s) r'))) : AC w0 F_wire_Writer_Text [.ptr id 0, .str s, .int .i64 k] S Q := by
  apply wire_Writer_Text_ok
  unfold G_wire_Writer_Text
  refine wire_Put_A hS hr hk hn (by omega) (fun r1 hr1 => ?_)
  have hml : (l ++ be s.length k).length = l.length + k := by simp
  have hfin : l ++ encT k s = (l ++ be s.length k) ++ s := by simp [encT]
  rw [hfin] at hq
  generalize l ++ be s.length k = m at hr1 hml hq ⊢
  have hS2 : (S.set id (wrC m r1))[id]? = some (.cells [.vs 1 (byteCells m) r1] t_wire_Writer) := getSet_self hS
  have hS3 := getSet_self (o' := .cells [.vs 1 (byteCells m) r1.strip] t_wire_Writer) hS2
  simp [loadA_ptr hS2]
  simp only [stripMem_ptr hS2]
  simp only [List.set_set] at hS3 ⊢
  obtain ⟨o1, o2, o3⟩ := hr1
  by_cases e : s = []
  · subst e
    simp [appendA, elemsA, List.set_set]
    simp [storeA_ptr hS3, List.set_set]
    have := hq r1 ⟨o1, o2, fun e => by simpa using o3 e⟩
    simpa [wrC] using this
  · have hll' : m.length + s.length ≤ lim := by unfold lim; omega
    simp [appendA, elemsA, e, o1, byteCells_len, hll']
    simp [storeA_ptr hS3, List.set_set]
    have := hq (.own (rowTy T_uint8 r1)) okW_own
    simpa [wrC, byteCells] using this
theorem wire_Bytes_A {w0 : World} {S : St} {id : Nat} {l : Str} {r : Rt} (hS : S[id]? = some (wrC l r)) {Q : AV → St → Prop} (hq : Q (.str l) S) : AC w0 F_wire_Writer_Bytes [.ptr id 0] S Q := by
  apply wire_Writer_Bytes_ok
  unfold G_wire_Writer_Bytes
  have hS2 : S[id]? = some (.cells [.vs 1 (byteCells l) r] t_wire_Writer) := hS
  simp [loadA_ptr hS2, convBytesA, convVsA, bytesOf_byteCells]
  exact hq
end Go.Av
