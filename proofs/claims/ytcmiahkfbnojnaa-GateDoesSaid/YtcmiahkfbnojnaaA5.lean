/- A part of the proof of a law of this seat: What the operations yield: comparisons, conversions, and the like. No condition. -/
import Derived.Test.YtcmiahkfbnojnaaA4
import Derived.Laws.BytesString
set_option linter.all false
set_option linter.unusedVariables false
/-! What the operations yield: comparisons, conversions, and the like. -/
namespace Go.Av
variable {E : Env} {G : Gh} {w : World} {S : St}

theorem VR.int_inv {v : Value} {k : IntKind} {n : Int} (h : VR G v (.int k n)) : v = .int k n := by cases h; rfl
theorem VR.bool_inv {v : Value} {b : Bool} (h : VR G v (.bool b)) : v = .bool b := by cases h; rfl
theorem VR.str_inv {v : Value} {l : List UInt8} (h : VR G v (.str l)) : v = .string ⟨l.toArray⟩ := by cases h; rfl

theorem run_intBin {t : Nat} {x' y' : Operand} {op : BinOp} {k : IntKind} {a b : Int} {r : AV} (h : intBin op k a b = some r) :
    ∃ v, (do eqGuard op t x' y' (.int k a) (.int k b); binOp op t (.int k a) (.int k b) : Sem Value).run E.P w = .ok v w ∧ VR G v r ∧ r.cell1 = true := by
  rw [eqGuard_at_int]
  cases op <;> simp only [intBin] at h <;> first
    | (cases h; done)
    | (simp only [Option.some.injEq] at h; subst h; refine ⟨_, ?_, .int _ _, rfl⟩; simp [binOp, Op.intArith, Op.intBits]; done)
    | (simp only [Option.some.injEq] at h; subst h; refine ⟨_, ?_, .int _ _, rfl⟩; simp [binOp, Op.intArith, Op.intBits] <;> rfl)
    | (simp only [Option.some.injEq] at h; subst h; refine ⟨_, ?_, .bool _, rfl⟩; simp [binOp, Op.intCmp]; done)
    | (split at h
       · cases h
       · rename_i hb; simp only [Option.some.injEq] at h; subst h; exact ⟨_, by simp [binOp, Op.intDiv, hb], .int _ _, rfl⟩)

theorem toList_mk (l : List UInt8) : (⟨l.toArray⟩ : ByteArray).toList = l := ByteArray.toList_mk l
theorem run_strBin {t : Nat} {x' y' : Operand} {op : BinOp} {a b : List UInt8} {r : AV} (h : strBin op a b = some r) :
    ∃ v, (do eqGuard op t x' y' (.string ⟨a.toArray⟩) (.string ⟨b.toArray⟩); binOp op t (.string ⟨a.toArray⟩) (.string ⟨b.toArray⟩) : Sem Value).run E.P w = .ok v w ∧ VR G v r ∧ r.cell1 = true := by
  rw [eqGuard_at_string]
  cases op <;> simp only [strBin] at h <;> first
    | (cases h; done)
    | (simp only [Option.some.injEq] at h; subst h; refine ⟨_, ?_, .bool _, rfl⟩; simp [binOp, Op.stringOp, toList_mk] <;> rfl)
    | (split at h
       · rename_i hle
         simp only [Option.some.injEq] at h; subst h
         refine ⟨.string (⟨a.toArray⟩ ++ ⟨b.toArray⟩), ?_, ?_, rfl⟩
         · have h1 : (⟨a.toArray⟩ : ByteArray).size = a.length := by simp [ByteArray.size]
           have h2 : (⟨b.toArray⟩ : ByteArray).size = b.length := by simp [ByteArray.size]
           have : ¬ (9223372036854775807 < (a.length : Int) + (b.length : Int)) := by omega
           simp [binOp, Op.stringOp, h1, h2, this]
         · have : (⟨a.toArray⟩ ++ ⟨b.toArray⟩ : ByteArray) = ⟨(a ++ b).toArray⟩ := by
             apply ByteArray.ext; simp
           rw [this]; exact .str _
       · cases h)

theorem run_binA {t : Nat} {x' y' : Operand} {op : BinOp} {u v : Value} {a b r : AV} (hu : VR G u a) (hv : VR G v b) (h : binA op a b = some r) :
    ∃ z, (do eqGuard op t x' y' u v; binOp op t u v : Sem Value).run E.P w = .ok z w ∧ VR G z r ∧ r.cell1 = true := by
  unfold binA at h
  split at h
  · rename_i k x k' y
    obtain rfl := hu.int_inv
    obtain rfl := hv.int_inv
    split at h
    · split at h
      · cases h
      · rename_i hy
        cases h
        refine ⟨_, ?_, .int _ _, rfl⟩
        rw [eqGuard_at_int]
        simp [binOp, Op.shift, hy]
    · split at h
      · cases h
      · rename_i hy
        cases h
        refine ⟨_, ?_, .int _ _, rfl⟩
        rw [eqGuard_at_int]
        simp [binOp, Op.shift, hy]
    · split at h
      · rename_i e; subst e; exact run_intBin h
      · cases h
  · obtain rfl := hu.str_inv
    obtain rfl := hv.str_inv
    exact run_strBin h
  · cases h

theorem run_unA {op : UnOp} {u : Value} {a r : AV} (hu : VR G u a) (h : unA op a = some r) : ∃ z, (Op.unary op u).run E.P w = .ok z w ∧ VR G z r ∧ r.cell1 = true := by
  unfold unA at h
  split at h
  · obtain rfl := hu.bool_inv; cases h; exact ⟨_, rfl, .bool _, rfl⟩
  · obtain rfl := hu.int_inv; cases h; exact ⟨_, rfl, .int _ _, rfl⟩
  · cases h

theorem run_convInt (A : Agree E) {src dst : Nat} (hs : E.C.has src = true) (hd : E.C.has dst = true) {k : IntKind} (hk : (E.C.ty dst).kind = .int k) {u : Value} {a r : AV} (hu : VR G u a) (h : convIntA k a = some r) :
    ∃ z, (convert src dst u).run E.P w = .ok z w ∧ VR G z r ∧ r.cell1 = true := by
  unfold convIntA at h
  split at h
  · obtain rfl := hu.int_inv
    cases h
    obtain ⟨d, h1, _⟩ := (A.ty src hs).under
    have h2 := (A.ty dst hd).int hk
    exact ⟨_, by simp [convert, run_underlying h1, run_underlying h2, Conv.intToInt], .int _ _, rfl⟩
  · cases h
theorem run_convStr (A : Agree E) {src dst : Nat} (hs : E.C.has src = true) (hd : E.C.has dst = true) (hk : (E.C.ty dst).kind = .str) (hk' : (E.C.ty src).kind = .str) {u : Value} {a r : AV} (hu : VR G u a) (h : convStrA a = some r) :
    ∃ z, (convert src dst u).run E.P w = .ok z w ∧ VR G z r ∧ r.cell1 = true := by
  unfold convStrA at h
  split at h
  · obtain rfl := hu.str_inv
    cases h
    have h1 := (A.ty src hs).str hk'
    have h2 := (A.ty dst hd).str hk
    exact ⟨_, by simp [convert, run_underlying h1, run_underlying h2], .str _, rfl⟩
  · cases h

theorem bytesOf_spec : ∀ {es : List (List AV)} {l : List UInt8}, bytesOf es = some l → l.length = es.length ∧ ∀ (i : Nat) (e : List AV), es[i]? = some e → ∃ n : Int, e = [.int .u8 n] ∧ l[i]? = some (UInt8.ofNat n.toNat)
  | [], l, h => by simp only [bytesOf, Option.some.injEq] at h; subst h; exact ⟨rfl, fun i e hi => by simp at hi⟩
  | [.int .u8 n] :: es, l, h => by
    simp only [bytesOf] at h
    split at h
    · rename_i r hr
      cases h
      obtain ⟨h1, h2⟩ := bytesOf_spec hr
      refine ⟨by simp [h1], fun i e hi => ?_⟩
      cases i with
      | zero => simp at hi; subst hi; exact ⟨n, rfl, rfl⟩
      | succ i => simpa using h2 i e (by simpa using hi)
    · cases h
  | [] :: es, l, h => by simp [bytesOf] at h
  | (a :: b :: r) :: es, l, h => by simp [bytesOf] at h
  | [.undef] :: es, l, h => by simp [bytesOf] at h
  | [.bool _] :: es, l, h => by simp [bytesOf] at h
  | [.str _] :: es, l, h => by simp [bytesOf] at h
  | [.nil] :: es, l, h => by simp [bytesOf] at h
  | [.ptr _ _] :: es, l, h => by simp [bytesOf] at h
  | [.ep _ _] :: es, l, h => by simp [bytesOf] at h
  | [.vs _ _ _] :: es, l, h => by simp [bytesOf] at h
  | [.rs _ _ _ _] :: es, l, h => by simp [bytesOf] at h
  | [.map _] :: es, l, h => by simp [bytesOf] at h
  | [.fn _ _ _] :: es, l, h => by simp [bytesOf] at h
  | [.nilfn] :: es, l, h => by simp [bytesOf] at h
  | [.ifc _ _] :: es, l, h => by simp [bytesOf] at h
  | [.nilifc] :: es, l, h => by simp [bytesOf] at h
  | [.agg _] :: es, l, h => by simp [bytesOf] at h
  | [.tup _] :: es, l, h => by simp [bytesOf] at h
  | [.int .i8 _] :: es, l, h => by simp [bytesOf] at h
  | [.int .i16 _] :: es, l, h => by simp [bytesOf] at h
  | [.int .i32 _] :: es, l, h => by simp [bytesOf] at h
  | [.int .i64 _] :: es, l, h => by simp [bytesOf] at h
  | [.int .u16 _] :: es, l, h => by simp [bytesOf] at h
  | [.int .u32 _] :: es, l, h => by simp [bytesOf] at h
  | [.int .u64 _] :: es, l, h => by simp [bytesOf] at h

theorem push_fold (ns : List Int) : ∀ acc : ByteArray, ns.foldl (fun r n => r.push (UInt8.ofNat n.toNat)) acc = ⟨acc.data ++ (ns.map fun n => UInt8.ofNat n.toNat).toArray⟩ := by
  induction ns with
  | nil => intro acc; apply ByteArray.ext; simp
  | cons n ns ih =>
    intro acc
    rw [List.foldl_cons, ih]
    apply ByteArray.ext
    simp [ByteArray.push]
theorem run_convBytes (A : Agree E) (hr : Rel E G w S) {src dst e : Nat} (hs : E.C.has src = true) (hd : E.C.has dst = true) (he : E.C.has e = true) (hk : (E.C.ty dst).kind = .str) (hk' : (E.C.ty src).kind = .slice e) (hk2 : (E.C.ty e).kind = .int .u8)
    {u : Value} {a r : AV} (hu : VR G u a) (h : convBytesA a = some r) : ∃ z, (convert src dst u).run E.P w = .ok z w ∧ VR G z r ∧ r.cell1 = true := by
  have h1 := (A.ty src hs).slice hk'
  have h2 := (A.ty dst hd).str hk
  have h3 := (A.ty e he).int hk2
  unfold convBytesA at h
  split at h
  case h_2 => cases h
  rename_i sz es rt
  rw [Option.map_eq_some_iff] at h
  obtain ⟨l, hl, rfl⟩ := h
  obtain ⟨k1, k2⟩ := bytesOf_spec hl
  cases hu with
  | vsnil =>
    have : l = [] := by simpa using k1
    subst this
    exact ⟨.string .empty, by simp [convert, run_underlying h1, run_underlying h2, run_underlying h3, Conv.bytesToString], .str [], rfl⟩
  | vse a _ =>
    have : l = [] := by simpa using k1
    subst this
    have hload : (loadCells a 0).run E.P w = .ok #[] w := run_loadCells w a 0 (fun _ => undef) (fun i hi => by omega)
    exact ⟨.string .empty, by simp [convert, run_underlying h1, run_underlying h2, run_underlying h3, Conv.bytesToString, hload], .str [], rfl⟩
  | vs b o cap _ _ _ f hr' hc hf hsz him h22 =>
    let ns : List Int := (List.range es.length).map fun i => match f i 0 with | .int _ n => n | _ => 0
    have hcell : ∀ i, i < es.length → ∃ n : Int, es[i]? = some [.int .u8 n] ∧ f i 0 = .int .u8 n ∧ w.cell? ((⟨b, o, none⟩ : Addr).add i) = some (.int .u8 n) := by
      intro i hi
      have hei : es[i]? = some es[i] := List.getElem?_eq_getElem hi
      obtain ⟨n, hn, _⟩ := k2 i _ hei
      have hsz' := (hsz _ (List.getElem_mem hi)).1
      rw [hn] at hsz' hei
      simp at hsz'
      have hv := h22 i _ 0 _ hei rfl
      have hi' := him i _ 0 _ hei rfl
      have hfv := hv.int_inv
      refine ⟨n, hei, hfv, ?_⟩
      rw [Addr.add_lit]
      have := hr.imm _ _ _ hi'
      rw [hfv] at this
      rw [← hsz'] at this
      simpa using this
    have hload : (loadCells ⟨b, o, none⟩ es.length).run E.P w = .ok ((List.range es.length).map fun i => f i 0).toArray w :=
      run_loadCells w _ _ (fun i => f i 0) fun i hi => by obtain ⟨n, _, q1, q2⟩ := hcell i hi; rw [q1]; exact q2
    have hmap : (List.range es.length).map (fun i => f i 0) = ns.map fun n => Value.int .u8 n := by
      simp only [ns, List.map_map]
      apply List.map_congr_left
      intro i hi
      obtain ⟨n, _, q1, _⟩ := hcell i (by simpa using hi)
      simp [q1]
    have hlist : (ns.map fun n => UInt8.ofNat n.toNat) = l := by
      apply List.ext_getElem?
      intro i
      by_cases hi : i < es.length
      · obtain ⟨n, q0, q1, _⟩ := hcell i hi
        obtain ⟨n', q2, q3⟩ := k2 i _ q0
        simp at q2
        subst q2
        rw [q3]
        simp [ns, hi, q1]
      · rw [List.getElem?_eq_none (by simp [ns]; omega), List.getElem?_eq_none (by omega)]
    refine ⟨.string ⟨l.toArray⟩, ?_, .str l, rfl⟩
    rw [run_convert_bytes_string w src dst e _ _ _ h1 h3 h2, run_bytesToString w ⟨b, o, none⟩ es.length cap ns (by rw [hload, hmap]), push_fold, hlist]
    congr 2
    apply ByteArray.ext; simp

theorem run_lenStr (A : Agree E) {t ty : Nat} (ht : E.C.has t = true) (hk : (E.C.ty t).kind = .str) {u : Value} {a r : AV} (hu : VR G u a) (h : lenStrA a = some r) : ∃ z, (Builtin.len_ #[t] ty #[u]).run E.P w = .ok z w ∧ VR G z r ∧ r.cell1 = true := by
  unfold lenStrA at h
  split at h
  · obtain rfl := hu.str_inv
    cases h
    rename_i s
    refine ⟨.int .i64 s.length, ?_, .int _ _, rfl⟩
    have hs : (⟨s.toArray⟩ : ByteArray).size = s.length := by simp [ByteArray.size]
    simp only [Builtin.len_, List.getElem?_toArray, List.getElem?_cons_zero, Sem.run_bind, run_underlying ((A.ty t ht).str hk), Result.andThen_ok, hs]
    rfl
  · cases h
theorem run_lenSl (A : Agree E) {t e ty : Nat} (ht : E.C.has t = true) (hk : (E.C.ty t).kind = .slice e) {u : Value} {a r : AV} (hu : VR G u a) (h : lenSlA a = some r) : ∃ z, (Builtin.len_ #[t] ty #[u]).run E.P w = .ok z w ∧ VR G z r ∧ r.cell1 = true := by
  have h1 := (A.ty t ht).slice hk
  unfold lenSlA at h
  split at h
  · cases h
    cases hu with
    | vsnil => exact ⟨_, by simp [Builtin.len_, run_underlying h1, goInt], .int _ _, rfl⟩
    | vse => exact ⟨_, by simp [Builtin.len_, run_underlying h1, goInt], .int _ _, rfl⟩
    | vs => exact ⟨_, by simp [Builtin.len_, run_underlying h1, goInt], .int _ _, rfl⟩
  · cases h
    cases hu
    exact ⟨_, by simp [Builtin.len_, run_underlying h1, goInt], .int _ _, rfl⟩
  · cases h
theorem Rel.mapOf (h : Rel E G w S) {id : Nat} {m : List (AV × AV)} (hs : objMap S id = some m) : ∃ b es clk, S[id]? = some (.map m) ∧ G.rho id = some b ∧ G.role b = .obj id ∧ w.heap[b]? = some (.map es clk) ∧ es.size = m.length ∧ ∀ (i : Nat) (e : MapEntry) (p : AV × AV), es[i]? = some e → m[i]? = some p → entryR G e p := by
  unfold objMap at hs
  split at hs
  · rename_i m' hm
    simp only [Option.some.injEq] at hs
    subst hs
    obtain ⟨b, es, clk, h1, h2, h3, h4, h5⟩ := h.obj id _ hm
    exact ⟨b, es, clk, hm, h1, h2, h3, h4, h5⟩
  · cases hs
theorem run_getObj_map {P : Program} {w : World} {b : Nat} {es : Array MapEntry} {clk : Nat} (h : w.heap[b]? = some (.map es clk)) : (getObj b).run P w = .ok (.map es clk) w := by
  simp [getObj, Sem.run, h]
theorem run_lenMap (A : Agree E) (hr : Rel E G w S) {t k e ty : Nat} (ht : E.C.has t = true) (hk : (E.C.ty t).kind = .map k e) {u : Value} {a r : AV} (hu : VR G u a) (h : lenMapA S a = some r) : ∃ z, (Builtin.len_ #[t] ty #[u]).run E.P w = .ok z w ∧ VR G z r ∧ r.cell1 = true := by
  have h1 := (A.ty t ht).map hk
  unfold lenMapA at h
  split at h
  · cases h; cases hu
    exact ⟨_, by simp [Builtin.len_, run_underlying h1, goInt], .int _ _, rfl⟩
  · rw [Option.map_eq_some_iff] at h
    obtain ⟨m, hm, rfl⟩ := h
    cases hu with
    | map _ b hb =>
      obtain ⟨b', es, clk, q1, q2, q3, q4, q5, _⟩ := hr.mapOf hm
      rw [hb] at q2; cases q2
      refine ⟨.int .i64 m.length, by simp [Builtin.len_, run_underlying h1, run_getObj_map q4, goInt, q5], .int _ _, rfl⟩
  · cases h
theorem run_min {ats : Array TypeId} {ty : Nat} {u v : Value} {a b r : AV} (hu : VR G u a) (hv : VR G v b) (h : minA [a, b] = some r) :
    ∃ z, (Builtin.min_ ats ty #[u, v]).run E.P w = .ok z w ∧ VR G z r ∧ r.cell1 = true := by
  unfold minA at h
  split at h
  · rename_i k x k' y e
    simp only [List.cons.injEq, and_true] at e
    obtain ⟨rfl, rfl⟩ := e
    obtain rfl := hu.int_inv
    obtain rfl := hv.int_inv
    split at h
    · rename_i e; subst e; cases h
      exact ⟨_, by simp [Builtin.min_, Builtin.min2], .int _ _, rfl⟩
    · cases h
  · cases h
theorem run_max {ats : Array TypeId} {ty : Nat} {u v : Value} {a b r : AV} (hu : VR G u a) (hv : VR G v b) (h : maxA [a, b] = some r) :
    ∃ z, (Builtin.max_ ats ty #[u, v]).run E.P w = .ok z w ∧ VR G z r ∧ r.cell1 = true := by
  unfold maxA at h
  split at h
  · rename_i k x k' y e
    simp only [List.cons.injEq, and_true] at e
    obtain ⟨rfl, rfl⟩ := e
    obtain rfl := hu.int_inv
    obtain rfl := hv.int_inv
    split at h
    · rename_i e; subst e; cases h
      exact ⟨_, by simp [Builtin.max_, Builtin.max2], .int _ _, rfl⟩
    · cases h
  · rename_i e; simp at e
  · cases h
theorem run_max3 {ats : Array TypeId} {ty : Nat} {u v x : Value} {a b c r : AV} (hu : VR G u a) (hv : VR G v b) (hx : VR G x c) (h : maxA [a, b, c] = some r) :
    ∃ z, (Builtin.max_ ats ty #[u, v, x]).run E.P w = .ok z w ∧ VR G z r ∧ r.cell1 = true := by
  unfold maxA at h
  split at h
  · rename_i e; simp at e
  · rename_i k x k' y k2 z e
    simp only [List.cons.injEq, and_true] at e
    obtain ⟨rfl, rfl, rfl⟩ := e
    obtain rfl := hu.int_inv
    obtain rfl := hv.int_inv
    obtain rfl := hx.int_inv
    split at h
    · rename_i e; obtain ⟨rfl, rfl⟩ := e; cases h
      exact ⟨_, by simp [Builtin.max_, Builtin.max2], .int _ _, rfl⟩
    · cases h
  · cases h
end Go.Av
