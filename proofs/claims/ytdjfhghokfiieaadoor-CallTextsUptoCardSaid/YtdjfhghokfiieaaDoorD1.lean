/- Parts of the proofs of this seat: abstract values over the model, and what the functions of the program do. No condition. -/
import Derived.Test.YtdjfhghokfiieaaDoorM8
import Derived.Test.YtdjfhghokfiieaaDoorD0
import Derived.Test.YtdjfhghokfiieaaDoorM10
set_option linter.all false
set_option linter.unusedVariables false
namespace Go.Av
open Go.Proofs
abbrev TT (t : TypeId) (cs : List AV) := Ty Tryd.prog 1048576 t cs
abbrev TV (t : TypeId) (x : AV) := TyV Tryd.prog 1048576 t x
theorem i64_wf {n : Int} (h : (Lit.int .i64 n).wf = true) : -9223372036854775808 ≤ n ∧ n ≤ 9223372036854775807 := by
  simp [Lit.wf, IntKind.min, IntKind.max, IntKind.signed, IntKind.bits] at h
  omega
theorem dec_int {cs : List AV} {t : TypeId} (h : TT t cs) (hu : Tryd.prog.underlying t = some (.int .i64)) : ∃ n : Int, cs = [.int .i64 n] ∧ -9223372036854775808 ≤ n ∧ n ≤ 9223372036854775807 := by
  obtain ⟨n, rfl, hw⟩ := h.int_inv hu
  exact ⟨n, rfl, i64_wf hw⟩
theorem dec_u8 {cs : List AV} {t : TypeId} (h : TT t cs) (hu : Tryd.prog.underlying t = some (.int .u8)) : ∃ n : Nat, cs = [.int .u8 n] ∧ n < 256 := by
  obtain ⟨n, rfl, hw⟩ := h.int_inv hu
  obtain ⟨k, rfl, hk⟩ := nat_u8 hw
  exact ⟨k, rfl, hk⟩
theorem dec_str {cs : List AV} {t : TypeId} (h : TT t cs) (hu : Tryd.prog.underlying t = some .string) : ∃ s : Str, cs = [.str s] ∧ s.length ≤ 1048576 := h.str_inv hu
theorem dec_bool {cs : List AV} {t : TypeId} (h : TT t cs) (hu : Tryd.prog.underlying t = some .bool) : ∃ b : Bool, cs = [.bool b] := h.bool_inv hu
def inR (r : Rt) {α : Type} (l : List α) : Prop := (r = .nil ∧ l = []) ∨ r = .none
theorem dec_slice {α : Type} {t e : TypeId} {cs : List AV} {enc : α → List AV} {ok : α → Prop} {sz : Nat} (h : TT t cs) (hu : Tryd.prog.underlying t = some (.slice e)) (hs : Tryd.prog.cellsOf e = sz) (hd : ∀ ys, TT e ys → ∃ a, ys = enc a ∧ ok a) :
    ∃ (l : List α) (r : Rt), cs = [.vs sz (l.map enc) r] ∧ inR r l ∧ l.length ≤ 1048576 ∧ ∀ a ∈ l, ok a := by
  obtain ⟨es, r, rfl, hr, hl, he⟩ := h.slice_inv hu
  have : ∃ l : List α, es = l.map enc ∧ ∀ a ∈ l, ok a := by
    clear hl hr h
    induction es with
    | nil => exact ⟨[], rfl, by simp⟩
    | cons y es ih =>
      obtain ⟨l, e1, e2⟩ := ih fun z hz => he z (by simp [hz])
      obtain ⟨a, e3, e4⟩ := hd y (he y (by simp))
      exact ⟨a :: l, by simp [e1, e3], by simpa [e4] using e2⟩
  obtain ⟨l, rfl, ha⟩ := this
  refine ⟨l, r, by rw [hs], ?_, by simpa using hl, ha⟩
  rcases hr with ⟨rfl, h2⟩ | rfl
  · exact .inl ⟨rfl, by simpa using h2⟩
  · exact .inr rfl
theorem TyV.int {t : TypeId} {x : AV} (h : TV t x) (hu : Tryd.prog.underlying t = some (.int .i64)) : ∃ n : Int, x = .int .i64 n ∧ -9223372036854775808 ≤ n ∧ n ≤ 9223372036854775807 := by
  obtain ⟨n, e, hn⟩ := dec_int (h.one (by simp [isAgg, hu])) hu
  exact ⟨n, by simpa using e, hn⟩
theorem TyV.u8 {t : TypeId} {x : AV} (h : TV t x) (hu : Tryd.prog.underlying t = some (.int .u8)) : ∃ n : Nat, x = .int .u8 n ∧ n < 256 := by
  obtain ⟨n, e, hn⟩ := dec_u8 (h.one (by simp [isAgg, hu])) hu
  exact ⟨n, by simpa using e, hn⟩
theorem TyV.str {t : TypeId} {x : AV} (h : TV t x) (hu : Tryd.prog.underlying t = some .string) : ∃ s : Str, x = .str s ∧ s.length ≤ 1048576 := by
  obtain ⟨n, e, hn⟩ := dec_str (h.one (by simp [isAgg, hu])) hu
  exact ⟨n, by simpa using e, hn⟩
theorem TyV.bool {t : TypeId} {x : AV} (h : TV t x) (hu : Tryd.prog.underlying t = some .bool) : ∃ b : Bool, x = .bool b := by
  obtain ⟨n, e⟩ := dec_bool (h.one (by simp [isAgg, hu])) hu
  exact ⟨n, by simpa using e⟩
theorem TyV.slice {α : Type} {t e : TypeId} {x : AV} {enc : α → List AV} {ok : α → Prop} {sz : Nat} (h : TV t x) (hu : Tryd.prog.underlying t = some (.slice e)) (hs : Tryd.prog.cellsOf e = sz) (hd : ∀ ys, TT e ys → ∃ a, ys = enc a ∧ ok a) :
    ∃ (l : List α) (r : Rt), x = .vs sz (l.map enc) r ∧ inR r l ∧ l.length ≤ 1048576 ∧ ∀ a ∈ l, ok a := by
  obtain ⟨l, r, e, h2⟩ := dec_slice (h.one (by simp [isAgg, hu])) hu hs hd
  exact ⟨l, r, by simpa using e, h2⟩
end Go.Av
set_option linter.unusedVariables false
namespace Go.Av
open Go.Proofs
@[simp] def wStr (s : Str) : List AV := [.str s]
structure Ss where
  l : List Str
  r : Rt
  deriving DecidableEq
@[simp] def Ss.v (x : Ss) : AV := .vs 1 (x.l.map wStr) x.r.strip
@[simp] def Ss.c (x : Ss) : List AV := [x.v]
def Ss.ok (x : Ss) : Prop := (x.r = .nil → x.l = []) ∧ x.l.length ≤ 1048576 ∧ ∀ s ∈ x.l, s.length ≤ 1048576
theorem dec_Str (cs : List AV) (h : TT t_string cs) : ∃ x : Str, cs = wStr x ∧ x.length ≤ 1048576 := dec_str h un_string
theorem dec_Ss (cs : List AV) (h : TT t_s_string cs) : ∃ x : Ss, cs = x.c ∧ x.ok := by
  obtain ⟨l, r, rfl, hr, hl, hx⟩ := dec_slice (enc := wStr) (ok := fun s => s.length ≤ 1048576) h un_s_string ce_string dec_Str
  exact ⟨⟨l, r⟩, by rcases hr with ⟨h, _⟩ | h <;> rw [h] <;> rfl, ⟨fun e => by
    rcases hr with ⟨_, h⟩ | h
    · exact h
    · simp only at e
      rw [h] at e
      exact Rt.noConfusion e, hl, hx⟩⟩
end Go.Av
