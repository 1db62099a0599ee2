/- Parts of the proofs of this seat: abstract values over the model, and what the functions of the program do. No condition. -/
import Derived.Test.YtdjfhghokfiieaaDoorM8
import Derived.Test.YtdjfhghokfiieaaDoorD0
import Derived.Test.YtdjfhghokfiieaaDoorM10
set_option linter.all false
namespace Go.Av
open Go.Proofs
abbrev TT (t : TypeId) (cs : List AV) := Ty Tryd.prog 1048576 t cs
abbrev TV (t : TypeId) (x : AV) := TyV Tryd.prog 1048576 t x
theorem TE {n : Int} (h : (Lit.int .i64 n).wf = true) : -9223372036854775808 ≤ n ∧ n ≤ 9223372036854775807 := by
 simp [Lit.wf, IntKind.min, IntKind.max, IntKind.signed, IntKind.bits] at h
 omega
theorem EL {cs : List AV} {t : TypeId} (h : TT t cs) (hu : Tryd.prog.underlying t = some (.int .i64)) : ∃ n : Int, cs = [.int .i64 n] ∧ -9223372036854775808 ≤ n ∧ n ≤ 9223372036854775807 := by
 obtain ⟨n, rfl, hw⟩ := h.int_inv hu
 exact ⟨n, rfl, TE hw⟩
theorem Sn {cs : List AV} {t : TypeId} (h : TT t cs) (hu : Tryd.prog.underlying t = some (.int .u8)) : ∃ n : Nat, cs = [.int .u8 n] ∧ n < 256 := by
 obtain ⟨n, rfl, hw⟩ := h.int_inv hu
 obtain ⟨k, rfl, hk⟩ := TG hw
 exact ⟨k, rfl, hk⟩
theorem Jo {cs : List AV} {t : TypeId} (h : TT t cs) (hu : Tryd.prog.underlying t = some .string) : ∃ s : Str, cs = [.str s] ∧ s.length ≤ 1048576 := h.str_inv hu
theorem QM {cs : List AV} {t : TypeId} (h : TT t cs) (hu : Tryd.prog.underlying t = some .bool) : ∃ b : Bool, cs = [.bool b] := h.bool_inv hu
def inR (r : Rt) {α : Type} (l : List α) : Prop := (r = .nil ∧ l = []) ∨ r = .none
theorem FT {α : Type} {t e : TypeId} {cs : List AV} {enc : α → List AV} {ok : α → Prop} {sz : Nat} (h : TT t cs) (hu : Tryd.prog.underlying t = some (.slice e)) (hs : Tryd.prog.cellsOf e = sz) (hd : ∀ ys, TT e ys → ∃ a, ys = enc a ∧ ok a) :
  ∃ (l : List α) (r : Rt), cs = [.vs sz (l.map enc) r] ∧ inR r l ∧ l.length ≤ 1048576 ∧ ∀ a ∈ l, ok a := by
 obtain ⟨es, r, rfl, hr, hl, he⟩ := h.slice_inv hu
 have : ∃ l : List α, es = l.map enc ∧ ∀ a ∈ l, ok a := by
  clear hl hr h
  induction es with
  | nil => exact ⟨[], rfl, by simp⟩
  | cons y es ih =>
   obtain ⟨l, e1, e2⟩ := ih fun z hz => he z (by simp [hz])
   obtain ⟨a, e3, e4⟩ := hd y (he y (by simp))
   exact ⟨a :: l, by simp [e1, e3], by simpa [e4] using e2⟩
 obtain ⟨l, rfl, ha⟩ := this
 refine ⟨l, r, by rw [hs], ?_, by simpa using hl, ha⟩
 rcases hr with ⟨rfl, h2⟩ | rfl
 ·exact .inl ⟨rfl, by simpa using h2⟩
 ·exact .inr rfl
theorem TyV.int {t : TypeId} {x : AV} (h : TV t x) (hu : Tryd.prog.underlying t = some (.int .i64)) : ∃ n : Int, x = .int .i64 n ∧ -9223372036854775808 ≤ n ∧ n ≤ 9223372036854775807 := by
 obtain ⟨n, e, hn⟩ := EL (h.one (by simp [isAgg, hu])) hu
 exact ⟨n, by simpa using e, hn⟩
theorem TyV.u8 {t : TypeId} {x : AV} (h : TV t x) (hu : Tryd.prog.underlying t = some (.int .u8)) : ∃ n : Nat, x = .int .u8 n ∧ n < 256 := by
 obtain ⟨n, e, hn⟩ := Sn (h.one (by simp [isAgg, hu])) hu
 exact ⟨n, by simpa using e, hn⟩
theorem TyV.str {t : TypeId} {x : AV} (h : TV t x) (hu : Tryd.prog.underlying t = some .string) : ∃ s : Str, x = .str s ∧ s.length ≤ 1048576 := by
 obtain ⟨n, e, hn⟩ := Jo (h.one (by simp [isAgg, hu])) hu
 exact ⟨n, by simpa using e, hn⟩
theorem TyV.bool {t : TypeId} {x : AV} (h : TV t x) (hu : Tryd.prog.underlying t = some .bool) : ∃ b : Bool, x = .bool b := by
 obtain ⟨n, e⟩ := QM (h.one (by simp [isAgg, hu])) hu
 exact ⟨n, by simpa using e⟩
theorem TyV.slice {α : Type} {t e : TypeId} {x : AV} {enc : α → List AV} {ok : α → Prop} {sz : Nat} (h : TV t x) (hu : Tryd.prog.underlying t = some (.slice e)) (hs : Tryd.prog.cellsOf e = sz) (hd : ∀ ys, TT e ys → ∃ a, ys = enc a ∧ ok a) :
  ∃ (l : List α) (r : Rt), x = .vs sz (l.map enc) r ∧ inR r l ∧ l.length ≤ 1048576 ∧ ∀ a ∈ l, ok a := by
 obtain ⟨l, r, e, h2⟩ := FT (h.one (by simp [isAgg, hu])) hu hs hd
 exact ⟨l, r, by simpa using e, h2⟩
open Go.Proofs
@[simp] def Dj (s : Str) : List AV := [.str s]
structure Ss where
 l : List Str
 r : Rt
 deriving DecidableEq
@[simp] def Ss.v (x : Ss) : AV := .vs 1 (x.l.map Dj) x.r.strip
@[simp] def Ss.c (x : Ss) : List AV := [x.v]
def Ss.ok (x : Ss) : Prop := (x.r = .nil → x.l = []) ∧ x.l.length ≤ 1048576 ∧ ∀ s ∈ x.l, s.length ≤ 1048576
theorem Ra (cs : List AV) (h : TT IQ cs) : ∃ x : Str, cs = Dj x ∧ x.length ≤ 1048576 := Jo h HC
end Go.Av
