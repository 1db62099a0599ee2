/- Parts of the proofs of this seat: abstract values over the model, and what the functions of the program do. No condition. -/
import Derived.Test.YtdjfhghokfiieaaGreatDoorD0
set_option linter.all false
set_option linter.unusedVariables false
namespace Go.Av
def Kp (b : Nat) (S S' : St) : Prop := ∀ j, j < b → S'[j]? = S[j]?
theorem Kp.refl (b : Nat) (S : St) : Kp b S S := fun _ _ => rfl
theorem Kp.trans {b : Nat} {A B D : St} (h : Kp b A B) (k : Kp b B D) : Kp b A D := fun j hj => (k j hj).trans (h j hj)
theorem Kp.set {b id : Nat} {S : St} {o : Obj} (h : b ≤ id) : Kp b S (S.set id o) := fun j hj => getSet_other (by omega)
section
variable {α : Type} {enc : α → List AV} {n : Nat}
def flatE (enc : α → List AV) (l : List α) : List AV := l.flatMap enc
theorem flatE_len (hn : ∀ x, (enc x).length = n) : ∀ (l : List α), (flatE enc l).length = l.length * n
  | [] => by simp [flatE]
  | x :: l => by
    have := flatE_len hn l
    simp only [flatE, List.flatMap_cons, List.length_append, List.length_cons] at this ⊢
    rw [this, hn, Nat.add_mul]; omega
theorem flatE_split {l : List α} {i : Nat} {x : α} (h : l[i]? = some x) : flatE enc l = flatE enc (l.take i) ++ (enc x ++ flatE enc (l.drop (i + 1))) := by
  have hi := (List.getElem?_eq_some_iff.1 h).1
  have h2 := (List.getElem?_eq_some_iff.1 h).2
  conv => lhs; rw [← List.take_append_drop i l, List.drop_eq_getElem_cons hi, h2]
  simp [flatE]
theorem flatE_drop (hn : ∀ x, (enc x).length = n) {l : List α} {i : Nat} {x : α} (J : List AV) (h : l[i]? = some x) : (flatE enc l ++ J).drop (i * n) = enc x ++ (flatE enc (l.drop (i + 1)) ++ J) := by
  have hi := (List.getElem?_eq_some_iff.1 h).1
  have hl : (flatE enc (l.take i)).length = i * n := by rw [flatE_len hn, List.length_take, Nat.min_eq_left (by omega)]
  rw [flatE_split h, List.append_assoc, ← hl, List.drop_left, List.append_assoc]
theorem flatE_get (hn : ∀ x, (enc x).length = n) {l : List α} {i k : Nat} {x : α} (J : List AV) (h : l[i]? = some x) (hk : k < n) : (flatE enc l ++ J)[i * n + k]? = (enc x)[k]? := by
  rw [← List.getElem?_drop, flatE_drop hn J h, List.getElem?_append_left (by rw [hn]; exact hk)]
theorem flatE_le (hn : ∀ x, (enc x).length = n) {l : List α} {i : Nat} {x : α} (J : List AV) (h : l[i]? = some x) : i * n + n ≤ (flatE enc l ++ J).length := by
  have hi := (List.getElem?_eq_some_iff.1 h).1
  rw [List.length_append, flatE_len hn]
  have := Nat.mul_le_mul_right n (show i + 1 ≤ l.length from hi)
  rw [Nat.add_mul] at this
  omega
theorem flatE_write (hn : ∀ x, (enc x).length = n) {l : List α} {i : Nat} {x : α} (J : List AV) (y : α) (h : l[i]? = some x) : writeAt (flatE enc l ++ J) (i * n) (enc y) = flatE enc (l.set i y) ++ J := by
  have hi := (List.getElem?_eq_some_iff.1 h).1
  have hl : (flatE enc (l.take i)).length = i * n := by rw [flatE_len hn, List.length_take, Nat.min_eq_left (by omega)]
  have hs : (l.set i y)[i]? = some y := by simp [hi]
  have e1 : (l.set i y).take i = l.take i := List.take_set_of_le (Nat.le_refl i)
  have e2 : (l.set i y).drop (i + 1) = l.drop (i + 1) := List.drop_set_of_lt (Nat.lt_succ_self i)
  rw [flatE_split hs, e1, e2]
  have e3 := flatE_drop hn J h
  unfold writeAt
  rw [hn, ← List.drop_drop, e3]
  have e4 : (enc x ++ (flatE enc (l.drop (i + 1)) ++ J)).drop n = flatE enc (l.drop (i + 1)) ++ J := by rw [← hn x, List.drop_left]
  rw [e4]
  have e5 : (flatE enc l ++ J).take (i * n) = flatE enc (l.take i) := by
    rw [flatE_split h, List.append_assoc, ← hl, List.take_left]
  rw [e5]
  simp
theorem row_load {T : TI} {S : St} {id tg : Nat} {l : List α} {i : Nat} {x : α} {J : List AV} (hS : S[id]? = some (.cells (flatE enc l ++ J) tg)) (hT : T.size = n) (hA : T.agg = true) (hn : ∀ x, (enc x).length = n) (h : l[i]? = some x) :
    loadA T S (.ptr id (i * n)) = some (.agg (enc x)) := by
  have hle := flatE_le hn J h
  have hd := flatE_drop hn J h
  rw [loadA_ptr hS]
  simp only [readT, hA, hT, if_true, hle, hd]
  rw [← hn x, List.take_left]
theorem row_store {T : TI} {S : St} {id tg : Nat} {l : List α} {i : Nat} {x : α} {J : List AV} (y : α) (hS : S[id]? = some (.cells (flatE enc l ++ J) tg)) (hT : T.size = n) (hn : ∀ x, (enc x).length = n) (h : l[i]? = some x) {v : AV} (hv : v.cells = enc y) (hf : v.free = true) :
    storeA T S (.ptr id (i * n)) v = some (S.set id (.cells (flatE enc (l.set i y) ++ J) tg)) := by
  have hle := flatE_le hn J h
  rw [storeA_ptr hS]
  simp only [storeCellsA, hv, hn, hT, hf, hle, and_self, if_true, Option.map_some]
  rw [flatE_write hn J y h]
theorem row_part {T : TI} {S : St} {id tg : Nat} {l : List α} {i k m : Nat} {x : α} {J : List AV} (hS : S[id]? = some (.cells (flatE enc l ++ J) tg)) (hT : T.size = m) (hA : T.agg = true) (hn : ∀ x, (enc x).length = n) (h : l[i]? = some x) (hk : k + m ≤ n) :
    loadA T S (.ptr id (i * n + k)) = some (.agg (((enc x).drop k).take m)) := by
  have hle := flatE_le hn J h
  have hd := flatE_drop hn J h
  rw [loadA_ptr hS]
  have : (flatE enc l ++ J).drop (i * n + k) = (enc x).drop k ++ (flatE enc (l.drop (i + 1)) ++ J) := by
    rw [← List.drop_drop, hd, List.drop_append_of_le_length (by rw [hn]; omega)]
  simp only [readT, hA, hT, if_true, this]
  rw [if_pos (by omega), List.take_append_of_le_length (by rw [List.length_drop, hn]; omega)]
theorem row_cell {T : TI} {S : St} {id tg : Nat} {l : List α} {i k : Nat} {x : α} {J : List AV} (hS : S[id]? = some (.cells (flatE enc l ++ J) tg)) (hA : T.agg = false) (hn : ∀ x, (enc x).length = n) (h : l[i]? = some x) (hk : k < n) :
    loadA T S (.ptr id (i * n + k)) = (enc x)[k]? := by
  rw [loadA_ptr hS]
  simp only [readT, hA, if_false, Bool.false_eq_true]
  exact flatE_get hn J h hk
end
end Go.Av
