/- Parts of the proofs of this seat: abstract values over the model, and what the functions of the program do. No condition. -/
import Derived.Test.YtgegfcblacmbeaaDoorX03
set_option linter.all false
set_option linter.unusedVariables false
/-! Extents: what is read, step by step. -/
namespace Go.Av
/-- One more extent is read. -/
def rFrom (off : Int) (out : Str) (x : Ext) : Int := if off + out.length > x.off then off + out.length else x.off
def rTo (off m : Int) (x : Ext) : Int := if off + m < x.off + x.data.length then off + m else x.off + x.data.length
def readStep (off m : Int) (out : Str) (x : Ext) : Str :=
  if rFrom off out x ≥ rTo off m x then out else
    out ++ List.replicate (rFrom off out x - off - out.length).toNat 0 ++ (x.data.take (rTo off m x - x.off).toNat).drop (rFrom off out x - x.off).toNat
theorem readStep_len {off m : Int} {out : Str} {x : Ext} (h : out.length ≤ m) (hx : 0 ≤ x.off) (ho : 0 ≤ off) : ((readStep off m out x).length : Int) ≤ m := by
  unfold readStep
  split
  · exact h
  · rename_i c
    have : rTo off m x ≤ off + m ∧ rTo off m x ≤ x.off + x.data.length := by unfold rTo; split <;> omega
    have h2 : off + out.length ≤ rFrom off out x ∧ x.off ≤ rFrom off out x := by unfold rFrom; split <;> omega
    simp; omega
/-- What is read, extent by extent. -/
def readP (size : Int) (l : List Ext) (off n : Int) : Str :=
  if off < 0 ∨ off ≥ size ∨ n < 1 then [] else
    let m := if size - off < n then size - off else n
    let out := l.foldl (readStep off m) []
    out ++ List.replicate (m - out.length).toNat 0
theorem foldl_take {α β : Type} (f : β → α → β) (b : β) {l : List α} {i : Nat} {x : α} (h : l[i]? = some x) : (l.take (i + 1)).foldl f b = f ((l.take i).foldl f b) x := by
  rw [List.take_succ, h]; simp
end Go.Av
