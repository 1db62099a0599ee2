/- Parts of the proofs of this seat: abstract values over the model, and what the functions of the program do. No condition. -/
import Derived.Test.YtgegfcblacmbeaaDoorD1
set_option linter.all false
set_option linter.unusedVariables false
/-! Extents that come in. -/
namespace Go.Av
open Go.Proofs
def Ext.ok (x : Ext) : Prop := -9223372036854775808 ≤ x.off ∧ x.off ≤ 9223372036854775807 ∧ x.data.length ≤ 1048576
set_option maxRecDepth 100000 in
theorem dec_Ext (cs : List AV) (h : TT t_api_Extent cs) : ∃ x : Ext, cs = x.c ∧ x.ok := by
  obtain ⟨h1, h2⟩ := h.struct_inv un_api_Extent
  match cs, h1 with
  | [a, b], _ =>
    obtain ⟨n, h3, h4⟩ := dec_int (h2 _ (List.mem_cons_self)) un_int
    obtain ⟨s, h5, h6⟩ := dec_str (h2 _ (List.mem_cons_of_mem _ List.mem_cons_self)) un_string
    cases h3
    cases h5
    exact ⟨⟨n, s⟩, rfl, h4.1, h4.2, h6⟩
end Go.Av
