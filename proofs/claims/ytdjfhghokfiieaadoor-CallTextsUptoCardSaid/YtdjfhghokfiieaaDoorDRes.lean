/- Parts of the proofs of this seat: abstract values over the model, and what the functions of the program do. No condition. -/
import Derived.Test.YtdjfhghokfiieaaDoorXSplN
set_option linter.all false
set_option linter.unusedVariables false
namespace Go.Av
open Go.Proofs
set_option maxRecDepth 100000 in
theorem TyV.resN {x : AV} (h : TV t_api_Result x) : ∃ (r : ResN) (rt : Rt), x = .agg (r.c rt) ∧ r.ok ∧ r.text.length ≤ 1048576 := by
  obtain ⟨xs, rfl, h2⟩ := h.agg (by simp [isAgg, un_api_Result])
  obtain ⟨hl, hf⟩ := h2.struct_inv un_api_Result
  match xs, hl with
  | [a0, a1, a2, a3, a4, a5, a6, a7], _ =>
    have m0 := hf _ (List.mem_cons_self)
    have m1 := hf _ (List.mem_cons_of_mem _ List.mem_cons_self)
    have m2 := hf _ (List.mem_cons_of_mem _ (List.mem_cons_of_mem _ List.mem_cons_self))
    have m3 := hf _ (List.mem_cons_of_mem _ (List.mem_cons_of_mem _ (List.mem_cons_of_mem _ List.mem_cons_self)))
    have m4 := hf _ (List.mem_cons_of_mem _ (List.mem_cons_of_mem _ (List.mem_cons_of_mem _ (List.mem_cons_of_mem _ List.mem_cons_self))))
    have m5 := hf _ (List.mem_cons_of_mem _ (List.mem_cons_of_mem _ (List.mem_cons_of_mem _ (List.mem_cons_of_mem _ (List.mem_cons_of_mem _ List.mem_cons_self)))))
    have m6 := hf _ (List.mem_cons_of_mem _ (List.mem_cons_of_mem _ (List.mem_cons_of_mem _ (List.mem_cons_of_mem _ (List.mem_cons_of_mem _ (List.mem_cons_of_mem _ List.mem_cons_self))))))
    have m7 := hf _ (List.mem_cons_of_mem _ (List.mem_cons_of_mem _ (List.mem_cons_of_mem _ (List.mem_cons_of_mem _ (List.mem_cons_of_mem _ (List.mem_cons_of_mem _ (List.mem_cons_of_mem _ List.mem_cons_self)))))))
    obtain ⟨k0, e0, q0⟩ := dec_int m0 un_api_Errno
    obtain ⟨k1, e1, q1⟩ := dec_int m1 un_int
    obtain ⟨k2, e2, q2⟩ := dec_int m2 un_int
    obtain ⟨k3, e3, q3⟩ := dec_int m3 un_int
    obtain ⟨k4, e4, q4⟩ := dec_int m4 un_int
    obtain ⟨t, e5, q5⟩ := dec_str m5 un_string
    obtain ⟨ns, e6, q6⟩ := dec_Ss _ m6
    obtain ⟨b, e7⟩ := dec_bool m7 un_bool
    cases e0; cases e1; cases e2; cases e3; cases e4; cases e5; cases e6; cases e7
    exact ⟨⟨k0, k1, k2, k3, k4, t, ns.l, b⟩, ns.r.strip, rfl, ⟨q0, q1, q2, q3, q4⟩, q5⟩
end Go.Av
set_option linter.unusedVariables false
set_option maxRecDepth 100000
namespace Go.Av
open Go.Proofs
set_option maxRecDepth 100000 in
theorem law19_CallShows_L (w0 : World) (hm : MaxL w0) (ht : TabL w0) (he : AtL w0) (x0 x1 : AV) (h0 : TV t_int x0) (h1 : TV t_api_Result x1) : AC w0 F_law19_CallShows [x0, x1] [] fun r _ => r = .bool true := by
  refine law_ofC fun Q hq => ?_
  obtain ⟨k, rfl, hk⟩ := h0.int un_int
  obtain ⟨r, rt, rfl, hr, htx⟩ := h1.resN
  have hrc : r.c rt = [.int .i64 r.err, .int .i64 r.kind, .int .i64 r.size, .int .i64 r.where_, .int .i64 r.id, .str r.text, .vs 1 (r.names.map wStr) rt, .bool r.end_] := rfl
  have hrc2 : r.c rt.strip = [.int .i64 r.err, .int .i64 r.kind, .int .i64 r.size, .int .i64 r.where_, .int .i64 r.id, .str r.text, .vs 1 (r.names.map wStr) rt.strip, .bool r.end_] := rfl
  rw [hrc]
  apply law19_CallShows_ok
  unfold G_law19_CallShows
  simp
  refine law19_speaks_A hm ht he (fun S _ => ?_)
  simp
  by_cases h2 : 2000 < r.text.length
  · have : (2000 : Int) < r.text.length := by omega
    simp [this, hq, joinK_eq]
  have h2i : ¬ (2000 : Int) < r.text.length := by omega
  by_cases h3 : 100 < r.names.length
  · have : (100 : Int) < r.names.length := by omega
    simp [h2i, this, hq, joinK_eq]
  have h3i : ¬ (100 : Int) < r.names.length := by omega
  simp [h2i, h3i, joinK_eq]
  refine loop_list r.names (fun i (_ : Unit) => ([.int .i64 i], [])) (fun i _ S' => S' = S ∧ ∀ s ∈ r.names.take i, s.length ≤ 200) () rfl ⟨rfl, by simp⟩ ?_ ?_
  · rintro i _ S' v b w hi hxi hd hcc hmem ⟨rfl, hal⟩ hv
    simp at hv
    simp [hv, hcc, hxi]
    by_cases h4 : 200 < w.length
    · have : (200 : Int) < w.length := by omega
      simp [this, hq]
    · have : ¬ (200 : Int) < w.length := by omega
      simp [this]
      try simp (disch := omega) only [wrap64]
      refine .next hi () rfl ⟨rfl, fun s hs => ?_⟩
      rw [List.take_succ, hxi] at hs
      rcases List.mem_append.1 hs with hs | hs
      · exact hal s hs
      · simp at hs; subst hs; omega
  · rintro _ S' v b ⟨rfl, hal⟩ hv N
    simp at hv
    rw [List.take_length] at hal
    simp [hv]
    rw [← hrc2]
    refine call_Show_A ht hr htx (by omega) hal (fun S2 hS2 => ?_)
    try simp
    try rw [← hrc2]
    refine ref19_Show_A hr htx (by omega) hal ?_
    simp [hq]
end Go.Av
