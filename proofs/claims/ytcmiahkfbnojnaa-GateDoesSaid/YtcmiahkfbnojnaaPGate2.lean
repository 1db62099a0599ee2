/- A part of the proof of a law of this seat: The gate's laws: the statement's own small example, and the turns. No condition. -/
import Derived.Test.YtcmiahkfbnojnaaPGate
set_option linter.all false
set_option linter.unusedVariables false
set_option linter.unusedSimpArgs false
/-! The gate's laws: the statement's own small example, and the turns. -/
namespace Go.Av
open Go.Proofs

theorem GS_new (S : St) : GS (S ++ [.cells T27.zero]) S.length [] 0 [] :=
  ⟨.map none, .nil, by simp, fun _ => rfl, by simp, .inl ⟨rfl, rfl⟩⟩

theorem f10 {w0 : World} {S0 : St} : AC w0 10 [] S0 fun r S' => r = .bool true := by
  apply G10_ok
  unfold G10
  have g0 := GS_new S0
  simp only [callK_def, argsA, List.all_cons, free_ptr, free_int, List.all_nil, Bool.and_self, if_true, List.map_cons, List.map_nil, strip_ptr, strip_int, optK_some']
  refine AC_mono (f11 g0 (by omega) (by simp)) ?_
  rintro _ S1 ⟨rfl, h1, _⟩
  have g1 := h1 (by decide)
  refine f13 g1 (by omega) (by omega) (by simp) (fun h => absurd h (by decide)) (fun _ _ S2 g2 => ?_) (fun _ h => absurd h (by decide))
  refine AC_mono (f11 g2 (by omega) (by decide)) ?_
  rintro _ S3 ⟨rfl, _, h3⟩
  have hS3 := h3 (by decide)
  rw [hS3]
  refine f15 g2 (by omega) (fun h => absurd h (by decide)) (fun _ S4 g4 => ?_)
  refine f13 g4 (by omega) (by decide) (by decide) (fun h => absurd h (by decide)) (fun _ h => absurd h (by decide)) (fun _ _ S5 g5 => ?_)
  simp only [show okRead [] [] 0 1 = true from rfl, show okRead ([] ++ [1]) (addW [] 2) 0 3 = false from rfl, joinK_eq, strip_bool, ifK_true, unA_not, Bool.not_false, optK_some', pickA_true]
  refine AC_mono (f20 g5 (by omega)) ?_
  rintro _ S6 ⟨hS6, rfl⟩
  rw [hS6]
  simp only [show decide ((2 : Int) ∈ ([] : List Int) ∨ (2 : Int) + 1 = 2 + 1) = true from rfl, optK_some', pickA_true, strip_bool, ifK_true, optK_some']
  refine AC_mono (f18 g5) ?_
  rintro _ S7 ⟨hS7, rfl⟩
  rw [hS7]
  simp only [show (if (1 : Int) < 2 + 1 then (1 : Int) else 2 + 1) = 1 from rfl, binA_eql, decide_true, optK_some', pickA_true, strip_bool, ifK_true]
  refine AC_mono (f19 g5) ?_
  rintro _ S8 ⟨hS8, rfl⟩
  rw [hS8]
  simp only [show (((addW (addW [] 2) 2).tail.length : Nat) : Int) = 0 from rfl, binA_eql, decide_true, optK_some', pickA_true, strip_bool, ifK_true]
  refine AC_mono (f17 g5) ?_
  rintro _ S9 ⟨hS9, rfl⟩
  simp

/-- a, a+1, .. : n numbers. -/
def rg (a n : Nat) : List Int := (List.range' a n).map fun (i : Nat) => (i : Int)
theorem rg_cons (a n : Nat) : rg a (n + 1) = (a : Int) :: rg (a + 1) n := by simp [rg, List.range'_succ]
theorem rg_snoc (a n : Nat) : rg a n ++ [((a + n : Nat) : Int)] = rg a (n + 1) := by simp [rg, List.range'_concat]
theorem mem_rg {a n : Nat} {x : Int} : x ∈ rg a n ↔ (a : Int) ≤ x ∧ x < a + n := by
  simp only [rg, List.mem_map, List.mem_range'_1]
  constructor
  · rintro ⟨i, ⟨h1, h2⟩, rfl⟩; omega
  · rintro ⟨h1, h2⟩; exact ⟨x.toNat, by omega, by omega⟩
theorem rg_len (a n : Nat) : (rg a n).length = n := by simp [rg]
theorem rg_zero (a : Nat) : rg a 0 = [] := rfl
theorem rg_erase (a n : Nat) : (rg a (n + 1)).erase (a : Int) = rg (a + 1) n := by rw [rg_cons]; simp

theorem addW_rg (a n : Nat) {x : Int} (hx : x = ((a + n : Nat) : Int)) : addW (rg a n) x = rg a (n + 1) := by
  subst hx
  rw [addW, if_neg (by rw [mem_rg]; omega), rg_snoc]
theorem rg_ne (a : Nat) {n : Nat} (h : 0 < n) : rg a n ≠ [] := fun e => by
  have := congrArg List.length e
  rw [rg_len] at this
  simp at this; omega
theorem f4 {w0 : World} {S0 : St} {a0 a1 : Nat} (h0 : a0 < 256) (h1 : a1 < 256) : AC w0 4 [.int .u8 a0, .int .u8 a1] S0 fun r S' => r = .bool true := by
  apply G4_ok
  unfold G4
  simp only [callK_def, argsA, List.all_nil, if_true, List.map_nil, optK_some']
  refine AC_mono f10 ?_
  rintro _ S rfl
  have w0' : IntKind.i64.wrap (a0 : Int) = a0 := wrap64 (by omega) (by omega)
  have w1' : IntKind.i64.wrap (a1 : Int) = a1 := wrap64 (by omega) (by omega)
  have m0 : Int.tmod (a0 : Int) 20 = ((a0 % 20 : Nat) : Int) := rfl
  have m1 : Int.tmod (a1 : Int) 20 = ((a1 % 20 : Nat) : Int) := rfl
  simp only [unA_not, Bool.not_true, optK_some', ifK_false, strip_int, convIntA_int, w0', w1', binA_rem _ _ 20 (by decide), m0, m1, joinK_eq]
  have hN : a0 % 20 < 20 := Nat.mod_lt _ (by decide)
  have hK : a1 % 20 < 20 := Nat.mod_lt _ (by decide)
  generalize a0 % 20 = N at hN
  generalize a1 % 20 = K at hK
  clear w0' w1' m0 m1 h0 h1
  have g0 := GS_new S
  generalize S ++ [Obj.cells T27.zero] = S0' at g0
  generalize S.length = id at g0
  -- who reads comes in
  refine ⟨fun m y S' => ∃ i : Nat, y = ([.int .i64 i], []) ∧ i ≤ N ∧ m = N - i ∧ GS S' id (rg 0 i) 0 [], ⟨_, 0, rfl, Nat.zero_le _, rfl, g0⟩, ?_⟩
  rintro m v b S1 ⟨i, hv, hi, hm, g1⟩
  simp only [Prod.mk.injEq, List.cons.injEq, and_true] at hv
  simp only [hv, binA_lss, optK_some', strip_int, List.all_cons, free_ptr, free_int, List.all_nil, Bool.and_self, if_true, List.map_cons, List.map_nil, strip_ptr]
  refine ifK_iff (fun c => ?_) (fun c => ?_)
  · have hok : okRead (rg 0 i) [] 0 i = true := by simp [okRead, mem_rg]
    refine AC_mono (f11 g1 (by omega) (by simp)) ?_
    rintro _ S2 ⟨rfl, g2, _⟩
    have hw : IntKind.i64.wrap ((i : Int) + 1) = i + 1 := wrap64 (by omega) (by omega)
    rw [hok]
    simp only [unA_not, Bool.not_true, optK_some', ifK_false, binA_add, hw, strip_int]
    refine ⟨_, ?_, i + 1, by simp, by omega, rfl, ?_⟩
    · omega
    · rw [← rg_snoc]; simpa using g2 hok
  have hi' : i = N := by omega
  subst hi'
  clear hv hm c hi
  -- who writes waits
  refine ⟨fun m y S' => ∃ j : Nat, y = ([.int .i64 j], []) ∧ j ≤ K ∧ m = K - j ∧ (if i = 0 ∧ 0 < j then GS S' id [] 101 (rg 101 (j - 1)) else GS S' id (rg 0 i) 0 (rg 100 j)), ⟨_, 0, rfl, Nat.zero_le _, rfl, by rw [if_neg (by simp)]; exact g1⟩, ?_⟩
  clear g1 g0
  rintro m v b S1 ⟨j, hv, hj, hm, g1⟩
  simp only [Prod.mk.injEq, List.cons.injEq, and_true] at hv
  simp only [hv, binA_lss, optK_some', strip_int, List.all_cons, free_ptr, free_int, List.all_nil, Bool.and_self, if_true, List.map_cons, List.map_nil, strip_ptr]
  refine ifK_iff (fun c => ?_) (fun c => ?_)
  · have hw : IntKind.i64.wrap ((100 : Int) + j) = 100 + j := wrap64 (by omega) (by omega)
    have hw2 : IntKind.i64.wrap ((j : Int) + 1) = j + 1 := wrap64 (by omega) (by omega)
    simp only [binA_add, hw, hw2, optK_some', binA_eql, strip_int, strip_bool, List.all_cons, free_ptr, free_int, List.all_nil, Bool.and_self, if_true, List.map_cons, List.map_nil, strip_ptr]
    by_cases ci : i = 0
    · subst ci
      by_cases cj : j = 0
      · subst cj
        rw [if_neg (by simp)] at g1
        refine f13 g1 (by omega) (by omega) (by simp [rg_len]) (fun h => absurd h (by simp [rg])) (fun _ h => absurd h (by decide)) (fun _ _ S2 g2 => ?_)
        simp only [Int.natCast_zero, decide_true, ifK_true, pickA_true, optK_some', strip_bool, binE_bool_neq, BEq.rfl, Bool.not_true, ifK_false]
        exact ⟨_, by omega, 1, by simp, by omega, rfl, by rw [if_pos (by simp)]; exact g2⟩
      · rw [if_pos ⟨rfl, by omega⟩] at g1
        have hno : okWrite [] (rg 101 (j - 1)) 101 (100 + (j : Int)) = false := by simp [okWrite]
        refine f13 g1 (by omega) (by omega) (by simp [rg_len]; omega) (fun h => absurd h (by simp; omega)) (fun _ _ S2 g2 => ?_) (fun _ h => absurd h (by rw [hno]; decide))
        have hj0 : ¬ ((j : Int) = 0) := by omega
        simp only [Int.natCast_zero, decide_true, ifK_true, pickA_true, optK_some', strip_bool, binE_bool_neq, hj0, decide_false, BEq.rfl, Bool.not_true, ifK_false]
        refine ⟨_, ?_, j + 1, by simp, by omega, rfl, ?_⟩
        · omega
        · rw [if_pos (by simp)]
          rw [addW_rg 101 (j - 1) (by omega)] at g2
          rw [show j + 1 - 1 = j - 1 + 1 from by omega]
          exact g2
    · rw [if_neg (fun h => ci h.1)] at g1
      have hno : okWrite (rg 0 i) (rg 100 j) 0 (100 + (j : Int)) = false := by simp [okWrite, rg_ne 0 (show 0 < i by omega)]
      refine f13 g1 (by omega) (by omega) (by simp [rg_len]; omega) (fun h => absurd h (by rw [mem_rg]; omega)) (fun _ _ S2 g2 => ?_) (fun _ h => absurd h (by rw [hno]; decide))
      have hi0 : ¬ ((i : Int) = 0) := by omega
      simp only [hi0, decide_false, ifK_false, pickA_false, optK_some', strip_bool, binE_bool_neq, BEq.rfl, Bool.not_true]
      refine ⟨_, ?_, j + 1, by simp, by omega, rfl, ?_⟩
      · omega
      · rw [if_neg (fun h => ci h.1)]
        rw [addW_rg 100 j (by omega)] at g2
        exact g2
  have hj' : j = K := by omega
  subst hj'
  clear hv hm c hj
  have g2 : ∃ w a n, GS S1 id (rg 0 i) w (rg a n) ∧ a + n = 100 + j ∧ ((w = 101 ∧ a = 101 ∧ i = 0 ∧ 0 < j) ∨ (w = 0 ∧ a = 100)) := by
    by_cases c : i = 0 ∧ 0 < j
    · rw [if_pos c] at g1
      obtain ⟨rfl, c⟩ := c
      exact ⟨101, 101, j - 1, g1, by omega, .inl ⟨rfl, rfl, rfl, c⟩⟩
    · rw [if_neg c] at g1
      exact ⟨0, 100, j, g1, rfl, .inr ⟨rfl, rfl⟩⟩
  clear g1
  obtain ⟨w, a, n, g1, han, hwa⟩ := g2
  -- who reads goes
  refine ⟨fun m y S' => ∃ k : Nat, y = ([.int .i64 k], []) ∧ k ≤ i ∧ m = i - k ∧ GS S' id (rg k (i - k)) w (rg a n), ⟨_, 0, rfl, Nat.zero_le _, rfl, g1⟩, ?_⟩
  clear g1
  rintro m v b S1 ⟨k, hv, hk, hm, g1⟩
  simp only [Prod.mk.injEq, List.cons.injEq, and_true] at hv
  simp only [hv, binA_lss, optK_some', strip_int, List.all_cons, free_ptr, free_int, List.all_nil, Bool.and_self, if_true, List.map_cons, List.map_nil, strip_ptr]
  refine ifK_iff (fun c => ?_) (fun c => ?_)
  · obtain ⟨rfl, rfl⟩ : w = 0 ∧ a = 100 := by
      rcases hwa with h | h
      · omega
      · exact h
    obtain rfl : n = j := by omega
    have hw2 : IntKind.i64.wrap ((k : Int) + 1) = k + 1 := wrap64 (by omega) (by omega)
    obtain ⟨l, hl⟩ : ∃ l, i - k = l + 1 := ⟨i - k - 1, by omega⟩
    have hgo : ∀ S2, GS S2 id (rg (k + 1) (i - (k + 1))) 0 (rg 100 n) → ∃ m_1, m_1 < m ∧ ∃ k_1 : Nat, ([AV.int .i64 ((k : Int) + 1)], ([] : List (Option (List AV)))) = ([.int .i64 k_1], []) ∧ k_1 ≤ i ∧ m_1 = i - k_1 ∧ GS S2 id (rg k_1 (i - k_1)) 0 (rg 100 n) := fun S2 g =>
      ⟨_, by omega, k + 1, by simp, by omega, rfl, g⟩
    have her : (rg k (i - k)).erase (k : Int) = rg (k + 1) (i - (k + 1)) := by rw [hl, rg_erase]; congr 1; omega
    have hin : (k : Int) ∈ rg k (i - k) := by rw [mem_rg]; omega
    by_cases cj : 0 < n
    · have hj0 : ((n : Int) > 0) := by omega
      have hno : okWrite (rg k (i - k)) (rg 100 n) 0 100 = false := by simp [okWrite, rg_ne k (show 0 < i - k by omega)]
      have h100 : (100 : Int) ∈ rg 100 n := by rw [mem_rg]; omega
      simp only [binA_gtr, hj0, decide_true, optK_some', strip_bool, ifK_true]
      refine f13 g1 (by omega) (by omega) (by simp [rg_len]; omega) (fun h => absurd h (by rw [mem_rg]; omega)) (fun _ _ S2 g2 => ?_) (fun _ h => absurd h (by rw [hno]; decide))
      rw [addW, if_pos h100] at g2
      simp only [pickA_true, optK_some', strip_bool, ifK_false]
      refine f15 g2 (by omega) (fun h => absurd (.inl hin) h) (fun _ S3 g3 => ?_)
      rw [her, if_neg (by omega)] at g3
      simp only [unA_not, Bool.not_true, optK_some', pickA_false, strip_bool, ifK_false, binA_add, hw2, strip_int]
      exact hgo _ g3
    · have hj0 : ¬ ((n : Int) > 0) := by omega
      simp only [binA_gtr, hj0, decide_false, optK_some', strip_bool, ifK_false, pickA_false]
      refine f15 g1 (by omega) (fun h => absurd (.inl hin) h) (fun _ S3 g3 => ?_)
      rw [her, if_neg (by omega)] at g3
      simp only [unA_not, Bool.not_true, optK_some', pickA_false, strip_bool, ifK_false, binA_add, hw2, strip_int]
      exact hgo _ g3
  have hk' : k = i := by omega
  subst hk'
  rw [Nat.sub_self, rg_zero] at g1
  clear hv hm c hk
  -- who writes comes in, and goes
  have g2 : (0 < j ∧ GS S1 id [] 101 (rg 101 (j - 1))) ∨ GS S1 id [] 0 (rg 100 j) := by
    rcases hwa with ⟨rfl, rfl, _, hj⟩ | ⟨rfl, rfl⟩
    · obtain rfl : n = j - 1 := by omega
      exact .inl ⟨hj, g1⟩
    · obtain rfl : n = j := by omega
      exact .inr g1
  clear g1 hwa han
  refine ⟨fun m y S' => ∃ k : Nat, y = ([.int .i64 k], []) ∧ k ≤ j ∧ m = j - k ∧ ((k < j ∧ GS S' id [] (((100 + k + 1 : Nat)) : Int) (rg (100 + k + 1) (j - k - 1))) ∨ GS S' id [] 0 (rg (100 + k) (j - k))), ⟨_, 0, rfl, Nat.zero_le _, rfl, ?_⟩, ?_⟩
  · rcases g2 with ⟨h, g⟩ | g
    · exact .inl ⟨h, g⟩
    · exact .inr g
  clear g2
  rintro m v b S1 ⟨i, hv, hi, hm, g1⟩
  simp only [Prod.mk.injEq, List.cons.injEq, and_true] at hv
  simp only [hv, binA_lss, optK_some', strip_int, List.all_cons, free_ptr, free_int, List.all_nil, Bool.and_self, if_true, List.map_cons, List.map_nil, strip_ptr]
  refine ifK_iff (fun c => ?_) (fun c => ?_)
  · have hwi : IntKind.i64.wrap ((i : Int) + 1) = i + 1 := wrap64 (by omega) (by omega)
    have hwi2 : IntKind.i64.wrap ((100 : Int) + i) = 100 + i := wrap64 (by omega) (by omega)
    have c' : i < j := by omega
    simp only [binA_add, hwi, hwi2, optK_some']
    refine ⟨fun m y S' => ∃ q : Nat, y = ([.int .i64 q], []) ∧ i < q ∧ q ≤ j ∧ m = j - q ∧ (GS S' id [] (((100 + i + 1 : Nat)) : Int) (rg (100 + i + 1) (j - i - 1)) ∨ GS S' id [] 0 (rg (100 + i) (j - i))), ⟨_, i + 1, by simp, by omega, by omega, rfl, g1.imp (fun h => h.2) (fun h => h)⟩, ?_⟩
    clear g1
    rintro m2 v2 b2 S2 ⟨q, hv2, hq1, hq2, hm2, g1⟩
    simp only [Prod.mk.injEq, List.cons.injEq, and_true] at hv2
    simp only [hv2, binA_lss, optK_some', strip_int, List.all_cons, free_ptr, free_int, List.all_nil, Bool.and_self, if_true, List.map_cons, List.map_nil, strip_ptr]
    refine ifK_iff (fun c2 => ?_) (fun c2 => ?_)
    · have hwq : IntKind.i64.wrap ((q : Int) + 1) = q + 1 := wrap64 (by omega) (by omega)
      have hwq2 : IntKind.i64.wrap ((100 : Int) + q) = 100 + q := wrap64 (by omega) (by omega)
      simp only [binA_add, hwq, hwq2, optK_some', strip_int, List.all_cons, free_ptr, free_int, List.all_nil, Bool.and_self, if_true, List.map_cons, List.map_nil, strip_ptr]
      rcases g1 with g1 | g1
      · have hno : okWrite [] (rg (100 + i + 1) (j - i - 1)) (((100 + i + 1 : Nat)) : Int) (100 + (q : Int)) = false := by
          simp only [okWrite, decide_eq_false_iff_not]
          intro h
          omega
        refine f13 g1 (by omega) (by omega) (by simp [rg_len]; omega) (fun h => absurd h (by simp; omega)) (fun _ _ S3 g3 => ?_) (fun _ h => absurd h (by rw [hno]; decide))
        rw [addW, if_pos (by rw [mem_rg]; omega)] at g3
        simp only [ifK_false]
        exact ⟨_, by omega, q + 1, by simp, by omega, by omega, rfl, .inl g3⟩
      · obtain ⟨l, hl⟩ : ∃ l, j - i = l + 1 := ⟨j - i - 1, by omega⟩
        have hmem : (100 + (q : Int)) ∈ rg (100 + i) (j - i) := by rw [mem_rg]; omega
        have hno : okWrite [] (rg (100 + i) (j - i)) 0 (100 + (q : Int)) = false := by
          simp only [okWrite, addW, if_pos hmem, decide_eq_false_iff_not]
          rw [hl, rg_cons]
          intro h
          have := h.1
          simp at this
          omega
        refine f13 g1 (by omega) (by omega) (by simp [rg_len]; omega) (fun h => absurd h (by simp; omega)) (fun _ _ S3 g3 => ?_) (fun _ h => absurd h (by rw [hno]; decide))
        rw [addW, if_pos hmem] at g3
        simp only [ifK_false]
        exact ⟨_, by omega, q + 1, by simp, by omega, by omega, rfl, .inr g3⟩
    · clear hv2 hq1 hq2 hm2 c2
      -- who is in goes
      have leave : ∀ S3, GS S3 id [] (((100 + i + 1 : Nat)) : Int) (rg (100 + i + 1) (j - i - 1)) → AC w0 15 [.ptr id 0, .int .i64 (100 + (i : Int))] S3 fun r S4 => r = .bool true ∧ GS S4 id [] 0 (rg (100 + (i + 1)) (j - (i + 1))) := fun S3 g3 => by
        refine f15 g3 (by omega) (fun h => absurd (.inr (by omega)) h) (fun _ S4 g4 => ⟨rfl, ?_⟩)
        rw [if_pos (by omega)] at g4
        exact g4
      have noread : ∀ S3, GS S3 id [] (((100 + i + 1 : Nat)) : Int) (rg (100 + i + 1) (j - i - 1)) → AC w0 11 [.ptr id 0, .int .i64 5] S3 fun r S4 => r = .bool false ∧ S4 = S3 := fun S3 g3 => by
        have hno : okRead [] (rg (100 + i + 1) (j - i - 1)) (((100 + i + 1 : Nat)) : Int) 5 = false := by
          simp only [okRead, decide_eq_false_iff_not]
          intro h; omega
        refine AC_mono (f11 g3 (by omega) (by simp [rg_len]; omega)) ?_
        rintro r S4 ⟨rfl, _, h⟩
        exact ⟨by rw [hno], h hno⟩
      rcases g1 with g1 | g1
      · refine AC_mono (f20 g1 (by omega)) ?_
        rintro _ S3 ⟨hS, rfl⟩
        rw [hS]
        have : ((100 + (i : Int)) ∈ ([] : List Int) ∨ (((100 + i + 1 : Nat)) : Int) = 100 + (i : Int) + 1) := .inr (by omega)
        simp only [this, decide_true, unA_not, Bool.not_true, optK_some', strip_bool, ifK_false, pickA_false]
        refine AC_mono (noread _ g1) ?_
        rintro _ S4 ⟨rfl, hS4⟩
        rw [hS4]
        simp only [optK_some', pickA_false, strip_bool, ifK_false]
        refine AC_mono (leave _ g1) ?_
        rintro _ S5 ⟨rfl, g5⟩
        simp only [unA_not, Bool.not_true, optK_some', pickA_false, strip_bool, ifK_false]
        exact ⟨_, by omega, i + 1, by simp, by omega, rfl, .inr g5⟩
      · refine AC_mono (f20 g1 (by omega)) ?_
        rintro _ S3 ⟨hS, rfl⟩
        rw [hS]
        have : ¬ ((100 + (i : Int)) ∈ ([] : List Int) ∨ (0 : Int) = 100 + (i : Int) + 1) := by simp; omega
        simp only [this, decide_false, unA_not, Bool.not_false, optK_some', strip_bool, ifK_true]
        obtain ⟨l, hl⟩ : ∃ l, j - i = l + 1 := ⟨j - i - 1, by omega⟩
        have hmem : (100 + (i : Int)) ∈ rg (100 + i) (j - i) := by rw [mem_rg]; omega
        have hyes : okWrite [] (rg (100 + i) (j - i)) 0 (100 + (i : Int)) = true := by
          simp only [okWrite, addW, if_pos hmem, decide_eq_true_eq]
          rw [hl, rg_cons]
          simp
        refine f13 g1 (by omega) (by omega) (by simp [rg_len]; omega) (fun h => absurd h this) (fun _ h => absurd h (by rw [hyes]; decide)) (fun _ _ S4 g4 => ?_)
        have g4' : GS S4 id [] (((100 + i + 1 : Nat)) : Int) (rg (100 + i + 1) (j - i - 1)) := by
          rw [addW, if_pos hmem, hl, rg_cons] at g4
          rw [show j - i - 1 = l from by omega]
          simpa using g4
        simp only [unA_not, Bool.not_true, optK_some', pickA_true, strip_bool, ifK_false]
        refine AC_mono (noread _ g4') ?_
        rintro _ S5 ⟨rfl, hS5⟩
        rw [hS5]
        simp only [optK_some', pickA_false, strip_bool, ifK_false]
        refine AC_mono (leave _ g4') ?_
        rintro _ S6 ⟨rfl, g6⟩
        simp only [unA_not, Bool.not_true, optK_some', pickA_false, strip_bool, ifK_false]
        exact ⟨_, by omega, i + 1, by simp, by omega, rfl, .inr g6⟩
  obtain rfl : i = j := by omega
  have g2 : GS S1 id [] 0 [] := by
    rcases g1 with ⟨h, _⟩ | g1
    · omega
    · rw [Nat.sub_self, rg_zero] at g1; exact g1
  refine AC_mono (f11 g2 (by omega) (by simp)) ?_
  rintro _ S2 ⟨rfl, h, _⟩
  have g3 := h (by decide)
  simp only [show okRead [] [] 0 5 = true from rfl, strip_bool, ifK_true]
  refine AC_mono (f17 g3) ?_
  rintro _ S3 ⟨hS, rfl⟩
  rw [hS]
  simp only [show ((([] ++ [5] : List Int).length : Nat) : Int) = 1 from rfl, binA_eql, decide_true, optK_some', pickA_true, strip_bool, ifK_true]
  refine AC_mono (f19 g3) ?_
  rintro _ S4 ⟨hS, rfl⟩
  simp
end Go.Av
