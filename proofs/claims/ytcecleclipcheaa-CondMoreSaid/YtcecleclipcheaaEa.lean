/-
  What the program's functions and the reference's compute: registers, names.
  What the program's functions and the reference's compute: lines.
  What the reference's functions compute: labels, names put in order.
  What the reference's functions compute: what is wrong with a line.
-/
import Derived.Test.YtcecleclipcheaaU9
import Derived.Test.YtcecleclipcheaaSh28
import Derived.Test.YtcecleclipcheaaNa
set_option linter.unusedVariables false
set_option linter.unusedSimpArgs false
namespace Go.Proofs.Ytcecleclipcheaa
open Go Go.Shade Go.Fence
attribute [local congr] ite_congr

theorem small4 {n : Int} (h0 : ¬ n < 0) (h4 : ¬ 4 ≤ n) : n = 0 ∨ n = 1 ∨ n = 2 ∨ n = 3 := by omega
set_option maxHeartbeats 1000000 in
set_option maxRecDepth 10000 in
theorem e_regname (n : Int) (stk : Stk) : cl Try.prog an prm 120 [.int .i64 n] stk = some (.str (regN n), stk) := by
  rw [cl_eq rfl Try.func120 rfl _ _ (by simp [Try.f120])]
  by_cases h0 : n < 0
  · simp +contextual (maxSteps := 10000000) only [go_sem, ↓reduceIte, Nat.reduceLT, Nat.reduceEqDiff, Nat.reduceAdd, Nat.reduceSub, Nat.reduceMul, Nat.reduceLeDiff, Nat.reduceBEq, reduceCtorEq, Int.reduceAdd, Int.reduceSub, Int.reduceMul, Int.reduceLT, Int.reduceLE, Int.reduceToNat, Int.reduceNeg, Int.reduceEq, Int.reduceNe, UInt8.reduceOfNat, decide_eq_true_eq, decide_eq_false_iff_not, true_and, h0, regN_out (.inl h0), t0]
  by_cases h4 : 4 ≤ n
  · simp +contextual (maxSteps := 10000000) only [go_sem, ↓reduceIte, Nat.reduceLT, Nat.reduceEqDiff, Nat.reduceAdd, Nat.reduceSub, Nat.reduceMul, Nat.reduceLeDiff, Nat.reduceBEq, reduceCtorEq, Int.reduceAdd, Int.reduceSub, Int.reduceMul, Int.reduceLT, Int.reduceLE, Int.reduceToNat, Int.reduceNeg, Int.reduceEq, Int.reduceNe, UInt8.reduceOfNat, decide_eq_true_eq, decide_eq_false_iff_not, true_and, h0, h4, regN_out (.inr h4), t0]
  have h5 : (0 : Int) ≤ n := by omega
  rcases small4 h0 h4 with rfl | rfl | rfl | rfl <;> (simp +contextual (maxSteps := 10000000) only [go_sem, ↓reduceIte, Nat.reduceLT, Nat.reduceEqDiff, Nat.reduceAdd, Nat.reduceSub, Nat.reduceMul, Nat.reduceLeDiff, Nat.reduceBEq, reduceCtorEq, Int.reduceAdd, Int.reduceSub, Int.reduceMul, Int.reduceLT, Int.reduceLE, Int.reduceToNat, Int.reduceNeg, Int.reduceEq, Int.reduceNe, UInt8.reduceOfNat, decide_eq_true_eq, decide_eq_false_iff_not, true_and, h0, h4]; rfl)

set_option maxHeartbeats 1000000 in
set_option maxRecDepth 10000 in
theorem e_rregname (n : Int) (stk : Stk) : cl Try.prog an prm 33 [.int .i64 n] stk = some (.str (regN n), stk) := by
  rw [cl_eq rfl Try.func33 rfl _ _ (by simp [Try.f33])]
  by_cases h0 : n < 0
  · simp +contextual (maxSteps := 10000000) only [go_sem, ↓reduceIte, Nat.reduceLT, Nat.reduceEqDiff, Nat.reduceAdd, Nat.reduceSub, Nat.reduceMul, Nat.reduceLeDiff, Nat.reduceBEq, reduceCtorEq, Int.reduceAdd, Int.reduceSub, Int.reduceMul, Int.reduceLT, Int.reduceLE, Int.reduceToNat, Int.reduceNeg, Int.reduceEq, Int.reduceNe, UInt8.reduceOfNat, decide_eq_true_eq, decide_eq_false_iff_not, true_and, h0, regN_out (.inl h0), t0]
  by_cases h4 : 4 ≤ n
  · simp +contextual (maxSteps := 10000000) only [go_sem, ↓reduceIte, Nat.reduceLT, Nat.reduceEqDiff, Nat.reduceAdd, Nat.reduceSub, Nat.reduceMul, Nat.reduceLeDiff, Nat.reduceBEq, reduceCtorEq, Int.reduceAdd, Int.reduceSub, Int.reduceMul, Int.reduceLT, Int.reduceLE, Int.reduceToNat, Int.reduceNeg, Int.reduceEq, Int.reduceNe, UInt8.reduceOfNat, decide_eq_true_eq, decide_eq_false_iff_not, true_and, h0, h4, regN_out (.inr h4), t0]
  have h5 : (0 : Int) ≤ n := by omega
  rcases small4 h0 h4 with rfl | rfl | rfl | rfl <;> (simp +contextual (maxSteps := 10000000) only [go_sem, ↓reduceIte, Nat.reduceLT, Nat.reduceEqDiff, Nat.reduceAdd, Nat.reduceSub, Nat.reduceMul, Nat.reduceLeDiff, Nat.reduceBEq, reduceCtorEq, Int.reduceAdd, Int.reduceSub, Int.reduceMul, Int.reduceLT, Int.reduceLE, Int.reduceToNat, Int.reduceNeg, Int.reduceEq, Int.reduceNe, UInt8.reduceOfNat, decide_eq_true_eq, decide_eq_false_iff_not, true_and, h0, h4]; rfl)

theorem reg_if (s : ByteArray) : (if strEq (regN 0) s = true then (0 : Int) else if strEq (regN 1) s = true then 1 else if strEq (regN 2) s = true then 2 else if strEq (regN 3) s = true then 3 else -1) = regI s := by
  simp only [strEq_iff, regI, eq_comm (b := s), show regN 0 = tEax from rfl, show regN 1 = tEbx from rfl, show regN 2 = tEcx from rfl, show regN 3 = tEdx from rfl]

set_option maxHeartbeats 1000000 in
set_option maxRecDepth 10000 in
theorem e_reg (s : ByteArray) (stk : Stk) : cl Try.prog an prm 72 [.str s] stk = some (.int .i64 (regI s), stk) := by
  rw [cl_eq rfl Try.func72 rfl _ _ (by simp [Try.f72])]
  simp +contextual (maxSteps := 10000000) only [go_sem, ↓reduceIte, Nat.reduceLT, Nat.reduceEqDiff, Nat.reduceAdd, Nat.reduceSub, Nat.reduceMul, Nat.reduceLeDiff, Nat.reduceBEq, reduceCtorEq, Int.reduceAdd, Int.reduceSub, Int.reduceMul, Int.reduceLT, Int.reduceLE, Int.reduceToNat, Int.reduceNeg, Int.reduceEq, Int.reduceNe, UInt8.reduceOfNat, decide_eq_true_eq, decide_eq_false_iff_not, true_and, e_regname, ev_unroll, pruE_some, again_eq]
  rw [reg_if]

set_option maxHeartbeats 1000000 in
set_option maxRecDepth 10000 in
theorem e_rreg (s : ByteArray) (stk : Stk) : cl Try.prog an prm 107 [.str s] stk = some (.int .i64 (regI s), stk) := by
  rw [cl_eq rfl Try.func107 rfl _ _ (by simp [Try.f107])]
  simp +contextual (maxSteps := 10000000) only [go_sem, ↓reduceIte, Nat.reduceLT, Nat.reduceEqDiff, Nat.reduceAdd, Nat.reduceSub, Nat.reduceMul, Nat.reduceLeDiff, Nat.reduceBEq, reduceCtorEq, Int.reduceAdd, Int.reduceSub, Int.reduceMul, Int.reduceLT, Int.reduceLE, Int.reduceToNat, Int.reduceNeg, Int.reduceEq, Int.reduceNe, UInt8.reduceOfNat, decide_eq_true_eq, decide_eq_false_iff_not, true_and, e_rregname, ev_unroll, pruE_some, again_eq]
  rw [reg_if]

set_option maxHeartbeats 1000000 in
set_option maxRecDepth 10000 in
theorem e_rkey (s : ByteArray) (stk : Stk) : cl Try.prog an prm 136 [.str s] stk = some (.bool (keyB s), stk) := by
  rw [cl_eq rfl Try.func136 rfl _ _ (by simp [Try.f136])]
  simp +contextual (maxSteps := 10000000) only [go_sem, ↓reduceIte, Nat.reduceLT, Nat.reduceEqDiff, Nat.reduceAdd, Nat.reduceSub, Nat.reduceMul, Nat.reduceLeDiff, Nat.reduceBEq, reduceCtorEq, Int.reduceAdd, Int.reduceSub, Int.reduceMul, Int.reduceLT, Int.reduceLE, Int.reduceToNat, Int.reduceNeg, Int.reduceEq, Int.reduceNe, UInt8.reduceOfNat, decide_eq_true_eq, decide_eq_false_iff_not, true_and]
  simp only [strEq_eq, keyB, keys, List.any_cons, List.any_nil, Bool.or_false, Bool.or_assoc]

/-- which of its parts a line of a kind has -/
def hasP (o : Int) : V := .tup [.bool (hasReg o), .bool (hasLoc o), .bool (hasLab o), .bool (hasN o)]
set_option maxHeartbeats 1000000 in
set_option maxRecDepth 10000 in
theorem e_rhas (o : Int) (stk : Stk) : cl Try.prog an prm 106 [.int .i64 o] stk = some (hasP o, stk) := by
  rw [cl_eq rfl Try.func106 rfl _ _ (by simp [Try.f106])]
  simp +contextual (maxSteps := 10000000) only [go_sem, ↓reduceIte, Nat.reduceLT, Nat.reduceEqDiff, Nat.reduceAdd, Nat.reduceSub, Nat.reduceMul, Nat.reduceLeDiff, Nat.reduceBEq, reduceCtorEq, Int.reduceAdd, Int.reduceSub, Int.reduceMul, Int.reduceLT, Int.reduceLE, Int.reduceToNat, Int.reduceNeg, Int.reduceEq, Int.reduceNe, UInt8.reduceOfNat, decide_eq_true_eq, decide_eq_false_iff_not, true_and]
  simp only [hasP, hasReg, hasLoc, hasLab, hasN, Bool.decide_or, Bool.decide_and, Bool.or_assoc]

set_option maxHeartbeats 4000000 in
set_option maxRecDepth 10000 in
theorem e_key (s : ByteArray) (stk : Stk) : cl Try.prog an prm 173 [.str s] stk = some (.bool (keyB s), stk) := by
  rw [cl_eq rfl Try.func173 rfl _ _ (by simp [Try.f173])]
  cases h0 : strEq s { data := #[120, 56, 54] } with
  | true =>
    simp +contextual (maxSteps := 10000000) only [go_sem, ↓reduceIte, Nat.reduceLT, Nat.reduceEqDiff, Nat.reduceAdd, Nat.reduceSub, Nat.reduceMul, Nat.reduceLeDiff, Nat.reduceBEq, reduceCtorEq, Int.reduceAdd, Int.reduceSub, Int.reduceMul, Int.reduceLT, Int.reduceLE, Int.reduceToNat, Int.reduceNeg, Int.reduceEq, Int.reduceNe, UInt8.reduceOfNat, true_and, h0]
    simp [keyB, keys, strEq_iff.1 h0]
  | false =>
  cases h1 : strEq s { data := #[105, 110, 105, 116] } with
  | true =>
    simp +contextual (maxSteps := 10000000) only [go_sem, ↓reduceIte, Nat.reduceLT, Nat.reduceEqDiff, Nat.reduceAdd, Nat.reduceSub, Nat.reduceMul, Nat.reduceLeDiff, Nat.reduceBEq, reduceCtorEq, Int.reduceAdd, Int.reduceSub, Int.reduceMul, Int.reduceLT, Int.reduceLE, Int.reduceToNat, Int.reduceNeg, Int.reduceEq, Int.reduceNe, UInt8.reduceOfNat, true_and, h0, h1]
    simp [keyB, keys, strEq_iff.1 h1]
  | false =>
  cases h2 : strEq s { data := #[116, 104, 114, 101, 97, 100] } with
  | true =>
    simp +contextual (maxSteps := 10000000) only [go_sem, ↓reduceIte, Nat.reduceLT, Nat.reduceEqDiff, Nat.reduceAdd, Nat.reduceSub, Nat.reduceMul, Nat.reduceLeDiff, Nat.reduceBEq, reduceCtorEq, Int.reduceAdd, Int.reduceSub, Int.reduceMul, Int.reduceLT, Int.reduceLE, Int.reduceToNat, Int.reduceNeg, Int.reduceEq, Int.reduceNe, UInt8.reduceOfNat, true_and, h0, h1, h2]
    simp [keyB, keys, strEq_iff.1 h2]
  | false =>
  cases h3 : strEq s { data := #[109, 111, 118] } with
  | true =>
    simp +contextual (maxSteps := 10000000) only [go_sem, ↓reduceIte, Nat.reduceLT, Nat.reduceEqDiff, Nat.reduceAdd, Nat.reduceSub, Nat.reduceMul, Nat.reduceLeDiff, Nat.reduceBEq, reduceCtorEq, Int.reduceAdd, Int.reduceSub, Int.reduceMul, Int.reduceLT, Int.reduceLE, Int.reduceToNat, Int.reduceNeg, Int.reduceEq, Int.reduceNe, UInt8.reduceOfNat, true_and, h0, h1, h2, h3]
    simp [keyB, keys, strEq_iff.1 h3]
  | false =>
  cases h4 : strEq s { data := #[120, 99, 104, 103] } with
  | true =>
    simp +contextual (maxSteps := 10000000) only [go_sem, ↓reduceIte, Nat.reduceLT, Nat.reduceEqDiff, Nat.reduceAdd, Nat.reduceSub, Nat.reduceMul, Nat.reduceLeDiff, Nat.reduceBEq, reduceCtorEq, Int.reduceAdd, Int.reduceSub, Int.reduceMul, Int.reduceLT, Int.reduceLE, Int.reduceToNat, Int.reduceNeg, Int.reduceEq, Int.reduceNe, UInt8.reduceOfNat, true_and, h0, h1, h2, h3, h4]
    simp [keyB, keys, strEq_iff.1 h4]
  | false =>
  cases h5 : strEq s { data := #[109, 102, 101, 110, 99, 101] } with
  | true =>
    simp +contextual (maxSteps := 10000000) only [go_sem, ↓reduceIte, Nat.reduceLT, Nat.reduceEqDiff, Nat.reduceAdd, Nat.reduceSub, Nat.reduceMul, Nat.reduceLeDiff, Nat.reduceBEq, reduceCtorEq, Int.reduceAdd, Int.reduceSub, Int.reduceMul, Int.reduceLT, Int.reduceLE, Int.reduceToNat, Int.reduceNeg, Int.reduceEq, Int.reduceNe, UInt8.reduceOfNat, true_and, h0, h1, h2, h3, h4, h5]
    simp [keyB, keys, strEq_iff.1 h5]
  | false =>
  cases h6 : strEq s { data := #[99, 109, 112] } with
  | true =>
    simp +contextual (maxSteps := 10000000) only [go_sem, ↓reduceIte, Nat.reduceLT, Nat.reduceEqDiff, Nat.reduceAdd, Nat.reduceSub, Nat.reduceMul, Nat.reduceLeDiff, Nat.reduceBEq, reduceCtorEq, Int.reduceAdd, Int.reduceSub, Int.reduceMul, Int.reduceLT, Int.reduceLE, Int.reduceToNat, Int.reduceNeg, Int.reduceEq, Int.reduceNe, UInt8.reduceOfNat, true_and, h0, h1, h2, h3, h4, h5, h6]
    simp [keyB, keys, strEq_iff.1 h6]
  | false =>
  cases h7 : strEq s { data := #[106, 109, 112] } with
  | true =>
    simp +contextual (maxSteps := 10000000) only [go_sem, ↓reduceIte, Nat.reduceLT, Nat.reduceEqDiff, Nat.reduceAdd, Nat.reduceSub, Nat.reduceMul, Nat.reduceLeDiff, Nat.reduceBEq, reduceCtorEq, Int.reduceAdd, Int.reduceSub, Int.reduceMul, Int.reduceLT, Int.reduceLE, Int.reduceToNat, Int.reduceNeg, Int.reduceEq, Int.reduceNe, UInt8.reduceOfNat, true_and, h0, h1, h2, h3, h4, h5, h6, h7]
    simp [keyB, keys, strEq_iff.1 h7]
  | false =>
  cases h8 : strEq s { data := #[106, 101] } with
  | true =>
    simp +contextual (maxSteps := 10000000) only [go_sem, ↓reduceIte, Nat.reduceLT, Nat.reduceEqDiff, Nat.reduceAdd, Nat.reduceSub, Nat.reduceMul, Nat.reduceLeDiff, Nat.reduceBEq, reduceCtorEq, Int.reduceAdd, Int.reduceSub, Int.reduceMul, Int.reduceLT, Int.reduceLE, Int.reduceToNat, Int.reduceNeg, Int.reduceEq, Int.reduceNe, UInt8.reduceOfNat, true_and, h0, h1, h2, h3, h4, h5, h6, h7, h8]
    simp [keyB, keys, strEq_iff.1 h8]
  | false =>
  cases h9 : strEq s { data := #[106, 110, 101] } with
  | true =>
    simp +contextual (maxSteps := 10000000) only [go_sem, ↓reduceIte, Nat.reduceLT, Nat.reduceEqDiff, Nat.reduceAdd, Nat.reduceSub, Nat.reduceMul, Nat.reduceLeDiff, Nat.reduceBEq, reduceCtorEq, Int.reduceAdd, Int.reduceSub, Int.reduceMul, Int.reduceLT, Int.reduceLE, Int.reduceToNat, Int.reduceNeg, Int.reduceEq, Int.reduceNe, UInt8.reduceOfNat, true_and, h0, h1, h2, h3, h4, h5, h6, h7, h8, h9]
    simp [keyB, keys, strEq_iff.1 h9]
  | false =>
  cases h10 : strEq s { data := #[101, 120, 105, 115, 116, 115] } with
  | true =>
    simp +contextual (maxSteps := 10000000) only [go_sem, ↓reduceIte, Nat.reduceLT, Nat.reduceEqDiff, Nat.reduceAdd, Nat.reduceSub, Nat.reduceMul, Nat.reduceLeDiff, Nat.reduceBEq, reduceCtorEq, Int.reduceAdd, Int.reduceSub, Int.reduceMul, Int.reduceLT, Int.reduceLE, Int.reduceToNat, Int.reduceNeg, Int.reduceEq, Int.reduceNe, UInt8.reduceOfNat, true_and, h0, h1, h2, h3, h4, h5, h6, h7, h8, h9, h10]
    simp [keyB, keys, strEq_iff.1 h10]
  | false =>
  cases h11 : strEq s { data := #[102, 111, 114, 97, 108, 108] } with
  | true =>
    simp +contextual (maxSteps := 10000000) only [go_sem, ↓reduceIte, Nat.reduceLT, Nat.reduceEqDiff, Nat.reduceAdd, Nat.reduceSub, Nat.reduceMul, Nat.reduceLeDiff, Nat.reduceBEq, reduceCtorEq, Int.reduceAdd, Int.reduceSub, Int.reduceMul, Int.reduceLT, Int.reduceLE, Int.reduceToNat, Int.reduceNeg, Int.reduceEq, Int.reduceNe, UInt8.reduceOfNat, true_and, h0, h1, h2, h3, h4, h5, h6, h7, h8, h9, h10, h11]
    simp [keyB, keys, strEq_iff.1 h11]
  | false =>
  simp +contextual (maxSteps := 10000000) only [go_sem, ↓reduceIte, Nat.reduceLT, Nat.reduceEqDiff, Nat.reduceAdd, Nat.reduceSub, Nat.reduceMul, Nat.reduceLeDiff, Nat.reduceBEq, reduceCtorEq, Int.reduceAdd, Int.reduceSub, Int.reduceMul, Int.reduceLT, Int.reduceLE, Int.reduceToNat, Int.reduceNeg, Int.reduceEq, Int.reduceNe, UInt8.reduceOfNat, true_and, h0, h1, h2, h3, h4, h5, h6, h7, h8, h9, h10, h11]
  simp only [strEq_eq, decide_eq_false_iff_not] at h0 h1 h2 h3 h4 h5 h6 h7 h8 h9 h10 h11
  simp [keyB, keys, h0, h1, h2, h3, h4, h5, h6, h7, h8, h9, h10, h11]

theorem e_contains (s : ByteArray) (stk : Stk) : cl Try.prog an prm 174 [.str s, .fn 175 [] []] stk = some (.bool (oddB s), stk) := (cl_prim (f := cfP 175) rfl _ _).trans rfl
set_option maxHeartbeats 4000000 in
set_option maxRecDepth 10000 in
theorem e_name (s : ByteArray) (stk : Stk) : cl Try.prog an prm 155 [.str s] stk = some (.bool (nameB s), stk) := by
  rw [cl_eq rfl Try.func155 rfl _ _ (by simp [Try.f155])]
  by_cases h0 : s = t0
  · have h0' : strEq s { data := #[] } = true := strEq_iff.2 h0
    simp +contextual (maxSteps := 10000000) only [go_sem, ↓reduceIte, Nat.reduceLT, Nat.reduceEqDiff, Nat.reduceAdd, Nat.reduceSub, Nat.reduceMul, Nat.reduceLeDiff, Nat.reduceBEq, reduceCtorEq, Int.reduceAdd, Int.reduceSub, Int.reduceMul, Int.reduceLT, Int.reduceLE, Int.reduceToNat, Int.reduceNeg, Int.reduceEq, Int.reduceNe, UInt8.reduceOfNat, true_and, h0', e_key, e_reg, e_contains]
    subst h0
    rfl
  · have h0' : strEq s { data := #[] } = false := by rw [strEq_eq]; simpa [t0] using h0
    obtain ⟨c, hc⟩ : ∃ c, s.data[0]? = some c := by
      refine ⟨_, Array.getElem?_eq_getElem (i := 0) ?_⟩
      rcases Nat.eq_zero_or_pos s.data.size with h | h
      · exact absurd (ByteArray.ext (Array.eq_empty_of_size_eq_zero h)) h0
      · exact h
    simp +contextual (maxSteps := 10000000) only [go_sem, ↓reduceIte, Nat.reduceLT, Nat.reduceEqDiff, Nat.reduceAdd, Nat.reduceSub, Nat.reduceMul, Nat.reduceLeDiff, Nat.reduceBEq, reduceCtorEq, Int.reduceAdd, Int.reduceSub, Int.reduceMul, Int.reduceLT, Int.reduceLE, Int.reduceToNat, Int.reduceNeg, Int.reduceEq, Int.reduceNe, UInt8.reduceOfNat, true_and, h0', e_key, e_reg, e_contains, hc]
    rw [name_head hc]

set_option maxHeartbeats 1000000 in
set_option maxRecDepth 10000 in
theorem e_rname (s : ByteArray) (stk : Stk) (hs : s.size ≤ maxLen) : cl Try.prog an prm 108 [.str s] stk = some (.bool (nameB s), stk) := by
  rw [cl_eq rfl Try.func108 rfl _ _ (by simp [Try.f108])]
  simp +contextual (maxSteps := 10000000) only [go_sem, ↓reduceIte, Nat.reduceLT, Nat.reduceEqDiff, Nat.reduceAdd, Nat.reduceSub, Nat.reduceMul, Nat.reduceLeDiff, Nat.reduceBEq, reduceCtorEq, Int.reduceAdd, Int.reduceSub, Int.reduceMul, Int.reduceLT, Int.reduceLE, Int.reduceToNat, Int.reduceNeg, Int.reduceEq, Int.reduceNe, UInt8.reduceOfNat, decide_eq_true_eq, decide_eq_false_iff_not, true_and, e_rkey, e_rreg]
  generalize hE : ev _ _ _ _ (.loop _) _ = E
  revert E
  refine ev_phis s (fun i (_ : Unit) => ⟨[(3, .int .i64 i), (0, .str s)], [] :: stk⟩) (fun i _ => ∀ j x, j < i → s.data.toList[j]? = some x → (if j = 0 then lowB x else lowB x || digB x) = true) () hs ?h0 (fun j x hj => by omega) ?hr ?hn
  case h0 =>
    simp +contextual (maxSteps := 10000000) only [go_sem, ↓reduceIte, Nat.reduceLT, Nat.reduceEqDiff, Nat.reduceAdd, Nat.reduceSub, Nat.reduceMul, Nat.reduceLeDiff, Nat.reduceBEq, reduceCtorEq, Int.reduceAdd, Int.reduceSub, Int.reduceMul, Int.reduceLT, Int.reduceLE, Int.reduceToNat, Int.reduceNeg, Int.reduceEq, Int.reduceNe, UInt8.reduceOfNat, decide_eq_true_eq, decide_eq_false_iff_not, true_and]
    rfl
  case hr =>
    intro i x _ hi hx hd hlt h0 hw hI
    simp +contextual (maxSteps := 10000000) only [go_sem, ↓reduceIte, Nat.reduceLT, Nat.reduceEqDiff, Nat.reduceAdd, Nat.reduceSub, Nat.reduceMul, Nat.reduceLeDiff, Nat.reduceBEq, reduceCtorEq, Int.reduceAdd, Int.reduceSub, Int.reduceMul, Int.reduceLT, Int.reduceLE, Int.reduceToNat, Int.reduceNeg, Int.reduceEq, Int.reduceNe, UInt8.reduceOfNat, decide_eq_true_eq, decide_eq_false_iff_not, true_and, e_rkey, e_rreg, hd, hlt, h0, hw]
    refine ⟨fun h => ?_, fun h => ⟨(), fun j y hj hy => ?_⟩⟩
    · rw [name_bad hx]
      simp only [Bool.and_eq_true, Bool.or_eq_true, decide_eq_true_eq] at h
      split
      · simp [lowB]; omega
      · simp [lowB, digB]; omega
    · rcases Nat.lt_succ_iff_lt_or_eq.1 hj with hj | rfl
      · exact hI j y hj hy
      · rw [hx] at hy
        cases hy
        simp only [Bool.and_eq_false_iff, Bool.or_eq_false_iff, decide_eq_false_iff_not] at h
        split
        · simp [lowB]; omega
        · simp [lowB, digB]; omega
  case hn =>
    intro _ hI
    simp +contextual (maxSteps := 10000000) only [go_sem, ↓reduceIte, Nat.reduceLT, Nat.reduceEqDiff, Nat.reduceAdd, Nat.reduceSub, Nat.reduceMul, Nat.reduceLeDiff, Nat.reduceBEq, reduceCtorEq, Int.reduceAdd, Int.reduceSub, Int.reduceMul, Int.reduceLT, Int.reduceLE, Int.reduceToNat, Int.reduceNeg, Int.reduceEq, Int.reduceNe, UInt8.reduceOfNat, decide_eq_true_eq, decide_eq_false_iff_not, true_and, e_rkey, e_rreg, Int.lt_irrefl]
    rw [name_good fun j x hx => hI j x (by have := (List.getElem?_eq_some_iff.1 hx).1; exact Nat.lt_of_lt_of_eq this Array.length_toList) hx]
    simp only [show ((1 : Int) ≤ s.size) = (1 ≤ s.size) from by simp; omega, show ((s.size : Int) ≤ 8) = (s.size ≤ 8) from by simp; omega, Bool.and_assoc]

set_option maxHeartbeats 1000000 in
set_option maxRecDepth 10000 in
theorem e_rasked (a : Atom) (stk : Stk) (hs : a.name.size ≤ maxLen) : cl Try.prog an prm 126 [.agg a.e] stk = some (.bool (askB a), stk) := by
  rw [cl_eq rfl Try.func126 rfl _ _ (by simp [Try.f126])]
  simp +contextual (maxSteps := 10000000) only [go_sem, ↓reduceIte, Nat.reduceLT, Nat.reduceEqDiff, Nat.reduceAdd, Nat.reduceSub, Nat.reduceMul, Nat.reduceLeDiff, Nat.reduceBEq, reduceCtorEq, Int.reduceAdd, Int.reduceSub, Int.reduceMul, Int.reduceLT, Int.reduceLE, Int.reduceToNat, Int.reduceNeg, Int.reduceEq, Int.reduceNe, UInt8.reduceOfNat, decide_eq_true_eq, decide_eq_false_iff_not, true_and, Atom.e, e_rreg, e_rname _ _ hs]
  simp only [askB, Bool.decide_and]

set_option maxHeartbeats 1000000 in
set_option maxRecDepth 10000 in
theorem e_asked (a : Atom) (stk : Stk) : cl Try.prog an prm 156 [.agg a.e] stk = some (.bool (askB a), stk) := by
  rw [cl_eq rfl Try.func156 rfl _ _ (by simp [Try.f156])]
  simp +contextual (maxSteps := 10000000) only [go_sem, ↓reduceIte, Nat.reduceLT, Nat.reduceEqDiff, Nat.reduceAdd, Nat.reduceSub, Nat.reduceMul, Nat.reduceLeDiff, Nat.reduceBEq, reduceCtorEq, Int.reduceAdd, Int.reduceSub, Int.reduceMul, Int.reduceLT, Int.reduceLE, Int.reduceToNat, Int.reduceNeg, Int.reduceEq, Int.reduceNe, UInt8.reduceOfNat, decide_eq_true_eq, decide_eq_false_iff_not, true_and, Atom.e, e_reg, e_name]
  simp only [askB, Bool.decide_and]
end Go.Proofs.Ytcecleclipcheaa

set_option linter.unusedVariables false
set_option linter.unusedSimpArgs false
namespace Go.Proofs.Ytcecleclipcheaa
open Go Go.Shade Go.Fence
attribute [local congr] ite_congr

structure LineS (x : Line) : Prop where
  reg : x.reg.size ≤ maxLen
  loc : x.loc.size ≤ maxLen
  label : x.label.size ≤ maxLen

theorem line_eq1 (x : Line) : (!(decide (x.op < 1) || decide (11 < x.op)) &&
            (!(hasReg x.op && decide (regI x.reg < 0) || !hasReg x.op && !strEq x.reg { data := #[] }) &&
              (!(hasLoc x.op && !nameB x.loc || !hasLoc x.op && !strEq x.loc { data := #[] }) &&
                (!(hasLab x.op && !nameB x.label || !hasLab x.op && !strEq x.label { data := #[] }) &&
                  (hasN x.op || decide (x.n = 0)))))) = lineB x := by
  unfold lineB
  rw [show (!(decide (x.op < 1) || decide (11 < x.op))) = decide (1 ≤ x.op ∧ x.op ≤ 11) from by
    by_cases h1 : x.op < 1 <;> by_cases h2 : 11 < x.op <;> simp [h1, h2] <;> omega]
  rw [show decide (regI x.reg < 0) = !decide (0 ≤ regI x.reg) from by by_cases h : regI x.reg < 0 <;> simp [h] <;> omega]
  simp only [strEq_eq, ← t0.eq_1]
  cases hasReg x.op <;> cases hasLoc x.op <;> cases hasLab x.op <;> simp [Bool.and_assoc]
set_option maxHeartbeats 1000000 in
set_option maxRecDepth 10000 in
theorem e_rright' (x : Line) (stk : Stk) (h1 : x.loc.size ≤ maxLen) (h2 : x.label.size ≤ maxLen) : cl Try.prog an prm 56 [.agg x.e] stk = some (.bool (lineB x), stk) := by
  rw [cl_eq rfl Try.func56 rfl _ _ (by simp [Try.f56])]
  simp +contextual (maxSteps := 10000000) only [go_sem, ↓reduceIte, Nat.reduceLT, Nat.reduceEqDiff, Nat.reduceAdd, Nat.reduceSub, Nat.reduceMul, Nat.reduceLeDiff, Nat.reduceBEq, reduceCtorEq, Int.reduceAdd, Int.reduceSub, Int.reduceMul, Int.reduceLT, Int.reduceLE, Int.reduceToNat, Int.reduceNeg, Int.reduceEq, Int.reduceNe, UInt8.reduceOfNat, decide_eq_true_eq, decide_eq_false_iff_not, true_and, Line.e, e_rreg, e_rhas, hasP, e_rname _ _ h1, e_rname _ _ h2]
  simp only [line_eq1]

theorem e_rright (x : Line) (stk : Stk) (hs : x.Fit) : cl Try.prog an prm 56 [.agg x.e] stk = some (.bool (lineB x), stk) := e_rright' x stk hs.loc hs.label

theorem e_of (x : Line) (stk : Stk) : cl Try.prog an prm 133 [.agg x.e] stk = some (if x.op = 6 then .ifc 204 (.agg x.e) else if 1 ≤ x.op ∧ x.op ≤ 7 then .ifc 205 (.agg x.e) else if 8 ≤ x.op ∧ x.op ≤ 11 then .ifc 206 (.agg x.e) else .nili, stk) := by
  rw [cl_eq rfl Try.func133 rfl _ _ (by simp [Try.f133])]
  simp +contextual (maxSteps := 10000000) only [go_sem, ↓reduceIte, Nat.reduceLT, Nat.reduceEqDiff, Nat.reduceAdd, Nat.reduceSub, Nat.reduceMul, Nat.reduceLeDiff, Nat.reduceBEq, reduceCtorEq, Int.reduceAdd, Int.reduceSub, Int.reduceMul, Int.reduceLT, Int.reduceLE, Int.reduceToNat, Int.reduceNeg, Int.reduceEq, Int.reduceNe, UInt8.reduceOfNat, decide_eq_true_eq, decide_eq_false_iff_not, true_and, Line.e]
  simp only [Bool.and_eq_true, decide_eq_true_eq]

set_option maxHeartbeats 1000000 in
set_option maxRecDepth 10000 in
theorem e_has_f (x : Line) (stk : Stk) : cl Try.prog an prm 230 [.agg x.e] stk = some (.tup [.bool false, .bool false, .bool false, .bool false], stk) := by
  rw [cl_eq rfl Try.func230 rfl _ _ (by simp [Try.f230])]
  simp +contextual (maxSteps := 10000000) only [go_sem, ↓reduceIte, Nat.reduceLT, Nat.reduceEqDiff, Nat.reduceAdd, Nat.reduceSub, Nat.reduceMul, Nat.reduceLeDiff, Nat.reduceBEq, reduceCtorEq, Int.reduceAdd, Int.reduceSub, Int.reduceMul, Int.reduceLT, Int.reduceLE, Int.reduceToNat, Int.reduceNeg, Int.reduceEq, Int.reduceNe, UInt8.reduceOfNat, decide_eq_true_eq, decide_eq_false_iff_not, true_and, Line.e]
set_option maxHeartbeats 1000000 in
set_option maxRecDepth 10000 in
theorem e_has_j (x : Line) (stk : Stk) : cl Try.prog an prm 235 [.agg x.e] stk = some (.tup [.bool false, .bool false, .bool true, .bool false], stk) := by
  rw [cl_eq rfl Try.func235 rfl _ _ (by simp [Try.f235])]
  simp +contextual (maxSteps := 10000000) only [go_sem, ↓reduceIte, Nat.reduceLT, Nat.reduceEqDiff, Nat.reduceAdd, Nat.reduceSub, Nat.reduceMul, Nat.reduceLeDiff, Nat.reduceBEq, reduceCtorEq, Int.reduceAdd, Int.reduceSub, Int.reduceMul, Int.reduceLT, Int.reduceLE, Int.reduceToNat, Int.reduceNeg, Int.reduceEq, Int.reduceNe, UInt8.reduceOfNat, decide_eq_true_eq, decide_eq_false_iff_not, true_and, Line.e]
set_option maxHeartbeats 1000000 in
set_option maxRecDepth 10000 in
theorem e_has_m (x : Line) (stk : Stk) : cl Try.prog an prm 232 [.agg x.e] stk = some (.tup [.bool (!decide (x.op = 4)), .bool (!decide (x.op = 1) && !decide (x.op = 7)), .bool false, .bool (decide (x.op = 1) || (decide (x.op = 4) || decide (x.op = 7)))], stk) := by
  rw [cl_eq rfl Try.func232 rfl _ _ (by simp [Try.f232])]
  simp +contextual (maxSteps := 10000000) only [go_sem, ↓reduceIte, Nat.reduceLT, Nat.reduceEqDiff, Nat.reduceAdd, Nat.reduceSub, Nat.reduceMul, Nat.reduceLeDiff, Nat.reduceBEq, reduceCtorEq, Int.reduceAdd, Int.reduceSub, Int.reduceMul, Int.reduceLT, Int.reduceLE, Int.reduceToNat, Int.reduceNeg, Int.reduceEq, Int.reduceNe, UInt8.reduceOfNat, decide_eq_true_eq, decide_eq_false_iff_not, true_and, Line.e]
  by_cases h : x.op = 1 <;> simp [h]
set_option maxHeartbeats 4000000 in
set_option maxRecDepth 10000 in
theorem e_right (x : Line) (stk : Stk) : cl Try.prog an prm 132 [.agg x.e] stk = some (.bool (lineB x), stk) := by
  rw [cl_eq rfl Try.func132 rfl _ _ (by simp [Try.f132])]
  have ho := fun o r c b k => e_of ⟨o, r, c, b, k⟩
  have hf := fun o r c b k => e_has_f ⟨o, r, c, b, k⟩
  have hj := fun o r c b k => e_has_j ⟨o, r, c, b, k⟩
  have hm := fun o r c b k => e_has_m ⟨o, r, c, b, k⟩
  simp only [Line.e] at ho hf hj hm ⊢
  obtain ⟨op, reg, loc, label, n⟩ := x
  simp only
  by_cases h6 : op = 6
  · subst h6
    simp +contextual (maxSteps := 10000000) only [go_sem, ↓reduceIte, Nat.reduceLT, Nat.reduceEqDiff, Nat.reduceAdd, Nat.reduceSub, Nat.reduceMul, Nat.reduceLeDiff, Nat.reduceBEq, reduceCtorEq, Int.reduceAdd, Int.reduceSub, Int.reduceMul, Int.reduceLT, Int.reduceLE, Int.reduceToNat, Int.reduceNeg, Int.reduceEq, Int.reduceNe, UInt8.reduceOfNat, decide_eq_true_eq, decide_eq_false_iff_not, true_and, ho, hf, e_reg, e_name]
    simp only [lineB, hasReg, hasLoc, hasLab, hasN, strEq_eq, ← t0.eq_1]
    simp only [Int.reduceLE, Int.reduceEq, decide_true, decide_false, Bool.true_and, Bool.false_and, false_or, or_false, or_true, true_or, true_and, and_true, false_and, and_false, Bool.false_eq_true, if_true, if_false, Bool.false_or, Bool.true_or, Bool.not_true, Bool.not_false, Bool.or_false, Bool.and_true, Bool.or_true]
    refine congrArg (fun b => some (V.bool b, stk)) ?_
    generalize decide (0 ≤ regI reg) = a1, decide (reg = t0) = a2, nameB loc = a3, decide (loc = t0) = a4, nameB label = a5, decide (label = t0) = a6, decide (n = 0) = a7
    revert a1 a2 a3 a4 a5 a6 a7
    decide
  by_cases h7 : 1 ≤ op ∧ op ≤ 7
  · simp +contextual (maxSteps := 10000000) only [go_sem, ↓reduceIte, Nat.reduceLT, Nat.reduceEqDiff, Nat.reduceAdd, Nat.reduceSub, Nat.reduceMul, Nat.reduceLeDiff, Nat.reduceBEq, reduceCtorEq, Int.reduceAdd, Int.reduceSub, Int.reduceMul, Int.reduceLT, Int.reduceLE, Int.reduceToNat, Int.reduceNeg, Int.reduceEq, Int.reduceNe, UInt8.reduceOfNat, decide_eq_true_eq, decide_eq_false_iff_not, true_and, h6, h7, ho, hm, e_reg, e_name]
    obtain rfl | rfl | rfl | rfl | rfl | rfl : op = 1 ∨ op = 2 ∨ op = 3 ∨ op = 4 ∨ op = 5 ∨ op = 7 := by omega
    all_goals
      simp only [lineB, hasReg, hasLoc, hasLab, hasN, strEq_eq, ← t0.eq_1]
      simp only [Int.reduceLE, Int.reduceEq, decide_true, decide_false, Bool.true_and, Bool.false_and, false_or, or_false, or_true, true_or, true_and, and_true, false_and, and_false, Bool.false_eq_true, if_true, if_false, Bool.false_or, Bool.true_or, Bool.not_true, Bool.not_false, Bool.or_false, Bool.and_true, Bool.or_true]
      refine congrArg (fun b => some (V.bool b, stk)) ?_
      generalize decide (0 ≤ regI reg) = a1, decide (reg = t0) = a2, nameB loc = a3, decide (loc = t0) = a4, nameB label = a5, decide (label = t0) = a6, decide (n = 0) = a7
      revert a1 a2 a3 a4 a5 a6 a7
      decide
  by_cases h8 : 8 ≤ op ∧ op ≤ 11
  · simp +contextual (maxSteps := 10000000) only [go_sem, ↓reduceIte, Nat.reduceLT, Nat.reduceEqDiff, Nat.reduceAdd, Nat.reduceSub, Nat.reduceMul, Nat.reduceLeDiff, Nat.reduceBEq, reduceCtorEq, Int.reduceAdd, Int.reduceSub, Int.reduceMul, Int.reduceLT, Int.reduceLE, Int.reduceToNat, Int.reduceNeg, Int.reduceEq, Int.reduceNe, UInt8.reduceOfNat, decide_eq_true_eq, decide_eq_false_iff_not, true_and, h6, h7, h8, ho, hj, e_reg, e_name]
    have e1 : hasReg op = false := by simp [hasReg]; omega
    have e2 : hasLoc op = false := by simp [hasLoc]; omega
    have e3 : hasLab op = true := by simp [hasLab]; omega
    have e4 : hasN op = false := by simp [hasN]; omega
    have e5 : decide (1 ≤ op ∧ op ≤ 11) = true := by simp; omega
    simp only [lineB, e1, e2, e3, e4, e5, strEq_eq, ← t0.eq_1, if_true, if_false, Bool.false_eq_true]
    refine congrArg (fun b => some (V.bool b, stk)) ?_
    generalize decide (0 ≤ regI reg) = a1, decide (reg = t0) = a2, nameB loc = a3, decide (loc = t0) = a4, nameB label = a5, decide (label = t0) = a6, decide (n = 0) = a7
    revert a1 a2 a3 a4 a5 a6 a7
    decide
  · simp +contextual (maxSteps := 10000000) only [go_sem, ↓reduceIte, Nat.reduceLT, Nat.reduceEqDiff, Nat.reduceAdd, Nat.reduceSub, Nat.reduceMul, Nat.reduceLeDiff, Nat.reduceBEq, reduceCtorEq, Int.reduceAdd, Int.reduceSub, Int.reduceMul, Int.reduceLT, Int.reduceLE, Int.reduceToNat, Int.reduceNeg, Int.reduceEq, Int.reduceNe, UInt8.reduceOfNat, decide_eq_true_eq, decide_eq_false_iff_not, true_and, h6, h7, h8, ho, hj, e_reg, e_name]
    have e5 : decide (1 ≤ op ∧ op ≤ 11) = false := by simp; omega
    simp only [lineB, e5, Bool.false_and]
end Go.Proofs.Ytcecleclipcheaa

set_option linter.unusedVariables false
set_option linter.unusedSimpArgs false
namespace Go.Proofs.Ytcecleclipcheaa
open Go Go.Shade Go.Fence
attribute [local congr] ite_congr

set_option maxHeartbeats 1000000 in
set_option maxRecDepth 10000 in
theorem e_rjump (x : Line) (stk : Stk) : cl Try.prog an prm 43 [.agg x.e] stk = some (.bool (jumpB x), stk) := by
  rw [cl_eq rfl Try.func43 rfl _ _ (by simp [Try.f43])]
  simp +contextual (maxSteps := 10000000) only [go_sem, ↓reduceIte, Nat.reduceLT, Nat.reduceEqDiff, Nat.reduceAdd, Nat.reduceSub, Nat.reduceMul, Nat.reduceLeDiff, Nat.reduceBEq, reduceCtorEq, Int.reduceAdd, Int.reduceSub, Int.reduceMul, Int.reduceLT, Int.reduceLE, Int.reduceToNat, Int.reduceNeg, Int.reduceEq, Int.reduceNe, UInt8.reduceOfNat, decide_eq_true_eq, decide_eq_false_iff_not, true_and, Line.e]
  simp only [jumpB, Bool.decide_and]
set_option maxHeartbeats 1000000 in
set_option maxRecDepth 10000 in
theorem e_rinstr (x : Line) (stk : Stk) : cl Try.prog an prm 150 [.agg x.e] stk = some (.bool (instrB x), stk) := by
  rw [cl_eq rfl Try.func150 rfl _ _ (by simp [Try.f150])]
  simp +contextual (maxSteps := 10000000) only [go_sem, ↓reduceIte, Nat.reduceLT, Nat.reduceEqDiff, Nat.reduceAdd, Nat.reduceSub, Nat.reduceMul, Nat.reduceLeDiff, Nat.reduceBEq, reduceCtorEq, Int.reduceAdd, Int.reduceSub, Int.reduceMul, Int.reduceLT, Int.reduceLE, Int.reduceToNat, Int.reduceNeg, Int.reduceEq, Int.reduceNe, UInt8.reduceOfNat, decide_eq_true_eq, decide_eq_false_iff_not, true_and, Line.e]
  simp only [instrB, Bool.decide_and, ne_eq, decide_not]

set_option maxHeartbeats 1000000 in
set_option maxRecDepth 10000 in
theorem e_rlabels (ls : List Line) (s : ByteArray) (stk : Stk) (hl : ls.length ≤ maxLen) : cl Try.prog an prm 149 [.sl 5 (ls.map Line.e), .str s] stk = some (.int .i64 (labs ls s), stk) := by
  rw [cl_eq rfl Try.func149 rfl _ _ (by simp [Try.f149])]
  simp +contextual (maxSteps := 10000000) only [go_sem, ↓reduceIte, Nat.reduceLT, Nat.reduceEqDiff, Nat.reduceAdd, Nat.reduceSub, Nat.reduceMul, Nat.reduceLeDiff, Nat.reduceBEq, reduceCtorEq, Int.reduceAdd, Int.reduceSub, Int.reduceMul, Int.reduceLT, Int.reduceLE, Int.reduceToNat, Int.reduceNeg, Int.reduceEq, Int.reduceNe, UInt8.reduceOfNat, decide_eq_true_eq, decide_eq_false_iff_not, true_and]
  generalize hE : ev _ _ _ _ (.loop _) _ = E
  revert E
  refine ev_phil ls Line.e (fun i (n : Nat) => ⟨[(6, .int .i64 i), (5, .int .i64 n), (1, .str s), (0, .sl 5 (ls.map Line.e))], [] :: stk⟩) (fun i n => n = labs (ls.take i) s) 0 hl ?h0 (by simp [labs]) ?hr ?hn
  case h0 =>
    simp +contextual (maxSteps := 10000000) only [go_sem, ↓reduceIte, Nat.reduceLT, Nat.reduceEqDiff, Nat.reduceAdd, Nat.reduceSub, Nat.reduceMul, Nat.reduceLeDiff, Nat.reduceBEq, reduceCtorEq, Int.reduceAdd, Int.reduceSub, Int.reduceMul, Int.reduceLT, Int.reduceLE, Int.reduceToNat, Int.reduceNeg, Int.reduceEq, Int.reduceNe, UInt8.reduceOfNat, decide_eq_true_eq, decide_eq_false_iff_not, true_and]
    rfl
  case hr =>
    intro i x n hi hx hm hlt h0 hw hI
    have hww : IntKind.i64.wrap ((n : Int) + 1) = ((n + 1 : Nat) : Int) := by
      have := labs_le (ls.take i) s
      have : (ls.take i).length ≤ i := List.length_take_le _ _
      unfold maxLen at hl
      rw [wrap_i64 (by omega) (by omega)]; rfl
    have ht := labs_take ls s i x hx
    rw [← hI] at ht
    simp +contextual (maxSteps := 10000000) only [go_sem, ↓reduceIte, Nat.reduceLT, Nat.reduceEqDiff, Nat.reduceAdd, Nat.reduceSub, Nat.reduceMul, Nat.reduceLeDiff, Nat.reduceBEq, reduceCtorEq, Int.reduceAdd, Int.reduceSub, Int.reduceMul, Int.reduceLT, Int.reduceLE, Int.reduceToNat, Int.reduceNeg, Int.reduceEq, Int.reduceNe, UInt8.reduceOfNat, decide_eq_true_eq, decide_eq_false_iff_not, true_and, hm, hlt, h0, hw, hww, Line.e]
    simp only [labB, ← strEq_eq] at ht
    exact ⟨fun h => ⟨_, rfl, by rw [ht, if_pos h]⟩, fun h => ⟨_, rfl, by rw [ht, if_neg (by rw [h]; simp)]⟩⟩
  case hn =>
    intro n hI
    simp +contextual (maxSteps := 10000000) only [go_sem, ↓reduceIte, Nat.reduceLT, Nat.reduceEqDiff, Nat.reduceAdd, Nat.reduceSub, Nat.reduceMul, Nat.reduceLeDiff, Nat.reduceBEq, reduceCtorEq, Int.reduceAdd, Int.reduceSub, Int.reduceMul, Int.reduceLT, Int.reduceLE, Int.reduceToNat, Int.reduceNeg, Int.reduceEq, Int.reduceNe, UInt8.reduceOfNat, decide_eq_true_eq, decide_eq_false_iff_not, true_and, Int.lt_irrefl]
    simp [hI]

set_option maxHeartbeats 1000000 in
set_option maxRecDepth 10000 in
theorem e_put (l : List ByteArray) (s : ByteArray) (stk : Stk) (hl : l.length ≤ 1000000) : cl Try.prog an prm 123 [strs l, .str s] stk = some (strs (putL s l), stk) := by
  rw [cl_eq rfl Try.func123 rfl _ _ (by simp [Try.f123])]
  simp +contextual (maxSteps := 10000000) only [go_sem, ↓reduceIte, Nat.reduceLT, Nat.reduceEqDiff, Nat.reduceAdd, Nat.reduceSub, Nat.reduceMul, Nat.reduceLeDiff, Nat.reduceBEq, reduceCtorEq, Int.reduceAdd, Int.reduceSub, Int.reduceMul, Int.reduceLT, Int.reduceLE, Int.reduceToNat, Int.reduceNeg, Int.reduceEq, Int.reduceNe, UInt8.reduceOfNat, decide_eq_true_eq, decide_eq_false_iff_not, true_and, strs]
  generalize hE : ev _ _ _ _ (.loop _) _ = E
  revert E
  refine ev_phil l (fun s => [.str s]) (fun i (p : List ByteArray × Bool) => ⟨[(7, .int .i64 i), (6, .bool p.2), (5, .ap 0 5 1 (p.1.map fun s => [.str s])), (1, .str s), (0, .sl 1 (l.map fun s => [.str s]))], [(5, .tok 9 1 p.1.length)] :: stk⟩)
    (fun i p => p.1.length ≤ i + 1 ∧ if p.2 = true then p.1 ++ l.drop i = putL s l else s ≠ t0 ∧ p.1 = l.take i ∧ putL s l = l.take i ++ insL s (l.drop i)) ([], strEq s t0) (by omega) ?h0 ?hi ?hr ?hn
  case h0 =>
    simp +contextual (maxSteps := 10000000) only [go_sem, ↓reduceIte, Nat.reduceLT, Nat.reduceEqDiff, Nat.reduceAdd, Nat.reduceSub, Nat.reduceMul, Nat.reduceLeDiff, Nat.reduceBEq, reduceCtorEq, Int.reduceAdd, Int.reduceSub, Int.reduceMul, Int.reduceLT, Int.reduceLE, Int.reduceToNat, Int.reduceNeg, Int.reduceEq, Int.reduceNe, UInt8.reduceOfNat, decide_eq_true_eq, decide_eq_false_iff_not, true_and]
    rfl
  case hi =>
    by_cases h : s = t0 <;> simp [h, strEq_eq, putL]
  case hr =>
    rintro i x ⟨out, done⟩ hi hx hm hlt h0 hw ⟨hI1, hI2⟩
    have e1 : out.length + 1 ≤ most := by unfold most; simp at hI1; omega
    have e2 : out.length + 1 + 1 ≤ most := by unfold most; simp at hI1; omega
    simp +contextual (maxSteps := 10000000) only [go_sem, ↓reduceIte, Nat.reduceLT, Nat.reduceEqDiff, Nat.reduceAdd, Nat.reduceSub, Nat.reduceMul, Nat.reduceLeDiff, Nat.reduceBEq, reduceCtorEq, Int.reduceAdd, Int.reduceSub, Int.reduceMul, Int.reduceLT, Int.reduceLE, Int.reduceToNat, Int.reduceNeg, Int.reduceEq, Int.reduceNe, UInt8.reduceOfNat, decide_eq_true_eq, decide_eq_false_iff_not, true_and, hm, hlt, h0, hw, e1, e2, List.length_append]
    have hd : l.drop i = x :: l.drop (i + 1) := drop_cons hx
    have ht : l.take (i + 1) = l.take i ++ [x] := take_snoc hx
    simp only at hI1
    rw [hd] at hI2
    simp only at hI2
    refine ⟨fun h => ?_, fun h => ?_⟩
    · simp only [Bool.and_eq_true, Bool.not_eq_true'] at h
      obtain ⟨rfl, h⟩ := h
      simp only [Bool.false_eq_true, if_false] at hI2
      obtain ⟨k1, k2, k3⟩ := hI2
      refine ⟨fun h2 => ⟨(out ++ [x], true), by simp, by simp; omega, ?_⟩, fun h2 => ⟨(out ++ [s, x], true), by simp, by have := List.length_take_le i l; simp [k2]; omega, ?_⟩⟩
      · rw [if_pos rfl, k3, k2, strEq_iff.1 h2]
        simp [insL, lt_irrefl]
      · rw [h2] at h
        rw [if_pos rfl, k3, k2]
        have h' : strLt s x = true := by simpa using h
        simp [insL, h']
    · refine ⟨(out ++ [x], done), by simp, by simp; omega, ?_⟩
      cases done with
      | true =>
        simp only [if_true] at hI2 ⊢
        rw [← hI2]
        simp
      | false =>
        simp only [Bool.false_eq_true, if_false] at hI2 ⊢
        obtain ⟨k1, k2, k3⟩ := hI2
        refine ⟨k1, by rw [k2, ht], ?_⟩
        simp only [Bool.not_false, Bool.true_and, Bool.or_eq_false_iff] at h
        have hn : s ≠ x := fun e => by rw [e, strEq_self] at h; cases h.2
        rw [k3, ht]
        simp [insL, h.1, hn]
  case hn =>
    rintro ⟨out, done⟩ ⟨hI1, hI2⟩
    have e1 : out.length + 1 ≤ most := by unfold most; simp at hI1; omega
    simp +contextual (maxSteps := 10000000) only [go_sem, ↓reduceIte, Nat.reduceLT, Nat.reduceEqDiff, Nat.reduceAdd, Nat.reduceSub, Nat.reduceMul, Nat.reduceLeDiff, Nat.reduceBEq, reduceCtorEq, Int.reduceAdd, Int.reduceSub, Int.reduceMul, Int.reduceLT, Int.reduceLE, Int.reduceToNat, Int.reduceNeg, Int.reduceEq, Int.reduceNe, UInt8.reduceOfNat, decide_eq_true_eq, decide_eq_false_iff_not, true_and, Int.lt_irrefl, e1, List.length_append]
    simp only [List.drop_length, List.take_length] at hI2
    cases done with
    | true =>
      simp only [if_true, List.append_nil] at hI2
      simp [hI2]
    | false =>
      simp only [Bool.false_eq_true, if_false] at hI2
      obtain ⟨k1, k2, k3⟩ := hI2
      simp [k3, k2, insL]
/-! the same, of a line whose kind is known -/
theorem x_rright (o n : Int) (r c b : ByteArray) (stk : Stk) (h1 : c.size ≤ maxLen) (h2 : b.size ≤ maxLen) : cl Try.prog an prm 56 [.agg [.int .i64 o, .str r, .str c, .str b, .int .i64 n]] stk = some (.bool (lineB ⟨o, r, c, b, n⟩), stk) :=
  e_rright' ⟨o, r, c, b, n⟩ stk h1 h2
theorem x_right (o n : Int) (r c b : ByteArray) (stk : Stk) : cl Try.prog an prm 132 [.agg [.int .i64 o, .str r, .str c, .str b, .int .i64 n]] stk = some (.bool (lineB ⟨o, r, c, b, n⟩), stk) := e_right ⟨o, r, c, b, n⟩ stk
theorem x_rjump (o n : Int) (r c b : ByteArray) (stk : Stk) : cl Try.prog an prm 43 [.agg [.int .i64 o, .str r, .str c, .str b, .int .i64 n]] stk = some (.bool (decide (8 ≤ o ∧ o ≤ 10)), stk) := e_rjump ⟨o, r, c, b, n⟩ stk
theorem x_rinstr (o n : Int) (r c b : ByteArray) (stk : Stk) : cl Try.prog an prm 150 [.agg [.int .i64 o, .str r, .str c, .str b, .int .i64 n]] stk = some (.bool (decide (o ≠ 6 ∧ o ≠ 11)), stk) := e_rinstr ⟨o, r, c, b, n⟩ stk
end Go.Proofs.Ytcecleclipcheaa

set_option linter.unusedVariables false
set_option linter.unusedSimpArgs false
namespace Go.Proofs.Ytcecleclipcheaa
open Go Go.Shade Go.Fence
attribute [local congr] ite_congr

set_option maxHeartbeats 1000000 in
set_option maxRecDepth 10000 in
theorem e_rline (ls : List Line) (i : Nat) (x : Line) (stk : Stk) (hl : ls.length ≤ maxLen) (hx : ls[i]? = some x) (hf : x.Fit) :
    cl Try.prog an prm 125 [.sl 5 (ls.map Line.e), .int .i64 i] stk = some (.int .i64 (lineE (ls.take i) x (ls.drop (i + 1))), stk) := by
  rw [cl_eq rfl Try.func125 rfl _ _ (by simp [Try.f125])]
  have hi : i < ls.length := (List.getElem?_eq_some_iff.1 hx).1
  have hm : (ls.map Line.e)[i]? = some x.e := by simp [hx]
  have h0 : (0 : Int) ≤ (i : Int) := by omega
  have hw : IntKind.i64.wrap ((i : Int) + 1) = ((i + 1 : Nat) : Int) := by unfold maxLen at hl; rw [wrap_i64 (by omega) (by omega)]; rfl
  have hin : (0 : Int) ≤ (i : Int) ∧ (i : Int) ≤ (ls.length : Int) := by omega
  have hin1 : (0 : Int) ≤ ((i + 1 : Nat) : Int) ∧ ((i + 1 : Nat) : Int) ≤ (ls.length : Int) := by omega
  have hlt : (ls.take i).length ≤ maxLen := Nat.le_trans (by simp; omega) hl
  have hld : (ls.drop (i + 1)).length ≤ maxLen := Nat.le_trans (by simp) hl
  have er := fun o stk => x_rright o x.n x.reg x.loc x.label stk hf.loc hf.label
  have e1 := fun stk => e_rlabels (ls.take i) x.label stk hlt
  have e2 := fun stk => e_rlabels (ls.drop (i + 1)) x.label stk hld
  have hrow : List.take ls.length (List.map Line.e ls) = ls.map Line.e := by rw [List.take_of_length_le]; simp
  have hprev : ∃ y : Line, ((ls.map Line.e)[i - 1]? = some y.e) ∧ ((0 : Int) < (i : Int) → IntKind.i64.wrap ((i : Int) - 1) = ((i - 1 : Nat) : Int)) ∧ ((0 : Int) < (i : Int) → (ls.take i).getLast? = some y) := by
    obtain ⟨y, hy⟩ : ∃ y, ls[i - 1]? = some y := ⟨ls[i - 1], List.getElem?_eq_getElem (by omega)⟩
    refine ⟨y, by simp [hy], fun h => by unfold maxLen at hl; rw [wrap_i64 (by omega) (by omega)]; omega, fun h => ?_⟩
    obtain ⟨j, rfl⟩ : ∃ j, i = j + 1 := ⟨i - 1, by omega⟩
    rw [take_snoc (by simpa using hy)]; simp
  obtain ⟨y, hy1, hy2, hy3⟩ := hprev
  have hy0 : (0 : Int) ≤ ((i - 1 : Nat) : Int) := by omega
  cases hB : lineB ⟨x.op, x.reg, x.loc, x.label, x.n⟩ with
  | false =>
    simp +contextual (maxSteps := 10000000) only [go_sem, ↓reduceIte, Nat.reduceLT, Nat.reduceEqDiff, Nat.reduceAdd, Nat.reduceSub, Nat.reduceMul, Nat.reduceLeDiff, Nat.reduceBEq, reduceCtorEq, Int.reduceAdd, Int.reduceSub, Int.reduceMul, Int.reduceLT, Int.reduceLE, Int.reduceToNat, Int.reduceNeg, Int.reduceEq, Int.reduceNe, UInt8.reduceOfNat, true_and, Line.e, hm, h0, er, hB]
    have : lineB x = false := hB
    simp [lineE, this]
  | true =>
  have hB' : lineB x = true := hB
  cases h2 : (decide (x.op = 11) && decide ((0 : Int) < (labs (ls.take i) x.label : Int))) with
  | true =>
    simp +contextual (maxSteps := 10000000) only [go_sem, ↓reduceIte, Nat.reduceLT, Nat.reduceEqDiff, Nat.reduceAdd, Nat.reduceSub, Nat.reduceMul, Nat.reduceLeDiff, Nat.reduceBEq, reduceCtorEq, Int.reduceAdd, Int.reduceSub, Int.reduceMul, Int.reduceLT, Int.reduceLE, Int.reduceToNat, Int.reduceNeg, Int.reduceEq, Int.reduceNe, UInt8.reduceOfNat, true_and, Line.e, hm, h0, hw, hin, er, e1, ← List.map_take, hB, h2]
    simp at h2
    simp [lineE, hB', labB, h2]
  | false =>
  have h2' : ¬ (labB x = true ∧ 0 < labs (ls.take i) x.label) := by simpa [labB] using h2
  cases hp : decide ((0 : Int) < (i : Int)) with
  | true =>
    have hp' : (0 : Int) < (i : Int) := by simpa using hp
    have hy2 := hy2 hp'
    have hy3 := hy3 hp'
    cases h3 : (decide (x.op = 6) && decide (y.op = 6)) with
    | true =>
      simp +contextual (maxSteps := 10000000) only [go_sem, ↓reduceIte, Nat.reduceLT, Nat.reduceEqDiff, Nat.reduceAdd, Nat.reduceSub, Nat.reduceMul, Nat.reduceLeDiff, Nat.reduceBEq, reduceCtorEq, Int.reduceAdd, Int.reduceSub, Int.reduceMul, Int.reduceLT, Int.reduceLE, Int.reduceToNat, Int.reduceNeg, Int.reduceEq, Int.reduceNe, UInt8.reduceOfNat, true_and, Line.e, hm, h0, hw, hin, er, e1, ← List.map_take, hB, h2, hp, hy0, hy1, hy2, h3]
      simp only [Bool.and_eq_true, decide_eq_true_eq] at h3
      simp only [lineE, hB', h2', Bool.true_eq_false, if_false]
      rw [if_pos ⟨h3.1, y, hy3, h3.2⟩]
    | false =>
      have h3' : ¬ (x.op = 6 ∧ ∃ y, (ls.take i).getLast? = some y ∧ y.op = 6) := by
        rintro ⟨a, z, b, c⟩
        rw [hy3] at b
        cases b
        simp [a, c] at h3
      cases hj : decide (8 ≤ x.op ∧ x.op ≤ 10) with
      | true =>
        cases h4 : decide ((labs (ls.drop (i + 1)) x.label : Int) = 0) with
        | true =>
          simp +contextual (maxSteps := 10000000) only [go_sem, ↓reduceIte, Nat.reduceLT, Nat.reduceEqDiff, Nat.reduceAdd, Nat.reduceSub, Nat.reduceMul, Nat.reduceLeDiff, Nat.reduceBEq, reduceCtorEq, Int.reduceAdd, Int.reduceSub, Int.reduceMul, Int.reduceLT, Int.reduceLE, Int.reduceToNat, Int.reduceNeg, Int.reduceEq, Int.reduceNe, UInt8.reduceOfNat, true_and, Line.e, hm, h0, hw, hin, hin1, er, e1, e2, x_rjump, x_rinstr, ← List.map_take, ← List.map_drop, List.take_length, hB, h2, hp, hy0, hy1, hy2, h3, hj, h4]
          simp only [lineE, hB', h2', h3', Bool.true_eq_false, if_false]
          rw [if_pos ⟨hj, by simpa using h4⟩]
        | false =>
          simp +contextual (maxSteps := 10000000) only [go_sem, ↓reduceIte, Nat.reduceLT, Nat.reduceEqDiff, Nat.reduceAdd, Nat.reduceSub, Nat.reduceMul, Nat.reduceLeDiff, Nat.reduceBEq, reduceCtorEq, Int.reduceAdd, Int.reduceSub, Int.reduceMul, Int.reduceLT, Int.reduceLE, Int.reduceToNat, Int.reduceNeg, Int.reduceEq, Int.reduceNe, UInt8.reduceOfNat, true_and, Line.e, hm, h0, hw, hin, hin1, er, e1, e2, x_rjump, x_rinstr, ← List.map_take, ← List.map_drop, List.take_length, hB, h2, hp, hy0, hy1, hy2, h3, hj, h4]
          have h4' : ¬ (jumpB x = true ∧ labs (ls.drop (i + 1)) x.label = 0) := by
            rintro ⟨a, b⟩
            first
              | (rw [show jumpB x = decide (8 ≤ x.op ∧ x.op ≤ 10) from rfl, hj] at a; cases a; done)
              | (simp [b] at h4; done)
          generalize hE : ev _ _ _ _ (.loop _) _ = E
          revert E
          refine ev_phi i (fun k (p : Nat × Nat) => ⟨[(8, .int .i64 k), (7, .int .i64 p.2), (6, .int .i64 p.1), (5, .ptr 0 5 0), (1, .int .i64 i), (0, .sl 5 (ls.map Line.e))], [(5, .cells x.e)] :: stk⟩)
            (fun k p => p.1 = ((ls.take k).filter instrB).length ∧ p.2 = ((ls.take k).filter labB).length) (0, 0) ?_ (by simp) ?_ ?_
          · simp +contextual (maxSteps := 10000000) only [go_sem, ↓reduceIte, Nat.reduceLT, Nat.reduceEqDiff, Nat.reduceAdd, Nat.reduceSub, Nat.reduceMul, Nat.reduceLeDiff, Nat.reduceBEq, reduceCtorEq, Int.reduceAdd, Int.reduceSub, Int.reduceMul, Int.reduceLT, Int.reduceLE, Int.reduceToNat, Int.reduceNeg, Int.reduceEq, Int.reduceNe, UInt8.reduceOfNat, true_and, Line.e]
            rfl
          · rintro k ⟨n1, n2⟩ hk ⟨hI1, hI2⟩
            obtain ⟨z, hz⟩ : ∃ z, ls[k]? = some z := ⟨ls[k], List.getElem?_eq_getElem (by omega)⟩
            have hzm : (ls.map Line.e)[k]? = some z.e := by simp [hz]
            have hk0 : (0 : Int) ≤ (k : Int) := by omega
            have hki : ((k : Int) < (i : Int)) := by omega
            simp only at hI1 hI2
            have b1 := cnt_le instrB (ls.take k)
            have b2 := cnt_le labB (ls.take k)
            have b3 : (ls.take k).length ≤ k := List.length_take_le _ _
            have hkw : IntKind.i64.wrap ((k : Int) + 1) = ((k + 1 : Nat) : Int) := by unfold maxLen at hl; rw [wrap_i64 (by omega) (by omega)]; rfl
            have hw1 : IntKind.i64.wrap ((n1 : Int) + 1) = ((n1 + 1 : Nat) : Int) := by unfold maxLen at hl; rw [wrap_i64 (by omega) (by omega)]; rfl
            have hw2 : IntKind.i64.wrap ((n2 : Int) + 1) = ((n2 + 1 : Nat) : Int) := by unfold maxLen at hl; rw [wrap_i64 (by omega) (by omega)]; rfl
            have t1 := cnt_take instrB ls k z hz
            have t2 := cnt_take labB ls k z hz
            rw [← hI1] at t1
            rw [← hI2] at t2
            cases c1 : decide (z.op ≠ 6 ∧ z.op ≠ 11) <;> cases c2 : decide (z.op = 11)
            all_goals
              have c1' : instrB z = _ := c1
              have c2' : labB z = _ := c2
              simp +contextual (maxSteps := 10000000) only [go_sem, ↓reduceIte, Nat.reduceLT, Nat.reduceEqDiff, Nat.reduceAdd, Nat.reduceSub, Nat.reduceMul, Nat.reduceLeDiff, Nat.reduceBEq, reduceCtorEq, Int.reduceAdd, Int.reduceSub, Int.reduceMul, Int.reduceLT, Int.reduceLE, Int.reduceToNat, Int.reduceNeg, Int.reduceEq, Int.reduceNe, UInt8.reduceOfNat, true_and, Line.e, hzm, hk0, hki, hkw, hw1, hw2, x_rinstr, c1, c2]
              rw [c1'] at t1
              rw [c2'] at t2
              simp only [if_true, if_false, Bool.false_eq_true] at t1 t2
              exact ⟨(_, _), rfl, t1.symm, t2.symm⟩
          · rintro ⟨n1, n2⟩ ⟨hI1, hI2⟩
            simp +contextual (maxSteps := 10000000) only [go_sem, ↓reduceIte, Nat.reduceLT, Nat.reduceEqDiff, Nat.reduceAdd, Nat.reduceSub, Nat.reduceMul, Nat.reduceLeDiff, Nat.reduceBEq, reduceCtorEq, Int.reduceAdd, Int.reduceSub, Int.reduceMul, Int.reduceLT, Int.reduceLE, Int.reduceToNat, Int.reduceNeg, Int.reduceEq, Int.reduceNe, UInt8.reduceOfNat, true_and, Line.e, Int.lt_irrefl, x_rinstr]
            simp only at hI1 hI2
            have hle : lineE (ls.take i) x (ls.drop (i + 1)) = if (instrB x = true ∧ 8 ≤ n1) ∨ (labB x = true ∧ 8 ≤ n2) then 5 else 0 := by
              simp only [lineE, hB', h2', h3', h4', Bool.true_eq_false, if_false, hI1, hI2]
            rw [hle]
            simp only [instrB, labB, Bool.or_eq_true, Bool.and_eq_true, decide_eq_true_eq, show ∀ n : Nat, ((8 : Int) ≤ (n : Int)) = (8 ≤ n) from fun n => by simp; omega]
      | false =>
        simp +contextual (maxSteps := 10000000) only [go_sem, ↓reduceIte, Nat.reduceLT, Nat.reduceEqDiff, Nat.reduceAdd, Nat.reduceSub, Nat.reduceMul, Nat.reduceLeDiff, Nat.reduceBEq, reduceCtorEq, Int.reduceAdd, Int.reduceSub, Int.reduceMul, Int.reduceLT, Int.reduceLE, Int.reduceToNat, Int.reduceNeg, Int.reduceEq, Int.reduceNe, UInt8.reduceOfNat, true_and, Line.e, hm, h0, hw, hin, hin1, er, e1, e2, x_rjump, x_rinstr, ← List.map_take, ← List.map_drop, List.take_length, hB, h2, hp, hy0, hy1, hy2, h3, hj]
        have h4 : True := trivial
        have h4' : ¬ (jumpB x = true ∧ labs (ls.drop (i + 1)) x.label = 0) := by
          rintro ⟨a, b⟩
          first
            | (rw [show jumpB x = decide (8 ≤ x.op ∧ x.op ≤ 10) from rfl, hj] at a; cases a; done)
            | (simp [b] at h4; done)
        generalize hE : ev _ _ _ _ (.loop _) _ = E
        revert E
        refine ev_phi i (fun k (p : Nat × Nat) => ⟨[(8, .int .i64 k), (7, .int .i64 p.2), (6, .int .i64 p.1), (5, .ptr 0 5 0), (1, .int .i64 i), (0, .sl 5 (ls.map Line.e))], [(5, .cells x.e)] :: stk⟩)
          (fun k p => p.1 = ((ls.take k).filter instrB).length ∧ p.2 = ((ls.take k).filter labB).length) (0, 0) ?_ (by simp) ?_ ?_
        · simp +contextual (maxSteps := 10000000) only [go_sem, ↓reduceIte, Nat.reduceLT, Nat.reduceEqDiff, Nat.reduceAdd, Nat.reduceSub, Nat.reduceMul, Nat.reduceLeDiff, Nat.reduceBEq, reduceCtorEq, Int.reduceAdd, Int.reduceSub, Int.reduceMul, Int.reduceLT, Int.reduceLE, Int.reduceToNat, Int.reduceNeg, Int.reduceEq, Int.reduceNe, UInt8.reduceOfNat, true_and, Line.e]
          rfl
        · rintro k ⟨n1, n2⟩ hk ⟨hI1, hI2⟩
          obtain ⟨z, hz⟩ : ∃ z, ls[k]? = some z := ⟨ls[k], List.getElem?_eq_getElem (by omega)⟩
          have hzm : (ls.map Line.e)[k]? = some z.e := by simp [hz]
          have hk0 : (0 : Int) ≤ (k : Int) := by omega
          have hki : ((k : Int) < (i : Int)) := by omega
          simp only at hI1 hI2
          have b1 := cnt_le instrB (ls.take k)
          have b2 := cnt_le labB (ls.take k)
          have b3 : (ls.take k).length ≤ k := List.length_take_le _ _
          have hkw : IntKind.i64.wrap ((k : Int) + 1) = ((k + 1 : Nat) : Int) := by unfold maxLen at hl; rw [wrap_i64 (by omega) (by omega)]; rfl
          have hw1 : IntKind.i64.wrap ((n1 : Int) + 1) = ((n1 + 1 : Nat) : Int) := by unfold maxLen at hl; rw [wrap_i64 (by omega) (by omega)]; rfl
          have hw2 : IntKind.i64.wrap ((n2 : Int) + 1) = ((n2 + 1 : Nat) : Int) := by unfold maxLen at hl; rw [wrap_i64 (by omega) (by omega)]; rfl
          have t1 := cnt_take instrB ls k z hz
          have t2 := cnt_take labB ls k z hz
          rw [← hI1] at t1
          rw [← hI2] at t2
          cases c1 : decide (z.op ≠ 6 ∧ z.op ≠ 11) <;> cases c2 : decide (z.op = 11)
          all_goals
            have c1' : instrB z = _ := c1
            have c2' : labB z = _ := c2
            simp +contextual (maxSteps := 10000000) only [go_sem, ↓reduceIte, Nat.reduceLT, Nat.reduceEqDiff, Nat.reduceAdd, Nat.reduceSub, Nat.reduceMul, Nat.reduceLeDiff, Nat.reduceBEq, reduceCtorEq, Int.reduceAdd, Int.reduceSub, Int.reduceMul, Int.reduceLT, Int.reduceLE, Int.reduceToNat, Int.reduceNeg, Int.reduceEq, Int.reduceNe, UInt8.reduceOfNat, true_and, Line.e, hzm, hk0, hki, hkw, hw1, hw2, x_rinstr, c1, c2]
            rw [c1'] at t1
            rw [c2'] at t2
            simp only [if_true, if_false, Bool.false_eq_true] at t1 t2
            exact ⟨(_, _), rfl, t1.symm, t2.symm⟩
        · rintro ⟨n1, n2⟩ ⟨hI1, hI2⟩
          simp +contextual (maxSteps := 10000000) only [go_sem, ↓reduceIte, Nat.reduceLT, Nat.reduceEqDiff, Nat.reduceAdd, Nat.reduceSub, Nat.reduceMul, Nat.reduceLeDiff, Nat.reduceBEq, reduceCtorEq, Int.reduceAdd, Int.reduceSub, Int.reduceMul, Int.reduceLT, Int.reduceLE, Int.reduceToNat, Int.reduceNeg, Int.reduceEq, Int.reduceNe, UInt8.reduceOfNat, true_and, Line.e, Int.lt_irrefl, x_rinstr]
          simp only at hI1 hI2
          have hle : lineE (ls.take i) x (ls.drop (i + 1)) = if (instrB x = true ∧ 8 ≤ n1) ∨ (labB x = true ∧ 8 ≤ n2) then 5 else 0 := by
            simp only [lineE, hB', h2', h3', h4', Bool.true_eq_false, if_false, hI1, hI2]
          rw [hle]
          simp only [instrB, labB, Bool.or_eq_true, Bool.and_eq_true, decide_eq_true_eq, show ∀ n : Nat, ((8 : Int) ≤ (n : Int)) = (8 ≤ n) from fun n => by simp; omega]
  | false =>
    have h3' : ¬ (x.op = 6 ∧ ∃ y, (ls.take i).getLast? = some y ∧ y.op = 6) := by
      rintro ⟨a, z, b, c⟩
      have : i = 0 := by simp at hp; omega
      subst this
      simp at b
    cases hj : decide (8 ≤ x.op ∧ x.op ≤ 10) with
    | true =>
      cases h4 : decide ((labs (ls.drop (i + 1)) x.label : Int) = 0) with
      | true =>
        simp +contextual (maxSteps := 10000000) only [go_sem, ↓reduceIte, Nat.reduceLT, Nat.reduceEqDiff, Nat.reduceAdd, Nat.reduceSub, Nat.reduceMul, Nat.reduceLeDiff, Nat.reduceBEq, reduceCtorEq, Int.reduceAdd, Int.reduceSub, Int.reduceMul, Int.reduceLT, Int.reduceLE, Int.reduceToNat, Int.reduceNeg, Int.reduceEq, Int.reduceNe, UInt8.reduceOfNat, true_and, Line.e, hm, h0, hw, hin, hin1, er, e1, e2, x_rjump, x_rinstr, ← List.map_take, ← List.map_drop, List.take_length, hB, h2, hp, hj, h4]
        simp only [lineE, hB', h2', h3', Bool.true_eq_false, if_false]
        rw [if_pos ⟨hj, by simpa using h4⟩]
      | false =>
        simp +contextual (maxSteps := 10000000) only [go_sem, ↓reduceIte, Nat.reduceLT, Nat.reduceEqDiff, Nat.reduceAdd, Nat.reduceSub, Nat.reduceMul, Nat.reduceLeDiff, Nat.reduceBEq, reduceCtorEq, Int.reduceAdd, Int.reduceSub, Int.reduceMul, Int.reduceLT, Int.reduceLE, Int.reduceToNat, Int.reduceNeg, Int.reduceEq, Int.reduceNe, UInt8.reduceOfNat, true_and, Line.e, hm, h0, hw, hin, hin1, er, e1, e2, x_rjump, x_rinstr, ← List.map_take, ← List.map_drop, List.take_length, hB, h2, hp, hj, h4]
        have h4' : ¬ (jumpB x = true ∧ labs (ls.drop (i + 1)) x.label = 0) := by
          rintro ⟨a, b⟩
          first
            | (rw [show jumpB x = decide (8 ≤ x.op ∧ x.op ≤ 10) from rfl, hj] at a; cases a; done)
            | (simp [b] at h4; done)
        generalize hE : ev _ _ _ _ (.loop _) _ = E
        revert E
        refine ev_phi i (fun k (p : Nat × Nat) => ⟨[(8, .int .i64 k), (7, .int .i64 p.2), (6, .int .i64 p.1), (5, .ptr 0 5 0), (1, .int .i64 i), (0, .sl 5 (ls.map Line.e))], [(5, .cells x.e)] :: stk⟩)
          (fun k p => p.1 = ((ls.take k).filter instrB).length ∧ p.2 = ((ls.take k).filter labB).length) (0, 0) ?_ (by simp) ?_ ?_
        · simp +contextual (maxSteps := 10000000) only [go_sem, ↓reduceIte, Nat.reduceLT, Nat.reduceEqDiff, Nat.reduceAdd, Nat.reduceSub, Nat.reduceMul, Nat.reduceLeDiff, Nat.reduceBEq, reduceCtorEq, Int.reduceAdd, Int.reduceSub, Int.reduceMul, Int.reduceLT, Int.reduceLE, Int.reduceToNat, Int.reduceNeg, Int.reduceEq, Int.reduceNe, UInt8.reduceOfNat, true_and, Line.e]
          rfl
        · rintro k ⟨n1, n2⟩ hk ⟨hI1, hI2⟩
          obtain ⟨z, hz⟩ : ∃ z, ls[k]? = some z := ⟨ls[k], List.getElem?_eq_getElem (by omega)⟩
          have hzm : (ls.map Line.e)[k]? = some z.e := by simp [hz]
          have hk0 : (0 : Int) ≤ (k : Int) := by omega
          have hki : ((k : Int) < (i : Int)) := by omega
          simp only at hI1 hI2
          have b1 := cnt_le instrB (ls.take k)
          have b2 := cnt_le labB (ls.take k)
          have b3 : (ls.take k).length ≤ k := List.length_take_le _ _
          have hkw : IntKind.i64.wrap ((k : Int) + 1) = ((k + 1 : Nat) : Int) := by unfold maxLen at hl; rw [wrap_i64 (by omega) (by omega)]; rfl
          have hw1 : IntKind.i64.wrap ((n1 : Int) + 1) = ((n1 + 1 : Nat) : Int) := by unfold maxLen at hl; rw [wrap_i64 (by omega) (by omega)]; rfl
          have hw2 : IntKind.i64.wrap ((n2 : Int) + 1) = ((n2 + 1 : Nat) : Int) := by unfold maxLen at hl; rw [wrap_i64 (by omega) (by omega)]; rfl
          have t1 := cnt_take instrB ls k z hz
          have t2 := cnt_take labB ls k z hz
          rw [← hI1] at t1
          rw [← hI2] at t2
          cases c1 : decide (z.op ≠ 6 ∧ z.op ≠ 11) <;> cases c2 : decide (z.op = 11)
          all_goals
            have c1' : instrB z = _ := c1
            have c2' : labB z = _ := c2
            simp +contextual (maxSteps := 10000000) only [go_sem, ↓reduceIte, Nat.reduceLT, Nat.reduceEqDiff, Nat.reduceAdd, Nat.reduceSub, Nat.reduceMul, Nat.reduceLeDiff, Nat.reduceBEq, reduceCtorEq, Int.reduceAdd, Int.reduceSub, Int.reduceMul, Int.reduceLT, Int.reduceLE, Int.reduceToNat, Int.reduceNeg, Int.reduceEq, Int.reduceNe, UInt8.reduceOfNat, true_and, Line.e, hzm, hk0, hki, hkw, hw1, hw2, x_rinstr, c1, c2]
            rw [c1'] at t1
            rw [c2'] at t2
            simp only [if_true, if_false, Bool.false_eq_true] at t1 t2
            exact ⟨(_, _), rfl, t1.symm, t2.symm⟩
        · rintro ⟨n1, n2⟩ ⟨hI1, hI2⟩
          simp +contextual (maxSteps := 10000000) only [go_sem, ↓reduceIte, Nat.reduceLT, Nat.reduceEqDiff, Nat.reduceAdd, Nat.reduceSub, Nat.reduceMul, Nat.reduceLeDiff, Nat.reduceBEq, reduceCtorEq, Int.reduceAdd, Int.reduceSub, Int.reduceMul, Int.reduceLT, Int.reduceLE, Int.reduceToNat, Int.reduceNeg, Int.reduceEq, Int.reduceNe, UInt8.reduceOfNat, true_and, Line.e, Int.lt_irrefl, x_rinstr]
          simp only at hI1 hI2
          have hle : lineE (ls.take i) x (ls.drop (i + 1)) = if (instrB x = true ∧ 8 ≤ n1) ∨ (labB x = true ∧ 8 ≤ n2) then 5 else 0 := by
            simp only [lineE, hB', h2', h3', h4', Bool.true_eq_false, if_false, hI1, hI2]
          rw [hle]
          simp only [instrB, labB, Bool.or_eq_true, Bool.and_eq_true, decide_eq_true_eq, show ∀ n : Nat, ((8 : Int) ≤ (n : Int)) = (8 ≤ n) from fun n => by simp; omega]
    | false =>
      simp +contextual (maxSteps := 10000000) only [go_sem, ↓reduceIte, Nat.reduceLT, Nat.reduceEqDiff, Nat.reduceAdd, Nat.reduceSub, Nat.reduceMul, Nat.reduceLeDiff, Nat.reduceBEq, reduceCtorEq, Int.reduceAdd, Int.reduceSub, Int.reduceMul, Int.reduceLT, Int.reduceLE, Int.reduceToNat, Int.reduceNeg, Int.reduceEq, Int.reduceNe, UInt8.reduceOfNat, true_and, Line.e, hm, h0, hw, hin, hin1, er, e1, e2, x_rjump, x_rinstr, ← List.map_take, ← List.map_drop, List.take_length, hB, h2, hp, hj]
      have h4 : True := trivial
      have h4' : ¬ (jumpB x = true ∧ labs (ls.drop (i + 1)) x.label = 0) := by
        rintro ⟨a, b⟩
        first
          | (rw [show jumpB x = decide (8 ≤ x.op ∧ x.op ≤ 10) from rfl, hj] at a; cases a; done)
          | (simp [b] at h4; done)
      generalize hE : ev _ _ _ _ (.loop _) _ = E
      revert E
      refine ev_phi i (fun k (p : Nat × Nat) => ⟨[(8, .int .i64 k), (7, .int .i64 p.2), (6, .int .i64 p.1), (5, .ptr 0 5 0), (1, .int .i64 i), (0, .sl 5 (ls.map Line.e))], [(5, .cells x.e)] :: stk⟩)
        (fun k p => p.1 = ((ls.take k).filter instrB).length ∧ p.2 = ((ls.take k).filter labB).length) (0, 0) ?_ (by simp) ?_ ?_
      · simp +contextual (maxSteps := 10000000) only [go_sem, ↓reduceIte, Nat.reduceLT, Nat.reduceEqDiff, Nat.reduceAdd, Nat.reduceSub, Nat.reduceMul, Nat.reduceLeDiff, Nat.reduceBEq, reduceCtorEq, Int.reduceAdd, Int.reduceSub, Int.reduceMul, Int.reduceLT, Int.reduceLE, Int.reduceToNat, Int.reduceNeg, Int.reduceEq, Int.reduceNe, UInt8.reduceOfNat, true_and, Line.e]
        rfl
      · rintro k ⟨n1, n2⟩ hk ⟨hI1, hI2⟩
        obtain ⟨z, hz⟩ : ∃ z, ls[k]? = some z := ⟨ls[k], List.getElem?_eq_getElem (by omega)⟩
        have hzm : (ls.map Line.e)[k]? = some z.e := by simp [hz]
        have hk0 : (0 : Int) ≤ (k : Int) := by omega
        have hki : ((k : Int) < (i : Int)) := by omega
        simp only at hI1 hI2
        have b1 := cnt_le instrB (ls.take k)
        have b2 := cnt_le labB (ls.take k)
        have b3 : (ls.take k).length ≤ k := List.length_take_le _ _
        have hkw : IntKind.i64.wrap ((k : Int) + 1) = ((k + 1 : Nat) : Int) := by unfold maxLen at hl; rw [wrap_i64 (by omega) (by omega)]; rfl
        have hw1 : IntKind.i64.wrap ((n1 : Int) + 1) = ((n1 + 1 : Nat) : Int) := by unfold maxLen at hl; rw [wrap_i64 (by omega) (by omega)]; rfl
        have hw2 : IntKind.i64.wrap ((n2 : Int) + 1) = ((n2 + 1 : Nat) : Int) := by unfold maxLen at hl; rw [wrap_i64 (by omega) (by omega)]; rfl
        have t1 := cnt_take instrB ls k z hz
        have t2 := cnt_take labB ls k z hz
        rw [← hI1] at t1
        rw [← hI2] at t2
        cases c1 : decide (z.op ≠ 6 ∧ z.op ≠ 11) <;> cases c2 : decide (z.op = 11)
        all_goals
          have c1' : instrB z = _ := c1
          have c2' : labB z = _ := c2
          simp +contextual (maxSteps := 10000000) only [go_sem, ↓reduceIte, Nat.reduceLT, Nat.reduceEqDiff, Nat.reduceAdd, Nat.reduceSub, Nat.reduceMul, Nat.reduceLeDiff, Nat.reduceBEq, reduceCtorEq, Int.reduceAdd, Int.reduceSub, Int.reduceMul, Int.reduceLT, Int.reduceLE, Int.reduceToNat, Int.reduceNeg, Int.reduceEq, Int.reduceNe, UInt8.reduceOfNat, true_and, Line.e, hzm, hk0, hki, hkw, hw1, hw2, x_rinstr, c1, c2]
          rw [c1'] at t1
          rw [c2'] at t2
          simp only [if_true, if_false, Bool.false_eq_true] at t1 t2
          exact ⟨(_, _), rfl, t1.symm, t2.symm⟩
      · rintro ⟨n1, n2⟩ ⟨hI1, hI2⟩
        simp +contextual (maxSteps := 10000000) only [go_sem, ↓reduceIte, Nat.reduceLT, Nat.reduceEqDiff, Nat.reduceAdd, Nat.reduceSub, Nat.reduceMul, Nat.reduceLeDiff, Nat.reduceBEq, reduceCtorEq, Int.reduceAdd, Int.reduceSub, Int.reduceMul, Int.reduceLT, Int.reduceLE, Int.reduceToNat, Int.reduceNeg, Int.reduceEq, Int.reduceNe, UInt8.reduceOfNat, true_and, Line.e, Int.lt_irrefl, x_rinstr]
        simp only at hI1 hI2
        have hle : lineE (ls.take i) x (ls.drop (i + 1)) = if (instrB x = true ∧ 8 ≤ n1) ∨ (labB x = true ∧ 8 ≤ n2) then 5 else 0 := by
          simp only [lineE, hB', h2', h3', h4', Bool.true_eq_false, if_false, hI1, hI2]
        rw [hle]
        simp only [instrB, labB, Bool.or_eq_true, Bool.and_eq_true, decide_eq_true_eq, show ∀ n : Nat, ((8 : Int) ≤ (n : Int)) = (8 ≤ n) from fun n => by simp; omega]
end Go.Proofs.Ytcecleclipcheaa
