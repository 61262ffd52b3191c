/-
  What the reference's functions compute: what is wrong with a program; its locations.
  What the reference's functions compute: a program's check.
  What the program's functions compute: what is wrong ahead of the threads, and with what is asked.
  What the program's functions compute: what is wrong with a thread.
-/
import Derived.Test.YtcecleclipcheaaEa
set_option linter.unusedVariables false
set_option linter.unusedSimpArgs false
namespace Go.Proofs.Ytcecleclipcheaa
open Go Go.Shade Go.Fence
attribute [local congr] ite_congr

set_option maxHeartbeats 2000000 in
set_option maxRecDepth 10000 in
theorem e_rhead (f : File) (stk : Stk) (hf : f.Fit) : cl Try.prog an prm 124 [.agg f.e] stk = some (.int .i64 (headE f), stk) := by
  rw [cl_eq rfl Try.func124 rfl _ _ (by simp [Try.f124])]
  have hn := fun stk => e_rname f.name stk hf.name
  cases hN : nameB f.name with
  | false =>
    simp +contextual (maxSteps := 10000000) only [go_sem, ↓reduceIte, Nat.reduceLT, Nat.reduceEqDiff, Nat.reduceAdd, Nat.reduceSub, Nat.reduceMul, Nat.reduceLeDiff, Nat.reduceBEq, reduceCtorEq, Int.reduceAdd, Int.reduceSub, Int.reduceMul, Int.reduceLT, Int.reduceLE, Int.reduceToNat, Int.reduceNeg, Int.reduceEq, Int.reduceNe, UInt8.reduceOfNat, true_and, File.e, hn, hN]
    simp [headE, hN]
  | true =>
  simp +contextual (maxSteps := 10000000) only [go_sem, ↓reduceIte, Nat.reduceLT, Nat.reduceEqDiff, Nat.reduceAdd, Nat.reduceSub, Nat.reduceMul, Nat.reduceLeDiff, Nat.reduceBEq, reduceCtorEq, Int.reduceAdd, Int.reduceSub, Int.reduceMul, Int.reduceLT, Int.reduceLE, Int.reduceToNat, Int.reduceNeg, Int.reduceEq, Int.reduceNe, UInt8.reduceOfNat, true_and, File.e, hn, hN]
  generalize hE : ev _ _ _ _ (.loop _) _ = E
  revert E
  refine ev_phil f.init Cell.e (fun i (_ : Unit) => ⟨[(3, .int .i64 i), (1, .ptr 0 1 0)], [(1, .cells f.e)] :: stk⟩) (fun i _ => cellsE none f.init = cellsE (prevC f.init i) (f.init.drop i)) () hf.init.1 ?_ (by simp [prevC_zero]) ?_ ?_
  · simp +contextual (maxSteps := 10000000) only [go_sem, ↓reduceIte, Nat.reduceLT, Nat.reduceEqDiff, Nat.reduceAdd, Nat.reduceSub, Nat.reduceMul, Nat.reduceLeDiff, Nat.reduceBEq, reduceCtorEq, Int.reduceAdd, Int.reduceSub, Int.reduceMul, Int.reduceLT, Int.reduceLE, Int.reduceToNat, Int.reduceNeg, Int.reduceEq, Int.reduceNe, UInt8.reduceOfNat, true_and, File.e]
    rfl
  · intro i c _ hi hx hm hlt h0 hw hI
    have hc := fun stk => e_rname c.loc stk (hf.init.2 c (List.mem_iff_getElem?.2 ⟨i, hx⟩)).loc
    rw [cellsE_step hx] at hI
    cases hB : nameB c.loc with
    | false =>
      simp +contextual (maxSteps := 10000000) only [go_sem, ↓reduceIte, Nat.reduceLT, Nat.reduceEqDiff, Nat.reduceAdd, Nat.reduceSub, Nat.reduceMul, Nat.reduceLeDiff, Nat.reduceBEq, reduceCtorEq, Int.reduceAdd, Int.reduceSub, Int.reduceMul, Int.reduceLT, Int.reduceLE, Int.reduceToNat, Int.reduceNeg, Int.reduceEq, Int.reduceNe, UInt8.reduceOfNat, true_and, File.e, Cell.e, hm, hlt, h0, hw, hc, hB]
      rw [hB] at hI
      simp [headE, hN, hI]
    | true =>
    rw [hB] at hI
    cases hp : decide ((0 : Int) < (i : Int)) with
    | true =>
      obtain ⟨y, hy⟩ : ∃ y, f.init[i - 1]? = some y := ⟨f.init[i - 1], List.getElem?_eq_getElem (by omega)⟩
      have hym : (f.init.map Cell.e)[i - 1]? = some y.e := by simp [hy]
      have hp' : (0 : Int) < (i : Int) := by simpa using hp
      have hw2 : IntKind.i64.wrap ((i : Int) - 1) = ((i - 1 : Nat) : Int) := by have := hf.init.1; unfold maxLen at this; rw [wrap_i64 (by omega) (by omega)]; omega
      have h02 : (0 : Int) ≤ ((i - 1 : Nat) : Int) := by omega
      have hpv : prevC f.init i = some y.loc := by
        have := prevC_succ hy
        rwa [show i - 1 + 1 = i by omega] at this
      rw [hpv] at hI
      cases hl : strLt y.loc c.loc with
      | true =>
        simp +contextual (maxSteps := 10000000) only [go_sem, ↓reduceIte, Nat.reduceLT, Nat.reduceEqDiff, Nat.reduceAdd, Nat.reduceSub, Nat.reduceMul, Nat.reduceLeDiff, Nat.reduceBEq, reduceCtorEq, Int.reduceAdd, Int.reduceSub, Int.reduceMul, Int.reduceLT, Int.reduceLE, Int.reduceToNat, Int.reduceNeg, Int.reduceEq, Int.reduceNe, UInt8.reduceOfNat, true_and, File.e, Cell.e, hm, hym, hlt, h0, h02, hw, hw2, hc, hB, hp, le_not, hl]
        refine ⟨(), ?_⟩
        rw [hI, prevC_succ hx]
        simp [hl]
      | false =>
        simp +contextual (maxSteps := 10000000) only [go_sem, ↓reduceIte, Nat.reduceLT, Nat.reduceEqDiff, Nat.reduceAdd, Nat.reduceSub, Nat.reduceMul, Nat.reduceLeDiff, Nat.reduceBEq, reduceCtorEq, Int.reduceAdd, Int.reduceSub, Int.reduceMul, Int.reduceLT, Int.reduceLE, Int.reduceToNat, Int.reduceNeg, Int.reduceEq, Int.reduceNe, UInt8.reduceOfNat, true_and, File.e, Cell.e, hm, hym, hlt, h0, h02, hw, hw2, hc, hB, hp, le_not, hl]
        simp [hl] at hI
        simp [headE, hN, hI]
    | false =>
      obtain rfl : i = 0 := by simp at hp; omega
      simp +contextual (maxSteps := 10000000) only [go_sem, ↓reduceIte, Nat.reduceLT, Nat.reduceEqDiff, Nat.reduceAdd, Nat.reduceSub, Nat.reduceMul, Nat.reduceLeDiff, Nat.reduceBEq, reduceCtorEq, Int.reduceAdd, Int.reduceSub, Int.reduceMul, Int.reduceLT, Int.reduceLE, Int.reduceToNat, Int.reduceNeg, Int.reduceEq, Int.reduceNe, UInt8.reduceOfNat, true_and, File.e, Cell.e, hm, hlt, h0, hw, hc, hB, hp]
      refine ⟨(), ?_⟩
      rw [hI, prevC_zero, prevC_succ hx]
      simp
  · intro _ hI
    simp [cellsE] at hI
    simp +contextual (maxSteps := 10000000) only [go_sem, ↓reduceIte, Nat.reduceLT, Nat.reduceEqDiff, Nat.reduceAdd, Nat.reduceSub, Nat.reduceMul, Nat.reduceLeDiff, Nat.reduceBEq, reduceCtorEq, Int.reduceAdd, Int.reduceSub, Int.reduceMul, Int.reduceLT, Int.reduceLE, Int.reduceToNat, Int.reduceNeg, Int.reduceEq, Int.reduceNe, UInt8.reduceOfNat, true_and, File.e, Int.lt_irrefl]
    rw [show decide ((f.threads.length : Int) < 1) = decide (f.threads.length < 1) from decide_eq_decide.2 (by omega), show decide ((3 : Int) < (f.threads.length : Int)) = decide (3 < f.threads.length) from decide_eq_decide.2 (by omega)]
    by_cases h1 : f.threads.length < 1 <;> by_cases h2 : 3 < f.threads.length <;> simp only [headE, hN, hI, h1, h2, decide_true, decide_false, if_true, if_false, Bool.false_eq_true, Bool.true_eq_false, ne_eq, not_true_eq_false, or_true, or_false, true_or]

set_option maxHeartbeats 2000000 in
set_option maxRecDepth 10000 in
theorem e_rlocs (f : File) (stk : Stk) (hf : f.Fit) (hn : (namesR f).length ≤ 500000) : cl Try.prog an prm 78 [.agg f.e] stk = some (strs (locsR f), stk) := by
  rw [cl_eq rfl Try.func78 rfl _ _ (by simp [Try.f78])]
  have hput : ∀ (names : List ByteArray) (s : ByteArray) (stk : Stk), names.length ≤ 500000 → cl Try.prog an prm 123 [.sl 1 ((names.foldl (fun a s => putL s a) []).map fun s => [.str s]), .str s] stk = some (.sl 1 ((putL s (names.foldl (fun a s => putL s a) [])).map fun s => [.str s]), stk) := fun names s stk h => e_put _ s stk (by have := foldl_put_len names []; simp only [List.length_nil] at this; omega)
  have hl1 : (f.init.map (·.loc)).length + (f.threads.flatMap fun t => t.map (·.loc)).length + ((f.cond.filter (·.thread = -1)).map (·.name)).length ≤ 500000 := by simpa [namesR, Nat.add_assoc] using hn
  simp +contextual (maxSteps := 10000000) only [go_sem, ↓reduceIte, Nat.reduceLT, Nat.reduceEqDiff, Nat.reduceAdd, Nat.reduceSub, Nat.reduceMul, Nat.reduceLeDiff, Nat.reduceBEq, reduceCtorEq, Int.reduceAdd, Int.reduceSub, Int.reduceMul, Int.reduceLT, Int.reduceLE, Int.reduceToNat, Int.reduceNeg, Int.reduceEq, Int.reduceNe, UInt8.reduceOfNat, true_and, File.e]
  generalize hE : ev _ _ _ _ (.loop _) _ = E
  revert E
  refine ev_phil f.init Cell.e (fun i (p : List ByteArray) => ⟨[(4, .int .i64 i), (3, .sl 1 ((p.foldl (fun a s => putL s a) []).map fun s => [.str s])), (1, .ptr 0 1 0)], [(1, .cells f.e)] :: stk⟩) (fun i p => p = (f.init.take i).map (·.loc)) [] hf.init.1 ?_ (by simp) ?_ ?_
  · simp +contextual (maxSteps := 10000000) only [go_sem, ↓reduceIte, Nat.reduceLT, Nat.reduceEqDiff, Nat.reduceAdd, Nat.reduceSub, Nat.reduceMul, Nat.reduceLeDiff, Nat.reduceBEq, reduceCtorEq, Int.reduceAdd, Int.reduceSub, Int.reduceMul, Int.reduceLT, Int.reduceLE, Int.reduceToNat, Int.reduceNeg, Int.reduceEq, Int.reduceNe, UInt8.reduceOfNat, true_and, File.e, List.foldl_nil]
    rfl
  · intro i c p hi hx hm hlt h0 hw hI
    have := hput p c.loc
    have hpl : p.length ≤ 500000 := by rw [hI]; simp at hl1 ⊢; omega
    simp +contextual (maxSteps := 10000000) only [go_sem, ↓reduceIte, Nat.reduceLT, Nat.reduceEqDiff, Nat.reduceAdd, Nat.reduceSub, Nat.reduceMul, Nat.reduceLeDiff, Nat.reduceBEq, reduceCtorEq, Int.reduceAdd, Int.reduceSub, Int.reduceMul, Int.reduceLT, Int.reduceLE, Int.reduceToNat, Int.reduceNeg, Int.reduceEq, Int.reduceNe, UInt8.reduceOfNat, true_and, File.e, Cell.e, hm, hlt, h0, hw, fun stk => hput p c.loc stk hpl]
    exact ⟨p ++ [c.loc], by simp, by rw [hI, take_snoc hx]; simp⟩
  intro p hI1
  rw [List.take_length] at hI1
  simp +contextual (maxSteps := 10000000) only [go_sem, ↓reduceIte, Nat.reduceLT, Nat.reduceEqDiff, Nat.reduceAdd, Nat.reduceSub, Nat.reduceMul, Nat.reduceLeDiff, Nat.reduceBEq, reduceCtorEq, Int.reduceAdd, Int.reduceSub, Int.reduceMul, Int.reduceLT, Int.reduceLE, Int.reduceToNat, Int.reduceNeg, Int.reduceEq, Int.reduceNe, UInt8.reduceOfNat, true_and, File.e, Int.lt_irrefl]
  generalize hE : ev _ _ _ _ (.loop _) _ = E
  revert E
  refine ev_phil f.threads thr (fun i (q : List ByteArray) => ⟨[(5, .int .i64 i), (3, .sl 1 ((q.foldl (fun a s => putL s a) []).map fun s => [.str s])), (1, .ptr 0 1 0)], [(1, .cells f.e)] :: stk⟩) (fun i q => q = p ++ (f.threads.take i).flatMap fun t => t.map (·.loc)) p hf.threads.1 ?_ (by simp) ?_ ?_
  · simp +contextual (maxSteps := 10000000) only [go_sem, ↓reduceIte, Nat.reduceLT, Nat.reduceEqDiff, Nat.reduceAdd, Nat.reduceSub, Nat.reduceMul, Nat.reduceLeDiff, Nat.reduceBEq, reduceCtorEq, Int.reduceAdd, Int.reduceSub, Int.reduceMul, Int.reduceLT, Int.reduceLE, Int.reduceToNat, Int.reduceNeg, Int.reduceEq, Int.reduceNe, UInt8.reduceOfNat, true_and, File.e]
    rfl
  · intro i t q hi hx hm hlt h0 hw hI
    have hbt : q.length + t.length ≤ 500000 := by
      have h3 : f.threads = f.threads.take i ++ t :: f.threads.drop (i + 1) := by rw [← drop_cons hx, List.take_append_drop]
      rw [h3] at hl1
      simp only [List.flatMap_append, List.flatMap_cons, List.length_append, List.length_map] at hl1
      rw [hI, hI1]
      simp only [List.length_append, List.length_map]
      omega
    have hft := hf.threads.2 t (List.mem_iff_getElem?.2 ⟨i, hx⟩)
    simp +contextual (maxSteps := 10000000) only [go_sem, ↓reduceIte, Nat.reduceLT, Nat.reduceEqDiff, Nat.reduceAdd, Nat.reduceSub, Nat.reduceMul, Nat.reduceLeDiff, Nat.reduceBEq, reduceCtorEq, Int.reduceAdd, Int.reduceSub, Int.reduceMul, Int.reduceLT, Int.reduceLE, Int.reduceToNat, Int.reduceNeg, Int.reduceEq, Int.reduceNe, UInt8.reduceOfNat, true_and, File.e, thr, hm, hlt, h0, hw]
    generalize hE : ev _ _ _ _ (.loop _) _ = E
    revert E
    refine ev_phil t Line.e (fun k (p : List ByteArray) => ⟨[(6, .int .i64 k), (5, .int .i64 i), (3, .sl 1 ((p.foldl (fun a s => putL s a) []).map fun s => [.str s])), (1, .ptr 0 1 0)], [(1, .cells f.e)] :: stk⟩) (fun k p => p = q ++ (t.take k).map (·.loc)) q hft.1 ?_ (by simp) ?_ ?_
    · simp +contextual (maxSteps := 10000000) only [go_sem, ↓reduceIte, Nat.reduceLT, Nat.reduceEqDiff, Nat.reduceAdd, Nat.reduceSub, Nat.reduceMul, Nat.reduceLeDiff, Nat.reduceBEq, reduceCtorEq, Int.reduceAdd, Int.reduceSub, Int.reduceMul, Int.reduceLT, Int.reduceLE, Int.reduceToNat, Int.reduceNeg, Int.reduceEq, Int.reduceNe, UInt8.reduceOfNat, true_and, File.e]
      rfl
    · intro k c p hk hkx hkm hklt hk0 hkw hkI
      have hpl : p.length ≤ 500000 := by
        rw [hkI]
        have := List.length_take_le k t
        have : (t.take k).length ≤ t.length := by simp; omega
        simp only [List.length_append, List.length_map]
        omega
      simp +contextual (maxSteps := 10000000) only [go_sem, ↓reduceIte, Nat.reduceLT, Nat.reduceEqDiff, Nat.reduceAdd, Nat.reduceSub, Nat.reduceMul, Nat.reduceLeDiff, Nat.reduceBEq, reduceCtorEq, Int.reduceAdd, Int.reduceSub, Int.reduceMul, Int.reduceLT, Int.reduceLE, Int.reduceToNat, Int.reduceNeg, Int.reduceEq, Int.reduceNe, UInt8.reduceOfNat, true_and, File.e, thr, Line.e, hm, h0, hkm, hklt, hk0, hkw, fun stk => hput p c.loc stk hpl]
      exact ⟨p ++ [c.loc], by simp, by rw [hkI, take_snoc hkx]; simp⟩
    · intro p hkI
      rw [List.take_length] at hkI
      simp +contextual (maxSteps := 10000000) only [go_sem, ↓reduceIte, Nat.reduceLT, Nat.reduceEqDiff, Nat.reduceAdd, Nat.reduceSub, Nat.reduceMul, Nat.reduceLeDiff, Nat.reduceBEq, reduceCtorEq, Int.reduceAdd, Int.reduceSub, Int.reduceMul, Int.reduceLT, Int.reduceLE, Int.reduceToNat, Int.reduceNeg, Int.reduceEq, Int.reduceNe, UInt8.reduceOfNat, true_and, File.e, thr, hm, h0, hw, Int.lt_irrefl]
      exact ⟨_, rfl, by rw [hkI, hI, take_snoc hx]; simp⟩
  intro p2 hI2
  rw [List.take_length] at hI2
  simp +contextual (maxSteps := 10000000) only [go_sem, ↓reduceIte, Nat.reduceLT, Nat.reduceEqDiff, Nat.reduceAdd, Nat.reduceSub, Nat.reduceMul, Nat.reduceLeDiff, Nat.reduceBEq, reduceCtorEq, Int.reduceAdd, Int.reduceSub, Int.reduceMul, Int.reduceLT, Int.reduceLE, Int.reduceToNat, Int.reduceNeg, Int.reduceEq, Int.reduceNe, UInt8.reduceOfNat, true_and, File.e, Int.lt_irrefl]
  generalize hE : ev _ _ _ _ (.loop _) _ = E
  revert E
  refine ev_phil f.cond Atom.e (fun i (q : List ByteArray) => ⟨[(7, .int .i64 i), (3, .sl 1 ((q.foldl (fun a s => putL s a) []).map fun s => [.str s])), (1, .ptr 0 1 0)], [(1, .cells f.e)] :: stk⟩) (fun i q => q = p2 ++ ((f.cond.take i).filter (·.thread = -1)).map (·.name)) p2 hf.cond.1 ?_ (by simp) ?_ ?_
  · simp +contextual (maxSteps := 10000000) only [go_sem, ↓reduceIte, Nat.reduceLT, Nat.reduceEqDiff, Nat.reduceAdd, Nat.reduceSub, Nat.reduceMul, Nat.reduceLeDiff, Nat.reduceBEq, reduceCtorEq, Int.reduceAdd, Int.reduceSub, Int.reduceMul, Int.reduceLT, Int.reduceLE, Int.reduceToNat, Int.reduceNeg, Int.reduceEq, Int.reduceNe, UInt8.reduceOfNat, true_and, File.e]
    rfl
  · intro i t q hi hx hm hlt h0 hw hI
    have hpl : q.length ≤ 500000 := by
      rw [hI, hI2, hI1]
      have h3 : f.cond = f.cond.take i ++ t :: f.cond.drop (i + 1) := by rw [← drop_cons hx, List.take_append_drop]
      rw [h3] at hl1
      simp only [List.filter_append, List.map_append, List.length_append, List.length_map] at hl1 ⊢
      omega
    cases hT : decide (t.thread = -1) with
    | true =>
      simp +contextual (maxSteps := 10000000) only [go_sem, ↓reduceIte, Nat.reduceLT, Nat.reduceEqDiff, Nat.reduceAdd, Nat.reduceSub, Nat.reduceMul, Nat.reduceLeDiff, Nat.reduceBEq, reduceCtorEq, Int.reduceAdd, Int.reduceSub, Int.reduceMul, Int.reduceLT, Int.reduceLE, Int.reduceToNat, Int.reduceNeg, Int.reduceEq, Int.reduceNe, UInt8.reduceOfNat, true_and, File.e, Atom.e, hm, hlt, h0, hw, hT, fun stk => hput q t.name stk hpl]
      exact ⟨q ++ [t.name], by simp, by rw [hI, take_snoc hx, List.filter_append]; simp [hT]⟩
    | false =>
      simp +contextual (maxSteps := 10000000) only [go_sem, ↓reduceIte, Nat.reduceLT, Nat.reduceEqDiff, Nat.reduceAdd, Nat.reduceSub, Nat.reduceMul, Nat.reduceLeDiff, Nat.reduceBEq, reduceCtorEq, Int.reduceAdd, Int.reduceSub, Int.reduceMul, Int.reduceLT, Int.reduceLE, Int.reduceToNat, Int.reduceNeg, Int.reduceEq, Int.reduceNe, UInt8.reduceOfNat, true_and, File.e, Atom.e, hm, hlt, h0, hw, hT]
      exact ⟨q, rfl, by rw [hI, take_snoc hx, List.filter_append]; simp [hT]⟩
  intro p3 hI3
  rw [List.take_length] at hI3
  simp +contextual (maxSteps := 10000000) only [go_sem, ↓reduceIte, Nat.reduceLT, Nat.reduceEqDiff, Nat.reduceAdd, Nat.reduceSub, Nat.reduceMul, Nat.reduceLeDiff, Nat.reduceBEq, reduceCtorEq, Int.reduceAdd, Int.reduceSub, Int.reduceMul, Int.reduceLT, Int.reduceLE, Int.reduceToNat, Int.reduceNeg, Int.reduceEq, Int.reduceNe, UInt8.reduceOfNat, true_and, File.e, Int.lt_irrefl]
  rw [hI3, hI2, hI1]
  rfl
end Go.Proofs.Ytcecleclipcheaa

set_option linter.unusedVariables false
set_option linter.unusedSimpArgs false
namespace Go.Proofs.Ytcecleclipcheaa
open Go Go.Shade Go.Fence
attribute [local congr] ite_congr

set_option maxHeartbeats 2000000 in
set_option maxRecDepth 10000 in
theorem e_rcheck (f : File) (stk : Stk) (hf : f.Fit) (hn : (namesR f).length ≤ 500000) : cl Try.prog an prm 79 [.agg f.e] stk = some (chk3 (chkP f), stk) := by
  rw [cl_eq rfl Try.func79 rfl _ _ (by simp [Try.f79])]
  have hh := fun stk => e_rhead f stk hf
  have hlo := fun stk => e_rlocs f stk hf hn
  simp only [File.e] at hh hlo
  cases hH : decide (headE f = 0) with
  | false =>
    simp +contextual (maxSteps := 10000000) only [go_sem, ↓reduceIte, Nat.reduceLT, Nat.reduceEqDiff, Nat.reduceAdd, Nat.reduceSub, Nat.reduceMul, Nat.reduceLeDiff, Nat.reduceBEq, reduceCtorEq, Int.reduceAdd, Int.reduceSub, Int.reduceMul, Int.reduceLT, Int.reduceLE, Int.reduceToNat, Int.reduceNeg, Int.reduceEq, Int.reduceNe, UInt8.reduceOfNat, true_and, File.e, hh, hH]
    simp at hH
    simp [chkP, hH, chk3]
  | true =>
  have hH' : headE f = 0 := by simpa using hH
  simp +contextual (maxSteps := 10000000) only [go_sem, ↓reduceIte, Nat.reduceLT, Nat.reduceEqDiff, Nat.reduceAdd, Nat.reduceSub, Nat.reduceMul, Nat.reduceLeDiff, Nat.reduceBEq, reduceCtorEq, Int.reduceAdd, Int.reduceSub, Int.reduceMul, Int.reduceLT, Int.reduceLE, Int.reduceToNat, Int.reduceNeg, Int.reduceEq, Int.reduceNe, UInt8.reduceOfNat, true_and, File.e, hh, hH]
  generalize hE : ev _ _ _ _ (.loop _) _ = E
  revert E
  refine ev_phil f.threads thr (fun i (_ : Unit) => ⟨[(6, .int .i64 i), (1, .ptr 0 1 0)], [(1, .cells f.e)] :: stk⟩) (fun i _ => thrsE 0 f.threads = thrsE i (f.threads.drop i)) () hf.threads.1 ?_ (by simp) ?_ ?_
  · simp +contextual (maxSteps := 10000000) only [go_sem, ↓reduceIte, Nat.reduceLT, Nat.reduceEqDiff, Nat.reduceAdd, Nat.reduceSub, Nat.reduceMul, Nat.reduceLeDiff, Nat.reduceBEq, reduceCtorEq, Int.reduceAdd, Int.reduceSub, Int.reduceMul, Int.reduceLT, Int.reduceLE, Int.reduceToNat, Int.reduceNeg, Int.reduceEq, Int.reduceNe, UInt8.reduceOfNat, true_and, File.e]
    rfl
  · intro i t _ hi hx hm hlt h0 hw hI
    have hft := hf.threads.2 t (List.mem_iff_getElem?.2 ⟨i, hx⟩)
    rw [thrsE_step hx] at hI
    simp +contextual (maxSteps := 10000000) only [go_sem, ↓reduceIte, Nat.reduceLT, Nat.reduceEqDiff, Nat.reduceAdd, Nat.reduceSub, Nat.reduceMul, Nat.reduceLeDiff, Nat.reduceBEq, reduceCtorEq, Int.reduceAdd, Int.reduceSub, Int.reduceMul, Int.reduceLT, Int.reduceLE, Int.reduceToNat, Int.reduceNeg, Int.reduceEq, Int.reduceNe, UInt8.reduceOfNat, true_and, File.e, thr, hm, hlt, h0, hw]
    generalize hE : ev _ _ _ _ (.loop _) _ = E
    revert E
    refine ev_phil t Line.e (fun k (_ : Unit) => ⟨[(7, .int .i64 k), (6, .int .i64 i), (1, .ptr 0 1 0)], [(1, .cells f.e)] :: stk⟩) (fun k _ => linesE [] t = linesE (t.take k) (t.drop k)) () hft.1 ?_ (by simp) ?_ ?_
    · simp +contextual (maxSteps := 10000000) only [go_sem, ↓reduceIte, Nat.reduceLT, Nat.reduceEqDiff, Nat.reduceAdd, Nat.reduceSub, Nat.reduceMul, Nat.reduceLeDiff, Nat.reduceBEq, reduceCtorEq, Int.reduceAdd, Int.reduceSub, Int.reduceMul, Int.reduceLT, Int.reduceLE, Int.reduceToNat, Int.reduceNeg, Int.reduceEq, Int.reduceNe, UInt8.reduceOfNat, true_and, File.e]
      rfl
    · intro k c _ hk hkx hkm hklt hk0 hkw hkI
      have hl := fun stk => e_rline t k c stk hft.1 hkx (hft.2 c (List.mem_iff_getElem?.2 ⟨k, hkx⟩))
      rw [linesE_step hkx] at hkI
      cases hE : decide (lineE (t.take k) c (t.drop (k + 1)) = 0) with
      | true =>
        simp +contextual (maxSteps := 10000000) only [go_sem, ↓reduceIte, Nat.reduceLT, Nat.reduceEqDiff, Nat.reduceAdd, Nat.reduceSub, Nat.reduceMul, Nat.reduceLeDiff, Nat.reduceBEq, reduceCtorEq, Int.reduceAdd, Int.reduceSub, Int.reduceMul, Int.reduceLT, Int.reduceLE, Int.reduceToNat, Int.reduceNeg, Int.reduceEq, Int.reduceNe, UInt8.reduceOfNat, true_and, File.e, thr, hm, h0, hkm, hklt, hk0, hkw, hl, hE]
        simp at hE
        simp [hE] at hkI
        exact ⟨(), hkI⟩
      | false =>
        simp +contextual (maxSteps := 10000000) only [go_sem, ↓reduceIte, Nat.reduceLT, Nat.reduceEqDiff, Nat.reduceAdd, Nat.reduceSub, Nat.reduceMul, Nat.reduceLeDiff, Nat.reduceBEq, reduceCtorEq, Int.reduceAdd, Int.reduceSub, Int.reduceMul, Int.reduceLT, Int.reduceLE, Int.reduceToNat, Int.reduceNeg, Int.reduceEq, Int.reduceNe, UInt8.reduceOfNat, true_and, File.e, thr, hm, h0, hkm, hklt, hk0, hkw, hl, hE]
        simp at hE
        simp [hE] at hkI
        rw [hkI] at hI
        simp [chkP, hH', hI, chk3]
    · intro _ hkI
      simp [linesE] at hkI
      simp +contextual (maxSteps := 10000000) only [go_sem, ↓reduceIte, Nat.reduceLT, Nat.reduceEqDiff, Nat.reduceAdd, Nat.reduceSub, Nat.reduceMul, Nat.reduceLeDiff, Nat.reduceBEq, reduceCtorEq, Int.reduceAdd, Int.reduceSub, Int.reduceMul, Int.reduceLT, Int.reduceLE, Int.reduceToNat, Int.reduceNeg, Int.reduceEq, Int.reduceNe, UInt8.reduceOfNat, true_and, File.e, thr, hm, h0, hw, Int.lt_irrefl]
      rw [hkI] at hI
      exact ⟨(), hI⟩
  intro _ hI1
  rw [List.drop_length] at hI1
  simp only [thrsE] at hI1
  simp +contextual (maxSteps := 10000000) only [go_sem, ↓reduceIte, Nat.reduceLT, Nat.reduceEqDiff, Nat.reduceAdd, Nat.reduceSub, Nat.reduceMul, Nat.reduceLeDiff, Nat.reduceBEq, reduceCtorEq, Int.reduceAdd, Int.reduceSub, Int.reduceMul, Int.reduceLT, Int.reduceLE, Int.reduceToNat, Int.reduceNeg, Int.reduceEq, Int.reduceNe, UInt8.reduceOfNat, true_and, File.e, Int.lt_irrefl]
  generalize hE : ev _ _ _ _ (.loop _) _ = E
  revert E
  refine ev_phil f.cond Atom.e (fun i (_ : Unit) => ⟨[(9, .int .i64 i), (1, .ptr 0 1 0)], [(1, .cells f.e)] :: stk⟩) (fun i _ => atomsE f.threads.length 0 f.cond = atomsE f.threads.length i (f.cond.drop i)) () hf.cond.1 ?_ (by simp) ?_ ?_
  · simp +contextual (maxSteps := 10000000) only [go_sem, ↓reduceIte, Nat.reduceLT, Nat.reduceEqDiff, Nat.reduceAdd, Nat.reduceSub, Nat.reduceMul, Nat.reduceLeDiff, Nat.reduceBEq, reduceCtorEq, Int.reduceAdd, Int.reduceSub, Int.reduceMul, Int.reduceLT, Int.reduceLE, Int.reduceToNat, Int.reduceNeg, Int.reduceEq, Int.reduceNe, UInt8.reduceOfNat, true_and, File.e]
    rfl
  · intro i a _ hi hx hm hlt h0 hw hI
    rw [atomsE_step hx] at hI
    have ha := fun stk => e_rasked a stk (hf.cond.2 a (List.mem_iff_getElem?.2 ⟨i, hx⟩)).name
    simp only [Atom.e] at ha
    cases h6 : decide ((6 : Int) ≤ (i : Int)) with
    | true =>
      simp +contextual (maxSteps := 10000000) only [go_sem, ↓reduceIte, Nat.reduceLT, Nat.reduceEqDiff, Nat.reduceAdd, Nat.reduceSub, Nat.reduceMul, Nat.reduceLeDiff, Nat.reduceBEq, reduceCtorEq, Int.reduceAdd, Int.reduceSub, Int.reduceMul, Int.reduceLT, Int.reduceLE, Int.reduceToNat, Int.reduceNeg, Int.reduceEq, Int.reduceNe, UInt8.reduceOfNat, true_and, File.e, Atom.e, hm, hlt, h0, hw, h6]
      have h6' : 6 ≤ i := by simp at h6; omega
      simp [atomE, h6'] at hI
      simp [chkP, hH', hI1, hI, chk3]
    | false =>
    have h6' : ¬ 6 ≤ i := by simp at h6; omega
    cases hA : askB a with
    | false =>
      simp +contextual (maxSteps := 10000000) only [go_sem, ↓reduceIte, Nat.reduceLT, Nat.reduceEqDiff, Nat.reduceAdd, Nat.reduceSub, Nat.reduceMul, Nat.reduceLeDiff, Nat.reduceBEq, reduceCtorEq, Int.reduceAdd, Int.reduceSub, Int.reduceMul, Int.reduceLT, Int.reduceLE, Int.reduceToNat, Int.reduceNeg, Int.reduceEq, Int.reduceNe, UInt8.reduceOfNat, true_and, File.e, Atom.e, hm, hlt, h0, hw, h6, ha, hA]
      simp [atomE, h6', hA] at hI
      simp [chkP, hH', hI1, hI, chk3]
    | true =>
    cases hT : decide ((f.threads.length : Int) ≤ a.thread) with
    | true =>
      simp +contextual (maxSteps := 10000000) only [go_sem, ↓reduceIte, Nat.reduceLT, Nat.reduceEqDiff, Nat.reduceAdd, Nat.reduceSub, Nat.reduceMul, Nat.reduceLeDiff, Nat.reduceBEq, reduceCtorEq, Int.reduceAdd, Int.reduceSub, Int.reduceMul, Int.reduceLT, Int.reduceLE, Int.reduceToNat, Int.reduceNeg, Int.reduceEq, Int.reduceNe, UInt8.reduceOfNat, true_and, File.e, Atom.e, hm, hlt, h0, hw, h6, ha, hA, hT]
      simp at hT
      simp [atomE, h6', hA, hT] at hI
      simp [chkP, hH', hI1, hI, chk3]
    | false =>
      simp +contextual (maxSteps := 10000000) only [go_sem, ↓reduceIte, Nat.reduceLT, Nat.reduceEqDiff, Nat.reduceAdd, Nat.reduceSub, Nat.reduceMul, Nat.reduceLeDiff, Nat.reduceBEq, reduceCtorEq, Int.reduceAdd, Int.reduceSub, Int.reduceMul, Int.reduceLT, Int.reduceLE, Int.reduceToNat, Int.reduceNeg, Int.reduceEq, Int.reduceNe, UInt8.reduceOfNat, true_and, File.e, Atom.e, hm, hlt, h0, hw, h6, ha, hA, hT]
      simp at hT
      rw [show atomE f.threads.length i a = 0 from by simp [atomE, h6', hA]; omega] at hI
      simp at hI
      exact ⟨(), hI⟩
  intro _ hI2
  rw [List.drop_length] at hI2
  simp only [atomsE] at hI2
  cases hL : decide ((4 : Int) < ((locsR f).length : Int)) with
  | true =>
    simp +contextual (maxSteps := 10000000) only [go_sem, ↓reduceIte, Nat.reduceLT, Nat.reduceEqDiff, Nat.reduceAdd, Nat.reduceSub, Nat.reduceMul, Nat.reduceLeDiff, Nat.reduceBEq, reduceCtorEq, Int.reduceAdd, Int.reduceSub, Int.reduceMul, Int.reduceLT, Int.reduceLE, Int.reduceToNat, Int.reduceNeg, Int.reduceEq, Int.reduceNe, UInt8.reduceOfNat, true_and, File.e, Int.lt_irrefl, hlo, strs, hL]
    have : 4 < (locsR f).length := by simp at hL; omega
    simp [chkP, hH', hI1, hI2, chk3, this]
  | false =>
    simp +contextual (maxSteps := 10000000) only [go_sem, ↓reduceIte, Nat.reduceLT, Nat.reduceEqDiff, Nat.reduceAdd, Nat.reduceSub, Nat.reduceMul, Nat.reduceLeDiff, Nat.reduceBEq, reduceCtorEq, Int.reduceAdd, Int.reduceSub, Int.reduceMul, Int.reduceLT, Int.reduceLE, Int.reduceToNat, Int.reduceNeg, Int.reduceEq, Int.reduceNe, UInt8.reduceOfNat, true_and, File.e, Int.lt_irrefl, hlo, strs, hL]
    have : ¬ 4 < (locsR f).length := by simp at hL; omega
    simp [chkP, hH', hI1, hI2, chk3, this]

set_option maxHeartbeats 2000000 in
set_option maxRecDepth 10000 in
theorem e_rfright (f : File) (stk : Stk) (hf : f.Fit) (hn : (namesR f).length ≤ 500000) : cl Try.prog an prm 34 [.agg f.e] stk = some (.bool (rightB f), stk) := by
  rw [cl_eq rfl Try.func34 rfl _ _ (by simp [Try.f34])]
  have hc := fun stk => e_rcheck f stk hf hn
  simp only [File.e, chk3] at hc
  simp +contextual (maxSteps := 10000000) only [go_sem, ↓reduceIte, Nat.reduceLT, Nat.reduceEqDiff, Nat.reduceAdd, Nat.reduceSub, Nat.reduceMul, Nat.reduceLeDiff, Nat.reduceBEq, reduceCtorEq, Int.reduceAdd, Int.reduceSub, Int.reduceMul, Int.reduceLT, Int.reduceLE, Int.reduceToNat, Int.reduceNeg, Int.reduceEq, Int.reduceNe, UInt8.reduceOfNat, true_and, File.e, hc]
  rfl
set_option maxHeartbeats 2000000 in
set_option maxRecDepth 10000 in
theorem e_rflocs (f : File) (stk : Stk) (hf : f.Fit) (hn : (namesR f).length ≤ 500000) : cl Try.prog an prm 32 [.agg f.e] stk = some (strs (locsB f), stk) := by
  rw [cl_eq rfl Try.func32 rfl _ _ (by simp [Try.f32])]
  have hc := fun stk => e_rfright f stk hf hn
  have hlo := fun stk => e_rlocs f stk hf hn
  simp only [File.e] at hc hlo
  cases hR : rightB f with
  | true =>
    simp +contextual (maxSteps := 10000000) only [go_sem, ↓reduceIte, Nat.reduceLT, Nat.reduceEqDiff, Nat.reduceAdd, Nat.reduceSub, Nat.reduceMul, Nat.reduceLeDiff, Nat.reduceBEq, reduceCtorEq, Int.reduceAdd, Int.reduceSub, Int.reduceMul, Int.reduceLT, Int.reduceLE, Int.reduceToNat, Int.reduceNeg, Int.reduceEq, Int.reduceNe, UInt8.reduceOfNat, true_and, File.e, hc, hlo, hR, strs]
    simp [locsB, hR]
  | false =>
    simp +contextual (maxSteps := 10000000) only [go_sem, ↓reduceIte, Nat.reduceLT, Nat.reduceEqDiff, Nat.reduceAdd, Nat.reduceSub, Nat.reduceMul, Nat.reduceLeDiff, Nat.reduceBEq, reduceCtorEq, Int.reduceAdd, Int.reduceSub, Int.reduceMul, Int.reduceLT, Int.reduceLE, Int.reduceToNat, Int.reduceNeg, Int.reduceEq, Int.reduceNe, UInt8.reduceOfNat, true_and, File.e, hc, hlo, hR]
    simp [locsB, hR, strs]
end Go.Proofs.Ytcecleclipcheaa

set_option linter.unusedVariables false
set_option linter.unusedSimpArgs false
namespace Go.Proofs.Ytcecleclipcheaa
open Go Go.Shade Go.Fence
attribute [local congr] ite_congr

def errV (t i e : Int) : V := .ifc 199 (.agg [.int .i64 t, .int .i64 i, .int .i64 e])

set_option maxHeartbeats 2000000 in
set_option maxRecDepth 10000 in
theorem e_head1 (e : Int) (stk : Stk) : cl Try.prog an prm 170 [.int .i64 e] stk = some (.ifc 199 (.agg [.int .i64 (-1), .int .i64 (-1), .int .i64 e]), stk) := by
  rw [cl_eq rfl Try.func170 rfl _ _ (by simp [Try.f170])]
  simp +contextual (maxSteps := 10000000) only [go_sem, ↓reduceIte, Nat.reduceLT, Nat.reduceEqDiff, Nat.reduceAdd, Nat.reduceSub, Nat.reduceMul, Nat.reduceLeDiff, Nat.reduceBEq, reduceCtorEq, Int.reduceAdd, Int.reduceSub, Int.reduceMul, Int.reduceLT, Int.reduceLE, Int.reduceToNat, Int.reduceNeg, Int.reduceEq, Int.reduceNe, UInt8.reduceOfNat, true_and]

set_option maxHeartbeats 2000000 in
set_option maxRecDepth 10000 in
theorem e_head (f : File) (stk : Stk) (hf : f.Fit) : cl Try.prog an prm 151 [.agg f.e] stk = some (if headE f = 0 then .nili else errV (-1) (-1) (headE f), stk) := by
  rw [cl_eq rfl Try.func151 rfl _ _ (by simp [Try.f151])]
  cases hN : nameB f.name with
  | false =>
    simp +contextual (maxSteps := 10000000) only [go_sem, ↓reduceIte, Nat.reduceLT, Nat.reduceEqDiff, Nat.reduceAdd, Nat.reduceSub, Nat.reduceMul, Nat.reduceLeDiff, Nat.reduceBEq, reduceCtorEq, Int.reduceAdd, Int.reduceSub, Int.reduceMul, Int.reduceLT, Int.reduceLE, Int.reduceToNat, Int.reduceNeg, Int.reduceEq, Int.reduceNe, UInt8.reduceOfNat, true_and, File.e, e_name, hN, e_head1]
    simp [headE, hN, errV]
  | true =>
  simp +contextual (maxSteps := 10000000) only [go_sem, ↓reduceIte, Nat.reduceLT, Nat.reduceEqDiff, Nat.reduceAdd, Nat.reduceSub, Nat.reduceMul, Nat.reduceLeDiff, Nat.reduceBEq, reduceCtorEq, Int.reduceAdd, Int.reduceSub, Int.reduceMul, Int.reduceLT, Int.reduceLE, Int.reduceToNat, Int.reduceNeg, Int.reduceEq, Int.reduceNe, UInt8.reduceOfNat, true_and, File.e, e_name, hN]
  generalize hE : ev _ _ _ _ (.loop _) _ = E
  revert E
  refine ev_phil f.init Cell.e (fun i (_ : Unit) => ⟨[(16, .int .i64 i), (15, .int .i64 f.init.length), (14, .sl 2 (f.init.map Cell.e)), (4, .str ((prevC f.init i).getD t0)), (3, .fn 170 [] []), (1, .ptr 0 1 0)], [(1, .cells f.e)] :: stk⟩) (fun i _ => cellsE none f.init = cellsE (prevC f.init i) (f.init.drop i)) () hf.init.1 ?_ (by simp [prevC_zero]) ?_ ?_
  · simp +contextual (maxSteps := 10000000) only [go_sem, ↓reduceIte, Nat.reduceLT, Nat.reduceEqDiff, Nat.reduceAdd, Nat.reduceSub, Nat.reduceMul, Nat.reduceLeDiff, Nat.reduceBEq, reduceCtorEq, Int.reduceAdd, Int.reduceSub, Int.reduceMul, Int.reduceLT, Int.reduceLE, Int.reduceToNat, Int.reduceNeg, Int.reduceEq, Int.reduceNe, UInt8.reduceOfNat, true_and, File.e, prevC_zero]
    rfl
  · intro i c _ hi hx hm hlt h0 hw hI
    rw [cellsE_step hx] at hI
    cases hB : nameB c.loc with
    | false =>
      simp +contextual (maxSteps := 10000000) only [go_sem, ↓reduceIte, Nat.reduceLT, Nat.reduceEqDiff, Nat.reduceAdd, Nat.reduceSub, Nat.reduceMul, Nat.reduceLeDiff, Nat.reduceBEq, reduceCtorEq, Int.reduceAdd, Int.reduceSub, Int.reduceMul, Int.reduceLT, Int.reduceLE, Int.reduceToNat, Int.reduceNeg, Int.reduceEq, Int.reduceNe, UInt8.reduceOfNat, true_and, File.e, Cell.e, hm, hlt, h0, hw, e_name, hB, e_head1]
      rw [hB] at hI
      simp [headE, hN, hI, errV]
    | true =>
    rw [hB, prevC_lt hB] at hI
    cases hl : strLt ((prevC f.init i).getD t0) c.loc with
    | true =>
      simp +contextual (maxSteps := 10000000) only [go_sem, ↓reduceIte, Nat.reduceLT, Nat.reduceEqDiff, Nat.reduceAdd, Nat.reduceSub, Nat.reduceMul, Nat.reduceLeDiff, Nat.reduceBEq, reduceCtorEq, Int.reduceAdd, Int.reduceSub, Int.reduceMul, Int.reduceLT, Int.reduceLE, Int.reduceToNat, Int.reduceNeg, Int.reduceEq, Int.reduceNe, UInt8.reduceOfNat, true_and, File.e, Cell.e, hm, hlt, h0, hw, e_name, hB, le_not, hl, prevC_succ hx]
      exact ⟨(), by simpa [hl] using hI⟩
    | false =>
      simp +contextual (maxSteps := 10000000) only [go_sem, ↓reduceIte, Nat.reduceLT, Nat.reduceEqDiff, Nat.reduceAdd, Nat.reduceSub, Nat.reduceMul, Nat.reduceLeDiff, Nat.reduceBEq, reduceCtorEq, Int.reduceAdd, Int.reduceSub, Int.reduceMul, Int.reduceLT, Int.reduceLE, Int.reduceToNat, Int.reduceNeg, Int.reduceEq, Int.reduceNe, UInt8.reduceOfNat, true_and, File.e, Cell.e, hm, hlt, h0, hw, e_name, hB, le_not, hl, e_head1]
      simp [hl] at hI
      simp [headE, hN, hI, errV]
  · intro _ hI
    simp [cellsE] at hI
    cases h1 : decide ((f.threads.length : Int) < 1) with
    | true =>
      simp +contextual (maxSteps := 10000000) only [go_sem, ↓reduceIte, Nat.reduceLT, Nat.reduceEqDiff, Nat.reduceAdd, Nat.reduceSub, Nat.reduceMul, Nat.reduceLeDiff, Nat.reduceBEq, reduceCtorEq, Int.reduceAdd, Int.reduceSub, Int.reduceMul, Int.reduceLT, Int.reduceLE, Int.reduceToNat, Int.reduceNeg, Int.reduceEq, Int.reduceNe, UInt8.reduceOfNat, true_and, File.e, Int.lt_irrefl, h1, e_head1]
      have h1' : f.threads.length < 1 := by simp at h1; omega
      simp [headE, hN, hI, h1', errV]
    | false =>
    cases h2 : decide ((3 : Int) < (f.threads.length : Int)) with
    | true =>
      simp +contextual (maxSteps := 10000000) only [go_sem, ↓reduceIte, Nat.reduceLT, Nat.reduceEqDiff, Nat.reduceAdd, Nat.reduceSub, Nat.reduceMul, Nat.reduceLeDiff, Nat.reduceBEq, reduceCtorEq, Int.reduceAdd, Int.reduceSub, Int.reduceMul, Int.reduceLT, Int.reduceLE, Int.reduceToNat, Int.reduceNeg, Int.reduceEq, Int.reduceNe, UInt8.reduceOfNat, true_and, File.e, Int.lt_irrefl, h1, h2, e_head1]
      have h2' : 3 < f.threads.length := by simp at h2; omega
      simp [headE, hN, hI, h2', errV]
    | false =>
      simp +contextual (maxSteps := 10000000) only [go_sem, ↓reduceIte, Nat.reduceLT, Nat.reduceEqDiff, Nat.reduceAdd, Nat.reduceSub, Nat.reduceMul, Nat.reduceLeDiff, Nat.reduceBEq, reduceCtorEq, Int.reduceAdd, Int.reduceSub, Int.reduceMul, Int.reduceLT, Int.reduceLE, Int.reduceToNat, Int.reduceNeg, Int.reduceEq, Int.reduceNe, UInt8.reduceOfNat, true_and, File.e, Int.lt_irrefl, h1, h2, e_head1]
      have h1' : ¬ f.threads.length < 1 := by simp at h1; omega
      have h2' : ¬ 3 < f.threads.length := by simp at h2; omega
      rw [if_pos (by simp only [headE, hN, hI, h1', h2', or_self, if_false, Bool.true_eq_false, ne_eq, not_true_eq_false])]

set_option maxHeartbeats 2000000 in
set_option maxRecDepth 10000 in
theorem e_kind (o n : Int) (r c b : ByteArray) (stk : Stk) : cl Try.prog an prm 171 [.agg [.int .i64 o, .str r, .str c, .str b, .int .i64 n]] stk = some (.int .i64 (if decide (o = 6) = true then 0 else if decide (o = 11) = true then 1 else 2), stk) := by
  rw [cl_eq rfl Try.func171 rfl _ _ (by simp [Try.f171])]
  simp +contextual (maxSteps := 10000000) only [go_sem, ↓reduceIte, Nat.reduceLT, Nat.reduceEqDiff, Nat.reduceAdd, Nat.reduceSub, Nat.reduceMul, Nat.reduceLeDiff, Nat.reduceBEq, reduceCtorEq, Int.reduceAdd, Int.reduceSub, Int.reduceMul, Int.reduceLT, Int.reduceLE, Int.reduceToNat, Int.reduceNeg, Int.reduceEq, Int.reduceNe, UInt8.reduceOfNat, true_and]

set_option maxHeartbeats 2000000 in
set_option maxRecDepth 10000 in
theorem e_vasked (f : File) (stk : Stk) (hf : f.Fit) : cl Try.prog an prm 153 [.agg f.e] stk = some (match atomsE f.threads.length 0 f.cond with | some (i, e) => errV f.threads.length i e | none => .nili, stk) := by
  rw [cl_eq rfl Try.func153 rfl _ _ (by simp [Try.f153])]
  simp +contextual (maxSteps := 10000000) only [go_sem, ↓reduceIte, Nat.reduceLT, Nat.reduceEqDiff, Nat.reduceAdd, Nat.reduceSub, Nat.reduceMul, Nat.reduceLeDiff, Nat.reduceBEq, reduceCtorEq, Int.reduceAdd, Int.reduceSub, Int.reduceMul, Int.reduceLT, Int.reduceLE, Int.reduceToNat, Int.reduceNeg, Int.reduceEq, Int.reduceNe, UInt8.reduceOfNat, true_and, File.e]
  generalize hE : ev _ _ _ _ (.loop _) _ = E
  revert E
  refine ev_phil f.cond Atom.e (fun i (_ : Unit) => ⟨[(9, .int .i64 i), (8, .int .i64 f.cond.length), (7, .sl 3 (f.cond.map Atom.e)), (1, .ptr 0 1 0)], [(1, .cells f.e)] :: stk⟩) (fun i _ => atomsE f.threads.length 0 f.cond = atomsE f.threads.length i (f.cond.drop i)) () hf.cond.1 ?_ (by simp) ?_ ?_
  · simp +contextual (maxSteps := 10000000) only [go_sem, ↓reduceIte, Nat.reduceLT, Nat.reduceEqDiff, Nat.reduceAdd, Nat.reduceSub, Nat.reduceMul, Nat.reduceLeDiff, Nat.reduceBEq, reduceCtorEq, Int.reduceAdd, Int.reduceSub, Int.reduceMul, Int.reduceLT, Int.reduceLE, Int.reduceToNat, Int.reduceNeg, Int.reduceEq, Int.reduceNe, UInt8.reduceOfNat, true_and, File.e]
    rfl
  · intro i a _ hi hx hm hlt h0 hw hI
    rw [atomsE_step hx] at hI
    have ha := fun stk => e_asked a stk
    simp only [Atom.e] at ha
    cases h6 : decide ((6 : Int) ≤ (i : Int)) with
    | true =>
      simp +contextual (maxSteps := 10000000) only [go_sem, ↓reduceIte, Nat.reduceLT, Nat.reduceEqDiff, Nat.reduceAdd, Nat.reduceSub, Nat.reduceMul, Nat.reduceLeDiff, Nat.reduceBEq, reduceCtorEq, Int.reduceAdd, Int.reduceSub, Int.reduceMul, Int.reduceLT, Int.reduceLE, Int.reduceToNat, Int.reduceNeg, Int.reduceEq, Int.reduceNe, UInt8.reduceOfNat, true_and, File.e, Atom.e, hm, hlt, h0, hw, h6]
      have h6' : 6 ≤ i := by simp at h6; omega
      simp [atomE, h6'] at hI
      simp [hI, errV]
    | false =>
    have h6' : ¬ 6 ≤ i := by simp at h6; omega
    cases hA : askB a with
    | false =>
      simp +contextual (maxSteps := 10000000) only [go_sem, ↓reduceIte, Nat.reduceLT, Nat.reduceEqDiff, Nat.reduceAdd, Nat.reduceSub, Nat.reduceMul, Nat.reduceLeDiff, Nat.reduceBEq, reduceCtorEq, Int.reduceAdd, Int.reduceSub, Int.reduceMul, Int.reduceLT, Int.reduceLE, Int.reduceToNat, Int.reduceNeg, Int.reduceEq, Int.reduceNe, UInt8.reduceOfNat, true_and, File.e, Atom.e, hm, hlt, h0, hw, h6, ha, hA]
      simp [atomE, h6', hA] at hI
      simp [hI, errV]
    | true =>
    cases hT : decide ((f.threads.length : Int) ≤ a.thread) with
    | true =>
      simp +contextual (maxSteps := 10000000) only [go_sem, ↓reduceIte, Nat.reduceLT, Nat.reduceEqDiff, Nat.reduceAdd, Nat.reduceSub, Nat.reduceMul, Nat.reduceLeDiff, Nat.reduceBEq, reduceCtorEq, Int.reduceAdd, Int.reduceSub, Int.reduceMul, Int.reduceLT, Int.reduceLE, Int.reduceToNat, Int.reduceNeg, Int.reduceEq, Int.reduceNe, UInt8.reduceOfNat, true_and, File.e, Atom.e, hm, hlt, h0, hw, h6, ha, hA, hT]
      simp at hT
      simp [atomE, h6', hA, hT] at hI
      simp [hI, errV]
    | false =>
      simp +contextual (maxSteps := 10000000) only [go_sem, ↓reduceIte, Nat.reduceLT, Nat.reduceEqDiff, Nat.reduceAdd, Nat.reduceSub, Nat.reduceMul, Nat.reduceLeDiff, Nat.reduceBEq, reduceCtorEq, Int.reduceAdd, Int.reduceSub, Int.reduceMul, Int.reduceLT, Int.reduceLE, Int.reduceToNat, Int.reduceNeg, Int.reduceEq, Int.reduceNe, UInt8.reduceOfNat, true_and, File.e, Atom.e, hm, hlt, h0, hw, h6, ha, hA, hT]
      simp at hT
      rw [show atomE f.threads.length i a = 0 from by simp [atomE, h6', hA]; omega] at hI
      simp at hI
      exact ⟨(), hI⟩
  intro _ hI2
  rw [List.drop_length] at hI2
  simp only [atomsE] at hI2
  simp +contextual (maxSteps := 10000000) only [go_sem, ↓reduceIte, Nat.reduceLT, Nat.reduceEqDiff, Nat.reduceAdd, Nat.reduceSub, Nat.reduceMul, Nat.reduceLeDiff, Nat.reduceBEq, reduceCtorEq, Int.reduceAdd, Int.reduceSub, Int.reduceMul, Int.reduceLT, Int.reduceLE, Int.reduceToNat, Int.reduceNeg, Int.reduceEq, Int.reduceNe, UInt8.reduceOfNat, true_and, File.e, Int.lt_irrefl]
  rw [hI2]
end Go.Proofs.Ytcecleclipcheaa

set_option linter.unusedVariables false
set_option linter.unusedSimpArgs false
namespace Go.Proofs.Ytcecleclipcheaa
open Go Go.Shade Go.Fence
attribute [local congr] ite_congr

structure TSt where
  left : List (ByteArray × V)
  seen : List (ByteArray × V)
  fence : Bool
  m0 : Nat
  m1 : Nat
  m2 : Nat


set_option maxHeartbeats 4000000 in
set_option maxRecDepth 10000 in
theorem e_thread (t : Int) (ls : List Line) (stk : Stk) (hf : linesFit ls) : cl Try.prog an prm 152 [.int .i64 t, .sl 5 (ls.map Line.e)] stk = some (match linesE [] ls with | some (i, e) => errV t i e | none => .nili, stk) := by
  rw [cl_eq rfl Try.func152 rfl _ _ (by simp [Try.f152])]
  simp +contextual (maxSteps := 10000000) only [go_sem, ↓reduceIte, Nat.reduceLT, Nat.reduceEqDiff, Nat.reduceAdd, Nat.reduceSub, Nat.reduceMul, Nat.reduceLeDiff, Nat.reduceBEq, reduceCtorEq, Int.reduceAdd, Int.reduceSub, Int.reduceMul, Int.reduceLT, Int.reduceLE, Int.reduceToNat, Int.reduceNeg, Int.reduceEq, Int.reduceNe, UInt8.reduceOfNat, true_and]
  generalize hE : ev _ _ _ _ (.loop _) _ = E
  revert E
  refine ev_phil ls Line.e (fun i (es : List (ByteArray × V)) => ⟨[(24, .int .i64 i), (23, .int .i64 ls.length), (22, .sl 5 (ls.map Line.e)), (21, .mp 0 21), (20, .mp 0 20), (8, .mp 0 21), (7, .mp 0 20), (6, .ptr 0 6 0), (5, .ptr 0 5 0), (1, .sl 5 (ls.map Line.e)), (0, .int .i64 t)],
    [(21, .smap []), (20, .smap es), (6, .cells [.int .i64 0, .int .i64 0, .int .i64 0]), (5, .cells [.int .i64 ls.length, .int .i64 8, .int .i64 8])] :: stk⟩) (fun i es => OKm es fun s => labs (ls.take i) s) [] hf.1 ?_ (by simpa [labs] using OKm.nil) ?_ ?_
  · simp +contextual (maxSteps := 10000000) only [go_sem, ↓reduceIte, Nat.reduceLT, Nat.reduceEqDiff, Nat.reduceAdd, Nat.reduceSub, Nat.reduceMul, Nat.reduceLeDiff, Nat.reduceBEq, reduceCtorEq, Int.reduceAdd, Int.reduceSub, Int.reduceMul, Int.reduceLT, Int.reduceLE, Int.reduceToNat, Int.reduceNeg, Int.reduceEq, Int.reduceNe, UInt8.reduceOfNat, true_and]
    rfl
  · intro i x es hi hx hm hlt h0 hw hI
    cases c11 : decide (x.op = 11) with
    | false =>
      cases c6 : decide (x.op = 6) <;>
      · simp +contextual (maxSteps := 10000000) only [go_sem, ↓reduceIte, Nat.reduceLT, Nat.reduceEqDiff, Nat.reduceAdd, Nat.reduceSub, Nat.reduceMul, Nat.reduceLeDiff, Nat.reduceBEq, reduceCtorEq, Int.reduceAdd, Int.reduceSub, Int.reduceMul, Int.reduceLT, Int.reduceLE, Int.reduceToNat, Int.reduceNeg, Int.reduceEq, Int.reduceNe, UInt8.reduceOfNat, true_and, Line.e, hm, hlt, h0, hw, e_kind, c6, c11, hI.1]
        refine ⟨_, rfl, hI.congr fun s => ?_⟩
        rw [labs_take ls s i x hx]
        simp [labB, c11]
    | true =>
      have c6 : decide (x.op = 6) = false := by simp at c11 ⊢; omega
      have hb := labs_le (ls.take i) x.label
      have hb2 := List.length_take_le i ls
      have hww : IntKind.i64.wrap ((labs (ls.take i) x.label : Int) + 1) = (labs (ls.take i) x.label : Int) + 1 := by have := hf.1; unfold maxLen at this; rw [wrap_i64 (by omega) (by omega)]
      have hpp := mput_pure x.label ((labs (ls.take i) x.label : Int) + 1) es hI.1
      simp +contextual (maxSteps := 10000000) only [go_sem, ↓reduceIte, Nat.reduceLT, Nat.reduceEqDiff, Nat.reduceAdd, Nat.reduceSub, Nat.reduceMul, Nat.reduceLeDiff, Nat.reduceBEq, reduceCtorEq, Int.reduceAdd, Int.reduceSub, Int.reduceMul, Int.reduceLT, Int.reduceLE, Int.reduceToNat, Int.reduceNeg, Int.reduceEq, Int.reduceNe, UInt8.reduceOfNat, true_and, Line.e, hm, hlt, h0, hw, e_kind, c6, c11, hI.1, hI.2, mpTy_88, hww, hpp, V.atom]
      refine ⟨_, rfl, (hI.put _ _).congr fun s => ?_⟩
      rw [labs_take ls s i x hx]
      by_cases hs : s = x.label
      · subst hs; simp [labB, c11]
      · simp [labB, c11, hs, Ne.symm hs]
  intro es hI
  rw [List.take_length] at hI
  simp +contextual (maxSteps := 10000000) only [go_sem, ↓reduceIte, Nat.reduceLT, Nat.reduceEqDiff, Nat.reduceAdd, Nat.reduceSub, Nat.reduceMul, Nat.reduceLeDiff, Nat.reduceBEq, reduceCtorEq, Int.reduceAdd, Int.reduceSub, Int.reduceMul, Int.reduceLT, Int.reduceLE, Int.reduceToNat, Int.reduceNeg, Int.reduceEq, Int.reduceNe, UInt8.reduceOfNat, true_and, Int.lt_irrefl]
  generalize hE : ev _ _ _ _ (.loop _) _ = E
  revert E
  refine ev_phil ls Line.e (fun i (σ : TSt) => ⟨[(39, .int .i64 i), (38, .int .i64 ls.length), (37, .sl 5 (ls.map Line.e)), (21, .mp 0 21), (20, .mp 0 20), (11, .bool σ.fence), (8, .mp 0 21), (7, .mp 0 20), (6, .ptr 0 6 0), (5, .ptr 0 5 0), (0, .int .i64 t)],
    [(21, .smap σ.seen), (20, .smap σ.left), (6, .cells [.int .i64 σ.m0, .int .i64 σ.m1, .int .i64 σ.m2]), (5, .cells [.int .i64 ls.length, .int .i64 8, .int .i64 8])] :: stk⟩)
    (fun i σ => linesE [] ls = linesE (ls.take i) (ls.drop i) ∧ (OKm σ.left fun s => labs (ls.drop i) s) ∧ (OKm σ.seen fun s => labs (ls.take i) s) ∧ σ.fence = lastF ls i ∧ σ.m0 ≤ i ∧ σ.m1 = ((ls.take i).filter labB).length ∧ σ.m2 = ((ls.take i).filter instrB).length)
    ⟨es, [], false, 0, 0, 0⟩ hf.1 ?_ (by simpa [lastF, labs] using ⟨hI, OKm.nil⟩) ?_ ?_
  · simp +contextual (maxSteps := 10000000) only [go_sem, ↓reduceIte, Nat.reduceLT, Nat.reduceEqDiff, Nat.reduceAdd, Nat.reduceSub, Nat.reduceMul, Nat.reduceLeDiff, Nat.reduceBEq, reduceCtorEq, Int.reduceAdd, Int.reduceSub, Int.reduceMul, Int.reduceLT, Int.reduceLE, Int.reduceToNat, Int.reduceNeg, Int.reduceEq, Int.reduceNe, UInt8.reduceOfNat, true_and, hI.1]
    rfl
  · rintro i x ⟨left, seen, fence, m0, m1, m2⟩ hi hx hm hlt h0 hw ⟨hI1, hI2, hI3, hI4, hI5, hI6, hI7⟩
    simp only at hI2 hI3 hI4 hI5 hI6 hI7
    have er := fun o stk => x_right o x.n x.reg x.loc x.label stk
    have hb1 := labs_le (ls.take i) x.label
    have hb2 := List.length_take_le i ls
    have hb3 := labs_le (ls.drop i) x.label
    have hb4 : (ls.drop i).length ≤ ls.length := by simp
    have hlen := hf.1
    unfold maxLen at hlen
    have hws : IntKind.i64.wrap ((labs (ls.take i) x.label : Int) + 1) = (labs (ls.take i) x.label : Int) + 1 := by rw [wrap_i64 (by omega) (by omega)]
    have hwl : IntKind.i64.wrap ((labs (ls.drop i) x.label : Int) - 1) = (labs (ls.drop i) x.label : Int) - 1 := by rw [wrap_i64 (by omega) (by omega)]
    have hpl := mput_pure x.label ((labs (ls.drop i) x.label : Int) - 1) left hI2.1
    have hps := mput_pure x.label ((labs (ls.take i) x.label : Int) + 1) seen hI3.1
    have hI2' := (hI2.put x.label ((labs (ls.drop i) x.label : Int) - 1)).2
    have hm1 : m1 ≤ i := by rw [hI6]; exact Nat.le_trans (cnt_le _ _) (List.length_take_le _ _)
    have hm2 : m2 ≤ i := by rw [hI7]; exact Nat.le_trans (cnt_le _ _) (List.length_take_le _ _)
    have hw0 : IntKind.i64.wrap ((m0 : Int) + 1) = ((m0 + 1 : Nat) : Int) := by rw [wrap_i64 (by omega) (by omega)]; rfl
    have hw1 : IntKind.i64.wrap ((m1 : Int) + 1) = ((m1 + 1 : Nat) : Int) := by rw [wrap_i64 (by omega) (by omega)]; rfl
    have hw2 : IntKind.i64.wrap ((m2 : Int) + 1) = ((m2 + 1 : Nat) : Int) := by rw [wrap_i64 (by omega) (by omega)]; rfl
    have hmost : decide ((ls.length : Int) ≤ (m0 : Int)) = false := by simp; omega
    cases hB : lineB ⟨x.op, x.reg, x.loc, x.label, x.n⟩ with
    | false =>
      have hB' : lineB x = false := hB
      cases c11 : decide (x.op = 11) with
      | true =>
        have c6 : decide (x.op = 6) = false := by simp at c11 ⊢; omega
        have hj : (decide (8 ≤ x.op) && decide (x.op ≤ 10)) = false := by simp at c11 ⊢; omega
        simp +contextual (maxSteps := 10000000) only [go_sem, ↓reduceIte, Nat.reduceLT, Nat.reduceEqDiff, Nat.reduceAdd, Nat.reduceSub, Nat.reduceMul, Nat.reduceLeDiff, Nat.reduceBEq, reduceCtorEq, Int.reduceAdd, Int.reduceSub, Int.reduceMul, Int.reduceLT, Int.reduceLE, Int.reduceToNat, Int.reduceNeg, Int.reduceEq, Int.reduceNe, UInt8.reduceOfNat, true_and, Line.e, hm, hlt, h0, hw, e_kind, er, c6, c11, hj, hI2.2, hI3.2, mpTy_88, V.atom, hpl, hps, hI2.1, hI3.1, hB, hwl]
        have hE : lineE (ls.take i) x (ls.drop (i + 1)) = 11 := by
          simp only [lineE, ← lastF_iff, ← hI4, ← hI6, ← hI7]
          simp [hB']
        rw [linesE_step hx, hE] at hI1
        simp at hI1
        rw [hI1]
        rfl
      | false =>
      cases c6 : decide (x.op = 6) <;> cases hj : (decide (8 ≤ x.op) && decide (x.op ≤ 10))
      all_goals
        simp +contextual (maxSteps := 10000000) only [go_sem, ↓reduceIte, Nat.reduceLT, Nat.reduceEqDiff, Nat.reduceAdd, Nat.reduceSub, Nat.reduceMul, Nat.reduceLeDiff, Nat.reduceBEq, reduceCtorEq, Int.reduceAdd, Int.reduceSub, Int.reduceMul, Int.reduceLT, Int.reduceLE, Int.reduceToNat, Int.reduceNeg, Int.reduceEq, Int.reduceNe, UInt8.reduceOfNat, true_and, Line.e, hm, hlt, h0, hw, e_kind, er, c6, c11, hj, hI2.2, hI3.2, mpTy_88, V.atom, hpl, hps, hI2.1, hI3.1, hB]
        have hE : lineE (ls.take i) x (ls.drop (i + 1)) = 11 := by
          simp only [lineE, ← lastF_iff, ← hI4, ← hI6, ← hI7]
          simp [hB']
        rw [linesE_step hx, hE] at hI1
        simp at hI1
        rw [hI1]
        rfl
    | true =>
    have hB' : lineB x = true := hB
    cases c11 : decide (x.op = 11) with
    | true =>
      have c6 : decide (x.op = 6) = false := by simp at c11 ⊢; omega
      have hj : (decide (8 ≤ x.op) && decide (x.op ≤ 10)) = false := by simp at c11 ⊢; omega
      have eL : labB x = true := c11
      have eJ : jumpB x = false := by rw [jumpB, Bool.decide_and]; exact hj
      have eI : instrB x = false := by simp at c11; simp [instrB, c11]
      have eF : x.op ≠ 6 := by simpa using c6
      cases h21 : decide ((0 : Int) < (labs (ls.take i) x.label : Int)) with
      | true =>
        have e21 : 0 < labs (ls.take i) x.label := by simp at h21; omega
        simp +contextual (maxSteps := 10000000) only [go_sem, ↓reduceIte, Nat.reduceLT, Nat.reduceEqDiff, Nat.reduceAdd, Nat.reduceSub, Nat.reduceMul, Nat.reduceLeDiff, Nat.reduceBEq, reduceCtorEq, Int.reduceAdd, Int.reduceSub, Int.reduceMul, Int.reduceLT, Int.reduceLE, Int.reduceToNat, Int.reduceNeg, Int.reduceEq, Int.reduceNe, UInt8.reduceOfNat, true_and, Line.e, hm, hlt, h0, hw, e_kind, er, c6, c11, hj, hI2.2, hI3.2, mpTy_88, V.atom, hpl, hps, hI2.1, hI3.1, hB, hwl, h21]
        have hE : lineE (ls.take i) x (ls.drop (i + 1)) = 21 := by
          simp only [lineE, ← lastF_iff, ← hI4, ← hI6, ← hI7]
          simp [hB', eL, e21]
        rw [linesE_step hx, hE] at hI1
        simp at hI1
        rw [hI1]
        rfl
      | false =>
      have e21 : ¬ 0 < labs (ls.take i) x.label := by simp at h21 ⊢; omega
      cases h5 : decide ((8 : Int) ≤ (m1 : Int)) with
      | true =>
        have e5 : 8 ≤ m1 := by simp at h5; omega
        simp +contextual (maxSteps := 10000000) only [go_sem, ↓reduceIte, Nat.reduceLT, Nat.reduceEqDiff, Nat.reduceAdd, Nat.reduceSub, Nat.reduceMul, Nat.reduceLeDiff, Nat.reduceBEq, reduceCtorEq, Int.reduceAdd, Int.reduceSub, Int.reduceMul, Int.reduceLT, Int.reduceLE, Int.reduceToNat, Int.reduceNeg, Int.reduceEq, Int.reduceNe, UInt8.reduceOfNat, true_and, Line.e, hm, hlt, h0, hw, e_kind, er, c6, c11, hj, hI2.2, hI3.2, mpTy_88, V.atom, hpl, hps, hI2.1, hI3.1, hB, hwl, h21, h5]
        have hE : lineE (ls.take i) x (ls.drop (i + 1)) = 5 := by
          simp only [lineE, ← lastF_iff, ← hI4, ← hI6, ← hI7]
          simp [hB', eL, e21, eF, eJ, eI, e5]
        rw [linesE_step hx, hE] at hI1
        simp at hI1
        rw [hI1]
        rfl
      | false =>
        have e5 : ¬ 8 ≤ m1 := by simp at h5; omega
        simp +contextual (maxSteps := 10000000) only [go_sem, ↓reduceIte, Nat.reduceLT, Nat.reduceEqDiff, Nat.reduceAdd, Nat.reduceSub, Nat.reduceMul, Nat.reduceLeDiff, Nat.reduceBEq, reduceCtorEq, Int.reduceAdd, Int.reduceSub, Int.reduceMul, Int.reduceLT, Int.reduceLE, Int.reduceToNat, Int.reduceNeg, Int.reduceEq, Int.reduceNe, UInt8.reduceOfNat, true_and, Line.e, hm, hlt, h0, hw, e_kind, er, c6, c11, hj, hI2.2, hI3.2, mpTy_88, V.atom, hpl, hps, hI2.1, hI3.1, hB, hwl, hws, h21, h5, hw1, hI2']
        have hE : lineE (ls.take i) x (ls.drop (i + 1)) = 0 := by
          simp only [lineE, ← lastF_iff, ← hI4, ← hI6, ← hI7]
          simp [hB', eL, e21, eF, eJ, eI, e5]
        rw [linesE_step hx, hE] at hI1
        simp only [ne_eq, not_true_eq_false, if_false] at hI1
        refine ⟨⟨_, _, _, _, _, _⟩, rfl, hI1, ?_, ?_, ?_, ?_, ?_, ?_⟩
        · refine (hI2.put _ _).congr fun s => ?_
          have := labs_drop hx s
          simp only [eL, Bool.true_and, Bool.false_and, Bool.false_eq_true, if_false, decide_eq_true_eq] at this
          (by_cases hs : s = x.label; (subst hs; simp at this; simp; omega); (simp [Ne.symm hs] at this; simp [hs, this]))
        · refine (hI3.put _ _).congr fun s => ?_
          have := labs_take ls s i x hx
          simp only [eL, Bool.true_and, Bool.false_and, Bool.false_eq_true, if_false, decide_eq_true_eq] at this
          (by_cases hs : s = x.label; (subst hs; simp at this; simp; omega); (simp [Ne.symm hs] at this; simp [hs, this]))
        · rw [lastF_succ hx, c6]
        · simp only; omega
        · rw [cnt_take labB ls i x hx, ← hI6, eL]
          simp
        · rw [cnt_take instrB ls i x hx, ← hI7, eI]
          simp
    | false =>
    have eL : labB x = false := c11
    cases c6 : decide (x.op = 6) with
    | true =>
      have hj : (decide (8 ≤ x.op) && decide (x.op ≤ 10)) = false := by simp at c6 ⊢; omega
      have eJ : jumpB x = false := by rw [jumpB, Bool.decide_and]; exact hj
      have eI : instrB x = false := by simp at c6; simp [instrB, c6]
      have eF : x.op = 6 := by simpa using c6
      cases fence with
      | true =>
        simp +contextual (maxSteps := 10000000) only [go_sem, ↓reduceIte, Nat.reduceLT, Nat.reduceEqDiff, Nat.reduceAdd, Nat.reduceSub, Nat.reduceMul, Nat.reduceLeDiff, Nat.reduceBEq, reduceCtorEq, Int.reduceAdd, Int.reduceSub, Int.reduceMul, Int.reduceLT, Int.reduceLE, Int.reduceToNat, Int.reduceNeg, Int.reduceEq, Int.reduceNe, UInt8.reduceOfNat, true_and, Line.e, hm, hlt, h0, hw, e_kind, er, c6, c11, hj, hI2.2, hI3.2, mpTy_88, V.atom, hpl, hps, hI2.1, hI3.1, hB]
        have hE : lineE (ls.take i) x (ls.drop (i + 1)) = 23 := by
          simp only [lineE, ← lastF_iff, ← hI4, ← hI6, ← hI7]
          simp [hB', eL, eF]
        rw [linesE_step hx, hE] at hI1
        simp at hI1
        rw [hI1]
        rfl
      | false =>
        simp +contextual (maxSteps := 10000000) only [go_sem, ↓reduceIte, Nat.reduceLT, Nat.reduceEqDiff, Nat.reduceAdd, Nat.reduceSub, Nat.reduceMul, Nat.reduceLeDiff, Nat.reduceBEq, reduceCtorEq, Int.reduceAdd, Int.reduceSub, Int.reduceMul, Int.reduceLT, Int.reduceLE, Int.reduceToNat, Int.reduceNeg, Int.reduceEq, Int.reduceNe, UInt8.reduceOfNat, true_and, Line.e, hm, hlt, h0, hw, e_kind, er, c6, c11, hj, hI2.2, hI3.2, mpTy_88, V.atom, hpl, hps, hI2.1, hI3.1, hB, hmost, hw0]
        have hE : lineE (ls.take i) x (ls.drop (i + 1)) = 0 := by
          simp only [lineE, ← lastF_iff, ← hI4, ← hI6, ← hI7]
          simp [hB', eL, eF, eJ, eI]
        rw [linesE_step hx, hE] at hI1
        simp only [ne_eq, not_true_eq_false, if_false] at hI1
        refine ⟨⟨_, _, _, _, _, _⟩, rfl, hI1, ?_, ?_, ?_, ?_, ?_, ?_⟩
        · refine hI2.congr fun s => ?_
          have := labs_drop hx s
          simp only [eL, Bool.true_and, Bool.false_and, Bool.false_eq_true, if_false, decide_eq_true_eq] at this
          simp_all
        · refine hI3.congr fun s => ?_
          have := labs_take ls s i x hx
          simp only [eL, Bool.true_and, Bool.false_and, Bool.false_eq_true, if_false, decide_eq_true_eq] at this
          simp_all
        · rw [lastF_succ hx, c6]
        · simp only; omega
        · rw [cnt_take labB ls i x hx, ← hI6, eL]
          simp
        · rw [cnt_take instrB ls i x hx, ← hI7, eI]
          simp
    | false =>
    have eF : x.op ≠ 6 := by simpa using c6
    have eI : instrB x = true := by simp at c6 c11; simp [instrB, c6, c11]
    cases hj : (decide (8 ≤ x.op) && decide (x.op ≤ 10)) with
    | true =>
      have eJ : jumpB x = true := by rw [jumpB, Bool.decide_and]; exact hj
      have eD : labs (ls.drop i) x.label = labs (ls.drop (i + 1)) x.label := by
        have := labs_drop hx x.label
        simpa [eL] using this
      cases h22 : decide ((labs (ls.drop i) x.label : Int) = 0) with
      | true =>
        have e22 : labs (ls.drop (i + 1)) x.label = 0 := by simp at h22; omega
        simp +contextual (maxSteps := 10000000) only [go_sem, ↓reduceIte, Nat.reduceLT, Nat.reduceEqDiff, Nat.reduceAdd, Nat.reduceSub, Nat.reduceMul, Nat.reduceLeDiff, Nat.reduceBEq, reduceCtorEq, Int.reduceAdd, Int.reduceSub, Int.reduceMul, Int.reduceLT, Int.reduceLE, Int.reduceToNat, Int.reduceNeg, Int.reduceEq, Int.reduceNe, UInt8.reduceOfNat, true_and, Line.e, hm, hlt, h0, hw, e_kind, er, c6, c11, hj, hI2.2, hI3.2, mpTy_88, V.atom, hpl, hps, hI2.1, hI3.1, hB, h22]
        have hE : lineE (ls.take i) x (ls.drop (i + 1)) = 22 := by
          simp only [lineE, ← lastF_iff, ← hI4, ← hI6, ← hI7]
          simp [hB', eL, eF, eJ, e22]
        rw [linesE_step hx, hE] at hI1
        simp at hI1
        rw [hI1]
        rfl
      | false =>
        have e22 : labs (ls.drop (i + 1)) x.label ≠ 0 := by simp at h22; omega
        cases h5 : decide ((8 : Int) ≤ (m2 : Int)) with
        | true =>
          have e5 : 8 ≤ m2 := by simp at h5; omega
          simp +contextual (maxSteps := 10000000) only [go_sem, ↓reduceIte, Nat.reduceLT, Nat.reduceEqDiff, Nat.reduceAdd, Nat.reduceSub, Nat.reduceMul, Nat.reduceLeDiff, Nat.reduceBEq, reduceCtorEq, Int.reduceAdd, Int.reduceSub, Int.reduceMul, Int.reduceLT, Int.reduceLE, Int.reduceToNat, Int.reduceNeg, Int.reduceEq, Int.reduceNe, UInt8.reduceOfNat, true_and, Line.e, hm, hlt, h0, hw, e_kind, er, c6, c11, hj, hI2.2, hI3.2, mpTy_88, V.atom, hpl, hps, hI2.1, hI3.1, hB, h22, h5]
          have hE : lineE (ls.take i) x (ls.drop (i + 1)) = 5 := by
            simp only [lineE, ← lastF_iff, ← hI4, ← hI6, ← hI7]
            simp [hB', eL, eF, eJ, eI, e22, e5]
          rw [linesE_step hx, hE] at hI1
          simp at hI1
          rw [hI1]
          rfl
        | false =>
          have e5 : ¬ 8 ≤ m2 := by simp at h5; omega
          simp +contextual (maxSteps := 10000000) only [go_sem, ↓reduceIte, Nat.reduceLT, Nat.reduceEqDiff, Nat.reduceAdd, Nat.reduceSub, Nat.reduceMul, Nat.reduceLeDiff, Nat.reduceBEq, reduceCtorEq, Int.reduceAdd, Int.reduceSub, Int.reduceMul, Int.reduceLT, Int.reduceLE, Int.reduceToNat, Int.reduceNeg, Int.reduceEq, Int.reduceNe, UInt8.reduceOfNat, true_and, Line.e, hm, hlt, h0, hw, e_kind, er, c6, c11, hj, hI2.2, hI3.2, mpTy_88, V.atom, hpl, hps, hI2.1, hI3.1, hB, h22, h5, hw2]
          have hE : lineE (ls.take i) x (ls.drop (i + 1)) = 0 := by
            simp only [lineE, ← lastF_iff, ← hI4, ← hI6, ← hI7]
            simp [hB', eL, eF, eJ, eI, e22, e5]
          rw [linesE_step hx, hE] at hI1
          simp only [ne_eq, not_true_eq_false, if_false] at hI1
          refine ⟨⟨_, _, _, _, _, _⟩, rfl, hI1, ?_, ?_, ?_, ?_, ?_, ?_⟩
          · refine hI2.congr fun s => ?_
            have := labs_drop hx s
            simp only [eL, Bool.true_and, Bool.false_and, Bool.false_eq_true, if_false, decide_eq_true_eq] at this
            simp_all
          · refine hI3.congr fun s => ?_
            have := labs_take ls s i x hx
            simp only [eL, Bool.true_and, Bool.false_and, Bool.false_eq_true, if_false, decide_eq_true_eq] at this
            simp_all
          · rw [lastF_succ hx, c6]
          · simp only; omega
          · rw [cnt_take labB ls i x hx, ← hI6, eL]
            simp
          · rw [cnt_take instrB ls i x hx, ← hI7, eI]
            simp
    | false =>
      have eJ : jumpB x = false := by rw [jumpB, Bool.decide_and]; exact hj
      cases h5 : decide ((8 : Int) ≤ (m2 : Int)) with
      | true =>
        have e5 : 8 ≤ m2 := by simp at h5; omega
        simp +contextual (maxSteps := 10000000) only [go_sem, ↓reduceIte, Nat.reduceLT, Nat.reduceEqDiff, Nat.reduceAdd, Nat.reduceSub, Nat.reduceMul, Nat.reduceLeDiff, Nat.reduceBEq, reduceCtorEq, Int.reduceAdd, Int.reduceSub, Int.reduceMul, Int.reduceLT, Int.reduceLE, Int.reduceToNat, Int.reduceNeg, Int.reduceEq, Int.reduceNe, UInt8.reduceOfNat, true_and, Line.e, hm, hlt, h0, hw, e_kind, er, c6, c11, hj, hI2.2, hI3.2, mpTy_88, V.atom, hpl, hps, hI2.1, hI3.1, hB, h5]
        have hE : lineE (ls.take i) x (ls.drop (i + 1)) = 5 := by
          simp only [lineE, ← lastF_iff, ← hI4, ← hI6, ← hI7]
          simp [hB', eL, eF, eJ, eI, e5]
        rw [linesE_step hx, hE] at hI1
        simp at hI1
        rw [hI1]
        rfl
      | false =>
        have e5 : ¬ 8 ≤ m2 := by simp at h5; omega
        simp +contextual (maxSteps := 10000000) only [go_sem, ↓reduceIte, Nat.reduceLT, Nat.reduceEqDiff, Nat.reduceAdd, Nat.reduceSub, Nat.reduceMul, Nat.reduceLeDiff, Nat.reduceBEq, reduceCtorEq, Int.reduceAdd, Int.reduceSub, Int.reduceMul, Int.reduceLT, Int.reduceLE, Int.reduceToNat, Int.reduceNeg, Int.reduceEq, Int.reduceNe, UInt8.reduceOfNat, true_and, Line.e, hm, hlt, h0, hw, e_kind, er, c6, c11, hj, hI2.2, hI3.2, mpTy_88, V.atom, hpl, hps, hI2.1, hI3.1, hB, h5, hw2]
        have hE : lineE (ls.take i) x (ls.drop (i + 1)) = 0 := by
          simp only [lineE, ← lastF_iff, ← hI4, ← hI6, ← hI7]
          simp [hB', eL, eF, eJ, eI, e5]
        rw [linesE_step hx, hE] at hI1
        simp only [ne_eq, not_true_eq_false, if_false] at hI1
        refine ⟨⟨_, _, _, _, _, _⟩, rfl, hI1, ?_, ?_, ?_, ?_, ?_, ?_⟩
        · refine hI2.congr fun s => ?_
          have := labs_drop hx s
          simp only [eL, Bool.true_and, Bool.false_and, Bool.false_eq_true, if_false, decide_eq_true_eq] at this
          simp_all
        · refine hI3.congr fun s => ?_
          have := labs_take ls s i x hx
          simp only [eL, Bool.true_and, Bool.false_and, Bool.false_eq_true, if_false, decide_eq_true_eq] at this
          simp_all
        · rw [lastF_succ hx, c6]
        · simp only; omega
        · rw [cnt_take labB ls i x hx, ← hI6, eL]
          simp
        · rw [cnt_take instrB ls i x hx, ← hI7, eI]
          simp
  · rintro σ ⟨hI1, _⟩
    rw [List.drop_length, List.take_length] at hI1
    simp only [linesE] at hI1
    simp +contextual (maxSteps := 10000000) only [go_sem, ↓reduceIte, Nat.reduceLT, Nat.reduceEqDiff, Nat.reduceAdd, Nat.reduceSub, Nat.reduceMul, Nat.reduceLeDiff, Nat.reduceBEq, reduceCtorEq, Int.reduceAdd, Int.reduceSub, Int.reduceMul, Int.reduceLT, Int.reduceLE, Int.reduceToNat, Int.reduceNeg, Int.reduceEq, Int.reduceNe, UInt8.reduceOfNat, true_and, Int.lt_irrefl]
    rw [hI1]
end Go.Proofs.Ytcecleclipcheaa
