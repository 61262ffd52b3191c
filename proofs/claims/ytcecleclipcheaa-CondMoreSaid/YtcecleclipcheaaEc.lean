/-
  What the program's functions compute: which programs are right, and their locations.
  What the program's functions compute: what is asked of ends.
  What the program's functions and the laws' compute: what is asked of ends; what is too much.
  What the program's functions and the laws' compute: programs that are too much; the guards.
-/
import Derived.Test.YtcecleclipcheaaEb
import Derived.Test.YtcecleclipcheaaNa
set_option linter.unusedVariables false
set_option linter.unusedSimpArgs false
namespace Go.Proofs.Ytcecleclipcheaa
open Go Go.Shade Go.Fence
attribute [local congr] ite_congr

theorem e_keys (es : List (ByteArray × V)) (f : Fr) (r : Stk) (hf : Go.Shade.look ((12, .smap es) :: f) 900 = none) : cl Try.prog an prm 148 [.mp 0 12] (((12, .smap es) :: f) :: r) = some (.fn 169 [] [.ptr 0 900 0], ((900, .cells [.mp 0 12]) :: (12, .smap es) :: f) :: r) := by
  refine (cl_prim (f := keysP 169) rfl _ _).trans ?_
  simp only [keysP, lookB, hf, if_true, newB, ins]
  rfl
theorem e_sort (es : List (ByteArray × V)) (f : Fr) (r : Stk) (h1 : es.length ≤ 1000000) (h2 : es.all (fun e => decide (e.1.size ≤ maxLen)) = true) : cl Try.prog an prm 147 [.fn 169 [] [.ptr 0 900 0]] (((900, .cells [.mp 0 12]) :: (12, .smap es) :: f) :: r) = some (strs (setL (es.map (·.1))), ((900, .cells [.mp 0 12]) :: (12, .smap es) :: f) :: r) := by
  refine (cl_prim (f := sortP 169) rfl _ _).trans ?_
  simp only [sortP, lookB, look_cons, if_true, if_false, h1, h2, and_self, Nat.reduceEqDiff]

set_option maxHeartbeats 4000000 in
set_option maxRecDepth 10000 in
theorem e_plocs (f : File) (stk : Stk) (hf : f.Fit) (hn : (namesR f).length ≤ 500000) : cl Try.prog an prm 119 [.agg f.e] stk = some (strs (locsF f), stk) := by
  rw [cl_eq rfl Try.func119 rfl _ _ (by simp [Try.f119])]
  have hl1 : (namesF f).length ≤ 500000 := Nat.le_trans (namesF_le f) hn
  simp only [namesF, List.length_append] at hl1
  simp +contextual (maxSteps := 10000000) only [go_sem, ↓reduceIte, Nat.reduceLT, Nat.reduceEqDiff, Nat.reduceAdd, Nat.reduceSub, Nat.reduceMul, Nat.reduceLeDiff, Nat.reduceBEq, reduceCtorEq, Int.reduceAdd, Int.reduceSub, Int.reduceMul, Int.reduceLT, Int.reduceLE, Int.reduceToNat, Int.reduceNeg, Int.reduceEq, Int.reduceNe, UInt8.reduceOfNat, true_and, File.e, mpTy_88]
  generalize hE : ev _ _ _ _ (.loop _) _ = E
  revert E
  refine ev_phil f.init Cell.e (fun i (p : List (ByteArray × V)) => ⟨[(16, .int .i64 i), (15, .int .i64 f.init.length), (14, .sl 2 (f.init.map Cell.e)), (12, .mp 0 12), (3, .mp 0 12), (1, .ptr 0 1 0)], [(12, .smap p), (1, .cells f.e)] :: stk⟩) (fun i p => OKn p ((f.init.take i).map (·.loc))) [] hf.init.1 ?_ (by simpa using OKn.nil) ?_ ?_
  · simp +contextual (maxSteps := 10000000) only [go_sem, ↓reduceIte, Nat.reduceLT, Nat.reduceEqDiff, Nat.reduceAdd, Nat.reduceSub, Nat.reduceMul, Nat.reduceLeDiff, Nat.reduceBEq, reduceCtorEq, Int.reduceAdd, Int.reduceSub, Int.reduceMul, Int.reduceLT, Int.reduceLE, Int.reduceToNat, Int.reduceNeg, Int.reduceEq, Int.reduceNe, UInt8.reduceOfNat, true_and, File.e]
    rfl
  · intro i c es hi hx hm hlt h0 hw hI
    obtain ⟨q, hq⟩ : ∃ q, (f.init.take i).map (·.loc) = q := ⟨_, rfl⟩
    rw [hq] at hI
    have hql : q.length ≤ 500000 := by rw [← hq]; simp at hl1 ⊢; omega
    have hcl : cntN q c.loc ≤ q.length := cntN_le _ _
    have hww : IntKind.i64.wrap ((cntN q c.loc : Int) + 1) = (cntN q c.loc : Int) + 1 := by rw [wrap_i64 (by omega) (by omega)]
    have hpp := mput_pure c.loc ((cntN q c.loc : Int) + 1) es hI.ok.1
    simp +contextual (maxSteps := 10000000) only [go_sem, ↓reduceIte, Nat.reduceLT, Nat.reduceEqDiff, Nat.reduceAdd, Nat.reduceSub, Nat.reduceMul, Nat.reduceLeDiff, Nat.reduceBEq, reduceCtorEq, Int.reduceAdd, Int.reduceSub, Int.reduceMul, Int.reduceLT, Int.reduceLE, Int.reduceToNat, Int.reduceNeg, Int.reduceEq, Int.reduceNe, UInt8.reduceOfNat, true_and, File.e, Cell.e, hm, hlt, h0, hw, mpTy_88, hI.ok.1, hI.ok.2, hww, hpp, V.atom]
    exact ⟨_, rfl, by rw [take_snoc hx, List.map_append, hq]; exact hI.put _⟩
  intro es1 hI1
  rw [List.take_length] at hI1
  simp +contextual (maxSteps := 10000000) only [go_sem, ↓reduceIte, Nat.reduceLT, Nat.reduceEqDiff, Nat.reduceAdd, Nat.reduceSub, Nat.reduceMul, Nat.reduceLeDiff, Nat.reduceBEq, reduceCtorEq, Int.reduceAdd, Int.reduceSub, Int.reduceMul, Int.reduceLT, Int.reduceLE, Int.reduceToNat, Int.reduceNeg, Int.reduceEq, Int.reduceNe, UInt8.reduceOfNat, true_and, File.e, Int.lt_irrefl]
  generalize hE : ev _ _ _ _ (.loop _) _ = E
  revert E
  refine ev_phil f.threads thr (fun i (p : List (ByteArray × V)) => ⟨[(29, .int .i64 i), (28, .int .i64 f.threads.length), (27, .sl 1 (f.threads.map thr)), (12, .mp 0 12), (3, .mp 0 12), (1, .ptr 0 1 0)], [(12, .smap p), (1, .cells f.e)] :: stk⟩)
    (fun i p => OKn p (f.init.map (·.loc) ++ (f.threads.take i).flatMap fun t => (t.map (·.loc)).filter (· ≠ t0))) es1 hf.threads.1 ?_ (by simpa using hI1) ?_ ?_
  · simp +contextual (maxSteps := 10000000) only [go_sem, ↓reduceIte, Nat.reduceLT, Nat.reduceEqDiff, Nat.reduceAdd, Nat.reduceSub, Nat.reduceMul, Nat.reduceLeDiff, Nat.reduceBEq, reduceCtorEq, Int.reduceAdd, Int.reduceSub, Int.reduceMul, Int.reduceLT, Int.reduceLE, Int.reduceToNat, Int.reduceNeg, Int.reduceEq, Int.reduceNe, UInt8.reduceOfNat, true_and, File.e, hI1.ok.1]
    rfl
  · intro i t es hi hx hm hlt h0 hw hI
    obtain ⟨q0, hq0⟩ : ∃ q, (f.init.map (·.loc) ++ (f.threads.take i).flatMap fun t => (t.map (·.loc)).filter (· ≠ t0)) = q := ⟨_, rfl⟩
    rw [hq0] at hI
    have hft := hf.threads.2 t (List.mem_iff_getElem?.2 ⟨i, hx⟩)
    have hbt : q0.length + ((t.map (·.loc)).filter (· ≠ t0)).length ≤ 500000 := by
      have h3 : f.threads = f.threads.take i ++ t :: f.threads.drop (i + 1) := by rw [← drop_cons hx, List.take_append_drop]
      rw [h3] at hl1
      simp only [List.flatMap_append, List.flatMap_cons, List.length_append] at hl1
      rw [← hq0]
      simp only [List.length_append]
      omega
    simp +contextual (maxSteps := 10000000) only [go_sem, ↓reduceIte, Nat.reduceLT, Nat.reduceEqDiff, Nat.reduceAdd, Nat.reduceSub, Nat.reduceMul, Nat.reduceLeDiff, Nat.reduceBEq, reduceCtorEq, Int.reduceAdd, Int.reduceSub, Int.reduceMul, Int.reduceLT, Int.reduceLE, Int.reduceToNat, Int.reduceNeg, Int.reduceEq, Int.reduceNe, UInt8.reduceOfNat, true_and, File.e, thr, hm, hlt, h0, hw]
    generalize hE : ev _ _ _ _ (.loop _) _ = E
    revert E
    refine ev_phil t Line.e (fun k (p : List (ByteArray × V)) => ⟨[(36, .int .i64 k), (35, .int .i64 t.length), (34, .sl 5 (t.map Line.e)), (29, .int .i64 i), (28, .int .i64 f.threads.length), (27, .sl 1 (f.threads.map thr)), (12, .mp 0 12), (3, .mp 0 12), (1, .ptr 0 1 0)], [(12, .smap p), (1, .cells f.e)] :: stk⟩)
      (fun k p => OKn p (q0 ++ ((t.take k).map (·.loc)).filter (· ≠ t0))) es hft.1 ?_ (by simpa using hI) ?_ ?_
    · simp +contextual (maxSteps := 10000000) only [go_sem, ↓reduceIte, Nat.reduceLT, Nat.reduceEqDiff, Nat.reduceAdd, Nat.reduceSub, Nat.reduceMul, Nat.reduceLeDiff, Nat.reduceBEq, reduceCtorEq, Int.reduceAdd, Int.reduceSub, Int.reduceMul, Int.reduceLT, Int.reduceLE, Int.reduceToNat, Int.reduceNeg, Int.reduceEq, Int.reduceNe, UInt8.reduceOfNat, true_and, File.e, hI.ok.1]
      rfl
    · intro k c es hk hkx hkm hklt hk0 hkw hI
      obtain ⟨q, hq⟩ : ∃ q, (q0 ++ ((t.take k).map (·.loc)).filter (· ≠ t0)) = q := ⟨_, rfl⟩
      rw [hq] at hI
      have hql : q.length ≤ 500000 := by
        have h3 : t = t.take k ++ t.drop k := (List.take_append_drop k t).symm
        rw [h3] at hbt
        simp only [List.map_append, List.filter_append, List.length_append] at hbt
        rw [← hq]
        simp only [List.length_append]
        omega
      cases hE : strEq c.loc { data := #[] } with
      | true =>
        simp +contextual (maxSteps := 10000000) only [go_sem, ↓reduceIte, Nat.reduceLT, Nat.reduceEqDiff, Nat.reduceAdd, Nat.reduceSub, Nat.reduceMul, Nat.reduceLeDiff, Nat.reduceBEq, reduceCtorEq, Int.reduceAdd, Int.reduceSub, Int.reduceMul, Int.reduceLT, Int.reduceLE, Int.reduceToNat, Int.reduceNeg, Int.reduceEq, Int.reduceNe, UInt8.reduceOfNat, true_and, File.e, thr, Line.e, hm, h0, hkm, hklt, hk0, hkw, hE, hI.ok.1]
        have hc0 : c.loc = t0 := strEq_iff.1 hE
        exact ⟨_, rfl, by rw [take_snoc hkx, List.map_append, List.filter_append]; simp only [List.map_cons, List.map_nil, hc0, List.filter_cons, List.filter_nil, ne_eq, not_true_eq_false, decide_false, Bool.false_eq_true, if_false, List.append_nil]; rw [hq]; exact hI⟩
      | false =>
        have hcl : cntN q c.loc ≤ q.length := cntN_le _ _
        have hww : IntKind.i64.wrap ((cntN q c.loc : Int) + 1) = (cntN q c.loc : Int) + 1 := by rw [wrap_i64 (by omega) (by omega)]
        have hpp := mput_pure c.loc ((cntN q c.loc : Int) + 1) es hI.ok.1
        simp +contextual (maxSteps := 10000000) only [go_sem, ↓reduceIte, Nat.reduceLT, Nat.reduceEqDiff, Nat.reduceAdd, Nat.reduceSub, Nat.reduceMul, Nat.reduceLeDiff, Nat.reduceBEq, reduceCtorEq, Int.reduceAdd, Int.reduceSub, Int.reduceMul, Int.reduceLT, Int.reduceLE, Int.reduceToNat, Int.reduceNeg, Int.reduceEq, Int.reduceNe, UInt8.reduceOfNat, true_and, File.e, thr, Line.e, hm, h0, hkm, hklt, hk0, hkw, hE, mpTy_88, hI.ok.1, hI.ok.2, hww, hpp, V.atom]
        have hc0 : c.loc ≠ t0 := fun e => by rw [show strEq c.loc { data := #[] } = true from strEq_iff.2 e] at hE; cases hE
        exact ⟨_, rfl, by rw [take_snoc hkx, List.map_append, List.filter_append, ← List.append_assoc, hq]; simpa [hc0] using hI.put c.loc⟩
    · intro es2 hI2
      rw [List.take_length] at hI2
      simp +contextual (maxSteps := 10000000) only [go_sem, ↓reduceIte, Nat.reduceLT, Nat.reduceEqDiff, Nat.reduceAdd, Nat.reduceSub, Nat.reduceMul, Nat.reduceLeDiff, Nat.reduceBEq, reduceCtorEq, Int.reduceAdd, Int.reduceSub, Int.reduceMul, Int.reduceLT, Int.reduceLE, Int.reduceToNat, Int.reduceNeg, Int.reduceEq, Int.reduceNe, UInt8.reduceOfNat, true_and, File.e, thr, hm, h0, hw, Int.lt_irrefl, hI2.ok.1]
      exact ⟨_, rfl, by rw [take_snoc hx, List.flatMap_append, ← List.append_assoc, hq0]; simpa using hI2⟩
  intro es2 hI2
  rw [List.take_length] at hI2
  obtain ⟨q1, hq1⟩ : ∃ q, (f.init.map (·.loc) ++ f.threads.flatMap fun t => (t.map (·.loc)).filter (· ≠ t0)) = q := ⟨_, rfl⟩
  rw [hq1] at hI2
  simp +contextual (maxSteps := 10000000) only [go_sem, ↓reduceIte, Nat.reduceLT, Nat.reduceEqDiff, Nat.reduceAdd, Nat.reduceSub, Nat.reduceMul, Nat.reduceLeDiff, Nat.reduceBEq, reduceCtorEq, Int.reduceAdd, Int.reduceSub, Int.reduceMul, Int.reduceLT, Int.reduceLE, Int.reduceToNat, Int.reduceNeg, Int.reduceEq, Int.reduceNe, UInt8.reduceOfNat, true_and, File.e, Int.lt_irrefl]
  generalize hE : ev _ _ _ _ (.loop _) _ = E
  revert E
  refine ev_phil f.cond Atom.e (fun i (p : List (ByteArray × V)) => ⟨[(53, .int .i64 i), (52, .int .i64 f.cond.length), (51, .sl 3 (f.cond.map Atom.e)), (12, .mp 0 12), (3, .mp 0 12)], [(12, .smap p)] :: stk⟩)
    (fun i p => OKn p (q1 ++ ((f.cond.take i).filter (·.thread = -1)).map (·.name))) es2 hf.cond.1 ?_ (by simpa using hI2) ?_ ?_
  · simp +contextual (maxSteps := 10000000) only [go_sem, ↓reduceIte, Nat.reduceLT, Nat.reduceEqDiff, Nat.reduceAdd, Nat.reduceSub, Nat.reduceMul, Nat.reduceLeDiff, Nat.reduceBEq, reduceCtorEq, Int.reduceAdd, Int.reduceSub, Int.reduceMul, Int.reduceLT, Int.reduceLE, Int.reduceToNat, Int.reduceNeg, Int.reduceEq, Int.reduceNe, UInt8.reduceOfNat, true_and, File.e, hI2.ok.1]
    rfl
  · intro i a es hi hx hm hlt h0 hw hI
    obtain ⟨q, hq⟩ : ∃ q, (q1 ++ ((f.cond.take i).filter (·.thread = -1)).map (·.name)) = q := ⟨_, rfl⟩
    rw [hq] at hI
    have hql : q.length ≤ 500000 := by
      have h3 : f.cond = f.cond.take i ++ f.cond.drop i := (List.take_append_drop i f.cond).symm
      rw [h3] at hl1
      simp only [List.filter_append, List.map_append, List.length_append] at hl1
      rw [← hq, ← hq1]
      simp only [List.length_append]
      omega
    cases hT : decide (a.thread = -1) with
    | true =>
      have hcl : cntN q a.name ≤ q.length := cntN_le _ _
      have hww : IntKind.i64.wrap ((cntN q a.name : Int) + 1) = (cntN q a.name : Int) + 1 := by rw [wrap_i64 (by omega) (by omega)]
      have hpp := mput_pure a.name ((cntN q a.name : Int) + 1) es hI.ok.1
      simp +contextual (maxSteps := 10000000) only [go_sem, ↓reduceIte, Nat.reduceLT, Nat.reduceEqDiff, Nat.reduceAdd, Nat.reduceSub, Nat.reduceMul, Nat.reduceLeDiff, Nat.reduceBEq, reduceCtorEq, Int.reduceAdd, Int.reduceSub, Int.reduceMul, Int.reduceLT, Int.reduceLE, Int.reduceToNat, Int.reduceNeg, Int.reduceEq, Int.reduceNe, UInt8.reduceOfNat, true_and, File.e, Atom.e, hm, hlt, h0, hw, hT, mpTy_88, hI.ok.1, hI.ok.2, hww, hpp, V.atom]
      exact ⟨_, rfl, by rw [take_snoc hx, List.filter_append, List.map_append, ← List.append_assoc, hq]; simpa [hT] using hI.put a.name⟩
    | false =>
      simp +contextual (maxSteps := 10000000) only [go_sem, ↓reduceIte, Nat.reduceLT, Nat.reduceEqDiff, Nat.reduceAdd, Nat.reduceSub, Nat.reduceMul, Nat.reduceLeDiff, Nat.reduceBEq, reduceCtorEq, Int.reduceAdd, Int.reduceSub, Int.reduceMul, Int.reduceLT, Int.reduceLE, Int.reduceToNat, Int.reduceNeg, Int.reduceEq, Int.reduceNe, UInt8.reduceOfNat, true_and, File.e, Atom.e, hm, hlt, h0, hw, hT, hI.ok.1]
      exact ⟨_, rfl, by rw [take_snoc hx, List.filter_append, List.map_append, ← List.append_assoc, hq]; simpa [hT] using hI⟩
  intro es3 hI3
  rw [List.take_length] at hI3
  have hnm : namesF f = q1 ++ (f.cond.filter (·.thread = -1)).map (·.name) := by rw [← hq1]; rfl
  rw [← hnm] at hI3
  have hs1 : es3.length ≤ 1000000 := by have := hI3.len; have := namesF_le f; omega
  have hs2 : es3.all (fun e => decide (e.1.size ≤ maxLen)) = true := by
    refine List.all_eq_true.2 fun p hp => decide_eq_true ?_
    have hm : p.1 ∈ namesF f := (hI3.mem _).1 (List.mem_map_of_mem hp)
    simp only [namesF, List.mem_append, List.mem_map, List.mem_flatMap, List.mem_filter] at hm
    rcases hm with (⟨c, hc, e⟩ | ⟨t, ht, ⟨x, hx, e⟩, _⟩) | ⟨a, ha, e⟩
    · rw [← e]; exact (hf.init.2 c hc).loc
    · rw [← e]; exact ((hf.threads.2 t ht).2 x hx).loc
    · rw [← e]; exact (hf.cond.2 a ha.1).name
  have hk := fun f r h => e_keys es3 f r h
  have hso := fun f r => e_sort es3 f r hs1 hs2
  simp +contextual (maxSteps := 10000000) only [go_sem, ↓reduceIte, Nat.reduceLT, Nat.reduceEqDiff, Nat.reduceAdd, Nat.reduceSub, Nat.reduceMul, Nat.reduceLeDiff, Nat.reduceBEq, reduceCtorEq, Int.reduceAdd, Int.reduceSub, Int.reduceMul, Int.reduceLT, Int.reduceLE, Int.reduceToNat, Int.reduceNeg, Int.reduceEq, Int.reduceNe, UInt8.reduceOfNat, true_and, File.e, Int.lt_irrefl, hk, hso, strs]
  rw [locsF, setL_congr hI3.mem]
def errO : Option (Int × Int × Int) → V
  | some (t, i, e) => errV t i e
  | none => .nili

set_option maxHeartbeats 4000000 in
set_option maxRecDepth 10000 in
theorem e_all (f : File) (stk : Stk) (hf : f.Fit) (hn : (namesR f).length ≤ 500000) : cl Try.prog an prm 127 [.agg f.e] stk = some (errO (allE f), stk) := by
  rw [cl_eq rfl Try.func127 rfl _ _ (by simp [Try.f127])]
  have hh := fun stk => e_head f stk hf
  have hlo := fun stk => e_plocs f stk hf hn
  have has := fun stk => e_vasked f stk hf
  simp only [File.e] at hh hlo has
  cases hH : decide (headE f = 0) with
  | false =>
    have hH' : ¬ headE f = 0 := by simpa using hH
    simp only [if_neg hH', errV] at hh
    simp +contextual (maxSteps := 10000000) only [go_sem, ↓reduceIte, Nat.reduceLT, Nat.reduceEqDiff, Nat.reduceAdd, Nat.reduceSub, Nat.reduceMul, Nat.reduceLeDiff, Nat.reduceBEq, reduceCtorEq, Int.reduceAdd, Int.reduceSub, Int.reduceMul, Int.reduceLT, Int.reduceLE, Int.reduceToNat, Int.reduceNeg, Int.reduceEq, Int.reduceNe, UInt8.reduceOfNat, true_and, File.e, hh]
    simp [allE, hH', errO, errV]
  | true =>
  have hH' : headE f = 0 := by simpa using hH
  simp only [if_pos hH'] at hh
  simp +contextual (maxSteps := 10000000) only [go_sem, ↓reduceIte, Nat.reduceLT, Nat.reduceEqDiff, Nat.reduceAdd, Nat.reduceSub, Nat.reduceMul, Nat.reduceLeDiff, Nat.reduceBEq, reduceCtorEq, Int.reduceAdd, Int.reduceSub, Int.reduceMul, Int.reduceLT, Int.reduceLE, Int.reduceToNat, Int.reduceNeg, Int.reduceEq, Int.reduceNe, UInt8.reduceOfNat, true_and, File.e, hh]
  generalize hE : ev _ _ _ _ (.loop _) _ = E
  revert E
  refine ev_phil f.threads thr (fun i (_ : Unit) => ⟨[(16, .int .i64 i), (15, .int .i64 f.threads.length), (14, .sl 1 (f.threads.map thr)), (1, .ptr 0 1 0)], [(1, .cells f.e)] :: stk⟩) (fun i _ => thrsE 0 f.threads = thrsE i (f.threads.drop i)) () hf.threads.1 ?_ (by simp) ?_ ?_
  · simp +contextual (maxSteps := 10000000) only [go_sem, ↓reduceIte, Nat.reduceLT, Nat.reduceEqDiff, Nat.reduceAdd, Nat.reduceSub, Nat.reduceMul, Nat.reduceLeDiff, Nat.reduceBEq, reduceCtorEq, Int.reduceAdd, Int.reduceSub, Int.reduceMul, Int.reduceLT, Int.reduceLE, Int.reduceToNat, Int.reduceNeg, Int.reduceEq, Int.reduceNe, UInt8.reduceOfNat, true_and, File.e]
    rfl
  · intro i t _ hi hx hm hlt h0 hw hI
    have hft := hf.threads.2 t (List.mem_iff_getElem?.2 ⟨i, hx⟩)
    have ht := fun stk => e_thread i t stk hft
    rw [thrsE_step hx] at hI
    cases hL : linesE [] t with
    | none =>
      simp only [hL] at ht hI
      simp +contextual (maxSteps := 10000000) only [go_sem, ↓reduceIte, Nat.reduceLT, Nat.reduceEqDiff, Nat.reduceAdd, Nat.reduceSub, Nat.reduceMul, Nat.reduceLeDiff, Nat.reduceBEq, reduceCtorEq, Int.reduceAdd, Int.reduceSub, Int.reduceMul, Int.reduceLT, Int.reduceLE, Int.reduceToNat, Int.reduceNeg, Int.reduceEq, Int.reduceNe, UInt8.reduceOfNat, true_and, File.e, thr, hm, hlt, h0, hw, ht]
      exact ⟨(), hI⟩
    | some p =>
      obtain ⟨k, e⟩ := p
      simp only [hL, errV] at ht hI
      simp +contextual (maxSteps := 10000000) only [go_sem, ↓reduceIte, Nat.reduceLT, Nat.reduceEqDiff, Nat.reduceAdd, Nat.reduceSub, Nat.reduceMul, Nat.reduceLeDiff, Nat.reduceBEq, reduceCtorEq, Int.reduceAdd, Int.reduceSub, Int.reduceMul, Int.reduceLT, Int.reduceLE, Int.reduceToNat, Int.reduceNeg, Int.reduceEq, Int.reduceNe, UInt8.reduceOfNat, true_and, File.e, thr, hm, hlt, h0, hw, ht]
      simp [allE, hH', hI, errO, errV]
  intro _ hI1
  rw [List.drop_length] at hI1
  simp only [thrsE] at hI1
  cases hA : atomsE f.threads.length 0 f.cond with
  | some p =>
    obtain ⟨i, e⟩ := p
    simp only [hA, errV] at has
    simp +contextual (maxSteps := 10000000) only [go_sem, ↓reduceIte, Nat.reduceLT, Nat.reduceEqDiff, Nat.reduceAdd, Nat.reduceSub, Nat.reduceMul, Nat.reduceLeDiff, Nat.reduceBEq, reduceCtorEq, Int.reduceAdd, Int.reduceSub, Int.reduceMul, Int.reduceLT, Int.reduceLE, Int.reduceToNat, Int.reduceNeg, Int.reduceEq, Int.reduceNe, UInt8.reduceOfNat, true_and, File.e, Int.lt_irrefl, has]
    simp [allE, hH', hI1, hA, errO, errV]
  | none =>
  simp only [hA] at has
  cases hL : decide ((4 : Int) < ((locsF f).length : Int)) with
  | true =>
    simp +contextual (maxSteps := 10000000) only [go_sem, ↓reduceIte, Nat.reduceLT, Nat.reduceEqDiff, Nat.reduceAdd, Nat.reduceSub, Nat.reduceMul, Nat.reduceLeDiff, Nat.reduceBEq, reduceCtorEq, Int.reduceAdd, Int.reduceSub, Int.reduceMul, Int.reduceLT, Int.reduceLE, Int.reduceToNat, Int.reduceNeg, Int.reduceEq, Int.reduceNe, UInt8.reduceOfNat, true_and, File.e, Int.lt_irrefl, has, hlo, strs, hL]
    have : 4 < (locsF f).length := by simp at hL; omega
    simp [allE, hH', hI1, hA, errO, errV, this]
  | false =>
    simp +contextual (maxSteps := 10000000) only [go_sem, ↓reduceIte, Nat.reduceLT, Nat.reduceEqDiff, Nat.reduceAdd, Nat.reduceSub, Nat.reduceMul, Nat.reduceLeDiff, Nat.reduceBEq, reduceCtorEq, Int.reduceAdd, Int.reduceSub, Int.reduceMul, Int.reduceLT, Int.reduceLE, Int.reduceToNat, Int.reduceNeg, Int.reduceEq, Int.reduceNe, UInt8.reduceOfNat, true_and, File.e, Int.lt_irrefl, has, hlo, strs, hL]
    have : ¬ 4 < (locsF f).length := by simp at hL; omega
    simp [allE, hH', hI1, hA, errO, errV, this]

set_option maxHeartbeats 2000000 in
set_option maxRecDepth 10000 in
theorem e_fright (f : File) (stk : Stk) (hf : f.Fit) (hn : (namesR f).length ≤ 500000) : cl Try.prog an prm 80 [.agg f.e] stk = some (.bool (rightB f), stk) := by
  rw [cl_eq rfl Try.func80 rfl _ _ (by simp [Try.f80])]
  have hc := fun stk => e_all f stk hf hn
  rw [← allE_right]
  cases hA : allE f with
  | none =>
    simp only [File.e, hA, errO] at hc
    simp +contextual (maxSteps := 10000000) only [go_sem, ↓reduceIte, Nat.reduceLT, Nat.reduceEqDiff, Nat.reduceAdd, Nat.reduceSub, Nat.reduceMul, Nat.reduceLeDiff, Nat.reduceBEq, reduceCtorEq, Int.reduceAdd, Int.reduceSub, Int.reduceMul, Int.reduceLT, Int.reduceLE, Int.reduceToNat, Int.reduceNeg, Int.reduceEq, Int.reduceNe, UInt8.reduceOfNat, true_and, File.e, hc]
    rfl
  | some p =>
    simp only [File.e, hA, errO, errV] at hc
    simp +contextual (maxSteps := 10000000) only [go_sem, ↓reduceIte, Nat.reduceLT, Nat.reduceEqDiff, Nat.reduceAdd, Nat.reduceSub, Nat.reduceMul, Nat.reduceLeDiff, Nat.reduceBEq, reduceCtorEq, Int.reduceAdd, Int.reduceSub, Int.reduceMul, Int.reduceLT, Int.reduceLE, Int.reduceToNat, Int.reduceNeg, Int.reduceEq, Int.reduceNe, UInt8.reduceOfNat, true_and, File.e, hc]
    rfl
set_option maxHeartbeats 2000000 in
set_option maxRecDepth 10000 in
theorem e_flocs (f : File) (stk : Stk) (hf : f.Fit) (hn : (namesR f).length ≤ 500000) : cl Try.prog an prm 68 [.agg f.e] stk = some (strs (locsB f), stk) := by
  rw [cl_eq rfl Try.func68 rfl _ _ (by simp [Try.f68])]
  have hc := fun stk => e_fright f stk hf hn
  have hlo := fun stk => e_plocs f stk hf hn
  simp only [File.e] at hc hlo
  cases hR : rightB f with
  | true =>
    simp +contextual (maxSteps := 10000000) only [go_sem, ↓reduceIte, Nat.reduceLT, Nat.reduceEqDiff, Nat.reduceAdd, Nat.reduceSub, Nat.reduceMul, Nat.reduceLeDiff, Nat.reduceBEq, reduceCtorEq, Int.reduceAdd, Int.reduceSub, Int.reduceMul, Int.reduceLT, Int.reduceLE, Int.reduceToNat, Int.reduceNeg, Int.reduceEq, Int.reduceNe, UInt8.reduceOfNat, true_and, File.e, hc, hlo, hR, strs]
    rw [locsB_right hR]
  | false =>
    simp +contextual (maxSteps := 10000000) only [go_sem, ↓reduceIte, Nat.reduceLT, Nat.reduceEqDiff, Nat.reduceAdd, Nat.reduceSub, Nat.reduceMul, Nat.reduceLeDiff, Nat.reduceBEq, reduceCtorEq, Int.reduceAdd, Int.reduceSub, Int.reduceMul, Int.reduceLT, Int.reduceLE, Int.reduceToNat, Int.reduceNeg, Int.reduceEq, Int.reduceNe, UInt8.reduceOfNat, true_and, File.e, hc, hlo, hR]
    simp [locsB, hR, strs]
end Go.Proofs.Ytcecleclipcheaa

set_option linter.unusedVariables false
set_option linter.unusedSimpArgs false
namespace Go.Proofs.Ytcecleclipcheaa
open Go Go.Shade Go.Fence
attribute [local congr] ite_congr

set_option maxHeartbeats 1000000 in
set_option maxRecDepth 10000 in
theorem e_index (l : List ByteArray) (s : ByteArray) (stk : Stk) (hl : l.length ≤ maxLen) : cl Try.prog an prm 70 [strs l, .str s] stk = some (.int .i64 (idxS s l), stk) := by
  rw [cl_eq rfl Try.func70 rfl _ _ (by simp [Try.f70])]
  simp +contextual (maxSteps := 10000000) only [go_sem, ↓reduceIte, Nat.reduceLT, Nat.reduceEqDiff, Nat.reduceAdd, Nat.reduceSub, Nat.reduceMul, Nat.reduceLeDiff, Nat.reduceBEq, reduceCtorEq, Int.reduceAdd, Int.reduceSub, Int.reduceMul, Int.reduceLT, Int.reduceLE, Int.reduceToNat, Int.reduceNeg, Int.reduceEq, Int.reduceNe, UInt8.reduceOfNat, true_and, strs]
  generalize hE : ev _ _ _ _ (.loop _) _ = E
  revert E
  refine ev_phil l (fun s => [.str s]) (fun i (_ : Unit) => ⟨[(8, .int .i64 i), (7, .int .i64 l.length), (1, .str s), (0, .sl 1 (l.map fun s => [.str s]))], [] :: stk⟩) (fun i _ => ∀ j, j < i → l[j]? ≠ some s) () hl ?_ (fun j hj => by omega) ?_ ?_
  · simp +contextual (maxSteps := 10000000) only [go_sem, ↓reduceIte, Nat.reduceLT, Nat.reduceEqDiff, Nat.reduceAdd, Nat.reduceSub, Nat.reduceMul, Nat.reduceLeDiff, Nat.reduceBEq, reduceCtorEq, Int.reduceAdd, Int.reduceSub, Int.reduceMul, Int.reduceLT, Int.reduceLE, Int.reduceToNat, Int.reduceNeg, Int.reduceEq, Int.reduceNe, UInt8.reduceOfNat, true_and]
    rfl
  · intro i x _ hi hx hm hlt h0 hw hI
    cases hE : strEq s x with
    | true =>
      simp +contextual (maxSteps := 10000000) only [go_sem, ↓reduceIte, Nat.reduceLT, Nat.reduceEqDiff, Nat.reduceAdd, Nat.reduceSub, Nat.reduceMul, Nat.reduceLeDiff, Nat.reduceBEq, reduceCtorEq, Int.reduceAdd, Int.reduceSub, Int.reduceMul, Int.reduceLT, Int.reduceLE, Int.reduceToNat, Int.reduceNeg, Int.reduceEq, Int.reduceNe, UInt8.reduceOfNat, true_and, hm, hlt, h0, hw, hE]
      rw [idxS_hit (by rw [hx, strEq_iff.1 hE]) hI]
    | false =>
      simp +contextual (maxSteps := 10000000) only [go_sem, ↓reduceIte, Nat.reduceLT, Nat.reduceEqDiff, Nat.reduceAdd, Nat.reduceSub, Nat.reduceMul, Nat.reduceLeDiff, Nat.reduceBEq, reduceCtorEq, Int.reduceAdd, Int.reduceSub, Int.reduceMul, Int.reduceLT, Int.reduceLE, Int.reduceToNat, Int.reduceNeg, Int.reduceEq, Int.reduceNe, UInt8.reduceOfNat, true_and, hm, hlt, h0, hw, hE]
      refine ⟨(), fun j hj => ?_⟩
      rcases Nat.lt_succ_iff_lt_or_eq.1 hj with hj | rfl
      · exact hI j hj
      · rw [hx]
        intro e
        cases e
        rw [strEq_self] at hE
        cases hE
  · intro _ hI
    simp +contextual (maxSteps := 10000000) only [go_sem, ↓reduceIte, Nat.reduceLT, Nat.reduceEqDiff, Nat.reduceAdd, Nat.reduceSub, Nat.reduceMul, Nat.reduceLeDiff, Nat.reduceBEq, reduceCtorEq, Int.reduceAdd, Int.reduceSub, Int.reduceMul, Int.reduceLT, Int.reduceLE, Int.reduceToNat, Int.reduceNeg, Int.reduceEq, Int.reduceNe, UInt8.reduceOfNat, true_and, Int.lt_irrefl]
    rw [idxS_none fun hm => by
      obtain ⟨i, hi⟩ := List.mem_iff_getElem?.1 hm
      exact hI i (List.getElem?_eq_some_iff.1 hi).1 hi]

def ints' (l : List Int) : List (List V) := l.map fun n => [.int .i64 n]
set_option maxHeartbeats 2000000 in
set_option maxRecDepth 10000 in
theorem e_h1 (a : Atom) (o : Out) (locs : List ByteArray) (v : Int) (stk : Stk) (hl : locs.length ≤ maxLen) (h3 : lookB stk 3 3 = some (.cells o.e)) (h5 : lookB stk 3 5 = some (.cells [strs locs]))
    (hi : 0 ≤ idxS a.name locs) (hv : o.mem[(idxS a.name locs).toNat]? = some v) : cl Try.prog an prm 69 [.agg a.e, .ptr 3 3 0, .ptr 3 5 0] stk = some (.int .i64 v, stk) := by
  rw [cl_eq rfl Try.func69 rfl _ _ (by simp [Try.f69])]
  have hx := fun stk => e_index locs a.name stk hl
  have hv' : (o.mem.map fun n => [V.int .i64 n])[(idxS a.name locs).toNat]? = some [.int .i64 v] := by simp [hv]
  simp only [Out.e, ints, strs] at h3 h5 hx
  simp +contextual (maxSteps := 10000000) only [go_sem, ↓reduceIte, Nat.reduceLT, Nat.reduceEqDiff, Nat.reduceAdd, Nat.reduceSub, Nat.reduceMul, Nat.reduceLeDiff, Nat.reduceBEq, reduceCtorEq, Int.reduceAdd, Int.reduceSub, Int.reduceMul, Int.reduceLT, Int.reduceLE, Int.reduceToNat, Int.reduceNeg, Int.reduceEq, Int.reduceNe, UInt8.reduceOfNat, true_and, Atom.e, h3, h5, hx, hi, hv']
set_option maxHeartbeats 2000000 in
set_option maxRecDepth 10000 in
theorem e_h2 (a : Atom) (o : Out) (v : Int) (stk : Stk) (h3 : lookB stk 3 3 = some (.cells o.e)) (ht : 0 ≤ a.thread ∧ a.thread < 3)
    (hi : 0 ≤ 4 * a.thread + regI a.name) (hv : o.regs[(4 * a.thread + regI a.name).toNat]? = some v) : cl Try.prog an prm 71 [.agg a.e, .ptr 3 3 0] stk = some (.int .i64 v, stk) := by
  rw [cl_eq rfl Try.func71 rfl _ _ (by simp [Try.f71])]
  have hb := regI_le a.name
  have hw1 : IntKind.i64.wrap (4 * a.thread) = 4 * a.thread := wrap_i64 (by omega) (by omega)
  have hw2 : IntKind.i64.wrap (4 * a.thread + regI a.name) = 4 * a.thread + regI a.name := wrap_i64 (by omega) (by omega)
  have hv' : (o.regs.map fun n => [V.int .i64 n])[(4 * a.thread + regI a.name).toNat]? = some [.int .i64 v] := by simp [hv]
  simp only [Out.e, ints] at h3
  simp +contextual (maxSteps := 10000000) only [go_sem, ↓reduceIte, Nat.reduceLT, Nat.reduceEqDiff, Nat.reduceAdd, Nat.reduceSub, Nat.reduceMul, Nat.reduceLeDiff, Nat.reduceBEq, reduceCtorEq, Int.reduceAdd, Int.reduceSub, Int.reduceMul, Int.reduceLT, Int.reduceLE, Int.reduceToNat, Int.reduceNeg, Int.reduceEq, Int.reduceNe, UInt8.reduceOfNat, true_and, Atom.e, h3, hw1, hw2, e_reg, hi, hv']

/-- cond.Holds' own boxes -/
def fr28 (f : File) (o : Out) (locs : List ByteArray) : Fr := [(25, .imap [(0, .fn 69 [] [.ptr 0 3 0, .ptr 0 5 0]), (1, .fn 71 [] [.ptr 0 3 0])]), (6, .cells [.mp 0 25]), (5, .cells [strs locs]), (3, .cells o.e), (2, .cells f.e)]
set_option maxHeartbeats 4000000 in
set_option maxRecDepth 10000 in
theorem e_h3 (f : File) (a : Atom) (o : Out) (locs : List ByteArray) (r : Stk) (hl : locs.length ≤ maxLen) (h1 : 0 ≤ a.thread → 0 ≤ 4 * a.thread + regI a.name ∧ 4 * a.thread + regI a.name < o.regs.length ∧ a.thread < 3) (h2 : ¬ 0 ≤ a.thread → a.name ∈ locs ∧ o.mem.length = locs.length) :
    cl Try.prog an prm 74 [.agg a.e, .ptr 2 6 0] ([] :: [] :: fr28 f o locs :: r) = some (.bool (!holdP locs o a), [] :: [] :: fr28 f o locs :: r) := by
  rw [cl_eq rfl Try.func74 rfl _ _ (by simp [Try.f74])]
  cases hT : decide (0 ≤ a.thread) with
  | true =>
    have hT' : 0 ≤ a.thread := by simpa using hT
    obtain ⟨k1, k2, k3⟩ := h1 hT'
    obtain ⟨v, hv⟩ : ∃ v, o.regs[(4 * a.thread + regI a.name).toNat]? = some v := ⟨_, List.getElem?_eq_getElem (by omega)⟩
    have hc := fun (s : Stk) (g : lookB s 3 3 = some (.cells o.e)) => e_h2 a o v s g ⟨hT', k3⟩ k1 hv
    simp only [Out.e, ints, Atom.e] at hc
    simp +contextual (maxSteps := 10000000) only [go_sem, ↓reduceIte, Nat.reduceLT, Nat.reduceEqDiff, Nat.reduceAdd, Nat.reduceSub, Nat.reduceMul, Nat.reduceLeDiff, Nat.reduceBEq, reduceCtorEq, Int.reduceAdd, Int.reduceSub, Int.reduceMul, Int.reduceLT, Int.reduceLE, Int.reduceToNat, Int.reduceNeg, Int.reduceEq, Int.reduceNe, UInt8.reduceOfNat, true_and, Atom.e, fr28, File.e, Out.e, ints, strs, hT, mpTy_107, hc]
    simp [holdP, atomV, hT', hv]
  | false =>
    have hT' : ¬ 0 ≤ a.thread := by simpa using hT
    obtain ⟨k1, k2⟩ := h2 hT'
    obtain ⟨k3, k4⟩ := idxS_mem k1
    obtain ⟨v, hv⟩ : ∃ v, o.mem[(idxS a.name locs).toNat]? = some v := ⟨_, List.getElem?_eq_getElem (by have := (List.getElem?_eq_some_iff.1 k4).1; omega)⟩
    have hc := fun (s : Stk) (g : lookB s 3 3 = some (.cells o.e)) (g' : lookB s 3 5 = some (.cells [strs locs])) => e_h1 a o locs v s hl g g' k3 hv
    simp only [Out.e, ints, Atom.e, strs] at hc
    simp +contextual (maxSteps := 10000000) only [go_sem, ↓reduceIte, Nat.reduceLT, Nat.reduceEqDiff, Nat.reduceAdd, Nat.reduceSub, Nat.reduceMul, Nat.reduceLeDiff, Nat.reduceBEq, reduceCtorEq, Int.reduceAdd, Int.reduceSub, Int.reduceMul, Int.reduceLT, Int.reduceLE, Int.reduceToNat, Int.reduceNeg, Int.reduceEq, Int.reduceNe, UInt8.reduceOfNat, true_and, Atom.e, fr28, File.e, Out.e, ints, strs, hT, mpTy_107, hc]
    simp [holdP, atomV, hT', hv]


set_option maxHeartbeats 2000000 in
set_option maxRecDepth 10000 in
theorem e_idxA (l : List Atom) (z g lv t : Nat) (hz : z = 3 ∨ l = []) (p : Atom → Bool) (stk : Stk) (hl : l.length ≤ maxLen) (hp : ∀ a ∈ l, cl Try.prog an prm g [.agg a.e, .ptr (lv + 1) t 0] ([] :: stk) = some (.bool (p a), [] :: stk)) :
    cl Try.prog an prm 121 [.sl z (l.map Atom.e), .fn g [] [.ptr lv t 0]] stk = some (.int .i64 (firstI p l), stk) := by
  rw [cl_eq rfl Try.func121 rfl _ _ (by simp [Try.f121])]
  simp +contextual (maxSteps := 10000000) only [go_sem, ↓reduceIte, Nat.reduceLT, Nat.reduceEqDiff, Nat.reduceAdd, Nat.reduceSub, Nat.reduceMul, Nat.reduceLeDiff, Nat.reduceBEq, reduceCtorEq, Int.reduceAdd, Int.reduceSub, Int.reduceMul, Int.reduceLT, Int.reduceLE, Int.reduceToNat, Int.reduceNeg, Int.reduceEq, Int.reduceNe, UInt8.reduceOfNat, true_and]
  generalize hE : ev _ _ _ _ (.loop _) _ = E
  revert E
  refine ev_phil l Atom.e (fun i (_ : Unit) => ⟨[(8, .int .i64 i), (7, .int .i64 l.length), (1, .fn g [] [.ptr (lv + 1) t 0]), (0, .sl z (l.map Atom.e))], [] :: stk⟩) (fun i _ => ∀ j x, j < i → l[j]? = some x → p x = false) () hl ?_ (fun j x hj => by omega) ?_ ?_
  · simp +contextual (maxSteps := 10000000) only [go_sem, ↓reduceIte, Nat.reduceLT, Nat.reduceEqDiff, Nat.reduceAdd, Nat.reduceSub, Nat.reduceMul, Nat.reduceLeDiff, Nat.reduceBEq, reduceCtorEq, Int.reduceAdd, Int.reduceSub, Int.reduceMul, Int.reduceLT, Int.reduceLE, Int.reduceToNat, Int.reduceNeg, Int.reduceEq, Int.reduceNe, UInt8.reduceOfNat, true_and]
    rfl
  · intro i x _ hi hx hm hlt h0 hw hI
    obtain rfl : z = 3 := hz.resolve_right (by rintro rfl; simp at hx)
    have hc := hp x (List.mem_iff_getElem?.2 ⟨i, hx⟩)
    simp only [Atom.e] at hc
    cases hE : p x with
    | true =>
      simp +contextual (maxSteps := 10000000) only [go_sem, ↓reduceIte, Nat.reduceLT, Nat.reduceEqDiff, Nat.reduceAdd, Nat.reduceSub, Nat.reduceMul, Nat.reduceLeDiff, Nat.reduceBEq, reduceCtorEq, Int.reduceAdd, Int.reduceSub, Int.reduceMul, Int.reduceLT, Int.reduceLE, Int.reduceToNat, Int.reduceNeg, Int.reduceEq, Int.reduceNe, UInt8.reduceOfNat, true_and, Atom.e, hm, hlt, h0, hw, hc, hE]
      rw [firstI_hit hx hE hI]
    | false =>
      simp +contextual (maxSteps := 10000000) only [go_sem, ↓reduceIte, Nat.reduceLT, Nat.reduceEqDiff, Nat.reduceAdd, Nat.reduceSub, Nat.reduceMul, Nat.reduceLeDiff, Nat.reduceBEq, reduceCtorEq, Int.reduceAdd, Int.reduceSub, Int.reduceMul, Int.reduceLT, Int.reduceLE, Int.reduceToNat, Int.reduceNeg, Int.reduceEq, Int.reduceNe, UInt8.reduceOfNat, true_and, Atom.e, hm, hlt, h0, hw, hc, hE]
      refine ⟨(), rfl, fun j y hj hy => ?_⟩
      rcases Nat.lt_succ_iff_lt_or_eq.1 hj with hj | rfl
      · exact hI j y hj hy
      · rw [hx] at hy
        cases hy
        exact hE
  · intro _ hI
    simp +contextual (maxSteps := 10000000) only [go_sem, ↓reduceIte, Nat.reduceLT, Nat.reduceEqDiff, Nat.reduceAdd, Nat.reduceSub, Nat.reduceMul, Nat.reduceLeDiff, Nat.reduceBEq, reduceCtorEq, Int.reduceAdd, Int.reduceSub, Int.reduceMul, Int.reduceLT, Int.reduceLE, Int.reduceToNat, Int.reduceNeg, Int.reduceEq, Int.reduceNe, UInt8.reduceOfNat, true_and, Int.lt_irrefl]
    rw [firstI_none fun x hm => by
      obtain ⟨i, hi⟩ := List.mem_iff_getElem?.1 hm
      exact hI i x (List.getElem?_eq_some_iff.1 hi).1 hi]
set_option maxHeartbeats 2000000 in
set_option maxRecDepth 10000 in
theorem e_idxO (l : List Out) (z g lv t : Nat) (hz : z = 2 ∨ l = []) (p : Out → Bool) (stk : Stk) (hl : l.length ≤ maxLen) (hp : ∀ a ∈ l, cl Try.prog an prm g [.agg a.e, .ptr (lv + 1) t 0] ([] :: stk) = some (.bool (p a), [] :: stk)) :
    cl Try.prog an prm 122 [.sl z (l.map Out.e), .fn g [] [.ptr lv t 0]] stk = some (.int .i64 (firstI p l), stk) := by
  rw [cl_eq rfl Try.func122 rfl _ _ (by simp [Try.f122])]
  simp +contextual (maxSteps := 10000000) only [go_sem, ↓reduceIte, Nat.reduceLT, Nat.reduceEqDiff, Nat.reduceAdd, Nat.reduceSub, Nat.reduceMul, Nat.reduceLeDiff, Nat.reduceBEq, reduceCtorEq, Int.reduceAdd, Int.reduceSub, Int.reduceMul, Int.reduceLT, Int.reduceLE, Int.reduceToNat, Int.reduceNeg, Int.reduceEq, Int.reduceNe, UInt8.reduceOfNat, true_and]
  generalize hE : ev _ _ _ _ (.loop _) _ = E
  revert E
  refine ev_phil l Out.e (fun i (_ : Unit) => ⟨[(8, .int .i64 i), (7, .int .i64 l.length), (1, .fn g [] [.ptr (lv + 1) t 0]), (0, .sl z (l.map Out.e))], [] :: stk⟩) (fun i _ => ∀ j x, j < i → l[j]? = some x → p x = false) () hl ?_ (fun j x hj => by omega) ?_ ?_
  · simp +contextual (maxSteps := 10000000) only [go_sem, ↓reduceIte, Nat.reduceLT, Nat.reduceEqDiff, Nat.reduceAdd, Nat.reduceSub, Nat.reduceMul, Nat.reduceLeDiff, Nat.reduceBEq, reduceCtorEq, Int.reduceAdd, Int.reduceSub, Int.reduceMul, Int.reduceLT, Int.reduceLE, Int.reduceToNat, Int.reduceNeg, Int.reduceEq, Int.reduceNe, UInt8.reduceOfNat, true_and]
    rfl
  · intro i x _ hi hx hm hlt h0 hw hI
    obtain rfl : z = 2 := hz.resolve_right (by rintro rfl; simp at hx)
    have hc := hp x (List.mem_iff_getElem?.2 ⟨i, hx⟩)
    simp only [Out.e, ints] at hc
    cases hE : p x with
    | true =>
      simp +contextual (maxSteps := 10000000) only [go_sem, ↓reduceIte, Nat.reduceLT, Nat.reduceEqDiff, Nat.reduceAdd, Nat.reduceSub, Nat.reduceMul, Nat.reduceLeDiff, Nat.reduceBEq, reduceCtorEq, Int.reduceAdd, Int.reduceSub, Int.reduceMul, Int.reduceLT, Int.reduceLE, Int.reduceToNat, Int.reduceNeg, Int.reduceEq, Int.reduceNe, UInt8.reduceOfNat, true_and, Out.e, ints, hm, hlt, h0, hw, hc, hE]
      rw [firstI_hit hx hE hI]
    | false =>
      simp +contextual (maxSteps := 10000000) only [go_sem, ↓reduceIte, Nat.reduceLT, Nat.reduceEqDiff, Nat.reduceAdd, Nat.reduceSub, Nat.reduceMul, Nat.reduceLeDiff, Nat.reduceBEq, reduceCtorEq, Int.reduceAdd, Int.reduceSub, Int.reduceMul, Int.reduceLT, Int.reduceLE, Int.reduceToNat, Int.reduceNeg, Int.reduceEq, Int.reduceNe, UInt8.reduceOfNat, true_and, Out.e, ints, hm, hlt, h0, hw, hc, hE]
      refine ⟨(), rfl, fun j y hj hy => ?_⟩
      rcases Nat.lt_succ_iff_lt_or_eq.1 hj with hj | rfl
      · exact hI j y hj hy
      · rw [hx] at hy
        cases hy
        exact hE
  · intro _ hI
    simp +contextual (maxSteps := 10000000) only [go_sem, ↓reduceIte, Nat.reduceLT, Nat.reduceEqDiff, Nat.reduceAdd, Nat.reduceSub, Nat.reduceMul, Nat.reduceLeDiff, Nat.reduceBEq, reduceCtorEq, Int.reduceAdd, Int.reduceSub, Int.reduceMul, Int.reduceLT, Int.reduceLE, Int.reduceToNat, Int.reduceNeg, Int.reduceEq, Int.reduceNe, UInt8.reduceOfNat, true_and, Int.lt_irrefl]
    rw [firstI_none fun x hm => by
      obtain ⟨i, hi⟩ := List.mem_iff_getElem?.1 hm
      exact hI i x (List.getElem?_eq_some_iff.1 hi).1 hi]
set_option maxHeartbeats 2000000 in
set_option maxRecDepth 10000 in
theorem e_conA (l : List Atom) (z g lv t : Nat) (hz : z = 3 ∨ l = []) (p : Atom → Bool) (stk : Stk) (hl : l.length ≤ maxLen) (hp : ∀ a ∈ l, cl Try.prog an prm g [.agg a.e, .ptr (lv + 1 + 1) t 0] ([] :: [] :: stk) = some (.bool (p a), [] :: [] :: stk)) :
    cl Try.prog an prm 73 [.sl z (l.map Atom.e), .fn g [] [.ptr lv t 0]] stk = some (.bool (l.any p), stk) := by
  rw [cl_eq rfl Try.func73 rfl _ _ (by simp [Try.f73])]
  have hi := e_idxA l z g (lv + 1) t hz p ([] :: stk) hl hp
  simp +contextual (maxSteps := 10000000) only [go_sem, ↓reduceIte, Nat.reduceLT, Nat.reduceEqDiff, Nat.reduceAdd, Nat.reduceSub, Nat.reduceMul, Nat.reduceLeDiff, Nat.reduceBEq, reduceCtorEq, Int.reduceAdd, Int.reduceSub, Int.reduceMul, Int.reduceLT, Int.reduceLE, Int.reduceToNat, Int.reduceNeg, Int.reduceEq, Int.reduceNe, UInt8.reduceOfNat, true_and, hi]
  rw [firstI_any]
set_option maxHeartbeats 2000000 in
set_option maxRecDepth 10000 in
theorem e_conO (l : List Out) (z g lv t : Nat) (hz : z = 2 ∨ l = []) (p : Out → Bool) (stk : Stk) (hl : l.length ≤ maxLen) (hp : ∀ a ∈ l, cl Try.prog an prm g [.agg a.e, .ptr (lv + 1 + 1) t 0] ([] :: [] :: stk) = some (.bool (p a), [] :: [] :: stk)) :
    cl Try.prog an prm 77 [.sl z (l.map Out.e), .fn g [] [.ptr lv t 0]] stk = some (.bool (l.any p), stk) := by
  rw [cl_eq rfl Try.func77 rfl _ _ (by simp [Try.f77])]
  have hi := e_idxO l z g (lv + 1) t hz p ([] :: stk) hl hp
  simp +contextual (maxSteps := 10000000) only [go_sem, ↓reduceIte, Nat.reduceLT, Nat.reduceEqDiff, Nat.reduceAdd, Nat.reduceSub, Nat.reduceMul, Nat.reduceLeDiff, Nat.reduceBEq, reduceCtorEq, Int.reduceAdd, Int.reduceSub, Int.reduceMul, Int.reduceLT, Int.reduceLE, Int.reduceToNat, Int.reduceNeg, Int.reduceEq, Int.reduceNe, UInt8.reduceOfNat, true_and, hi]
  rw [firstI_any]

set_option maxHeartbeats 2000000 in
set_option maxRecDepth 10000 in
theorem e_holds (f : File) (o : Out) (stk : Stk) (hf : f.Fit) (ho : o.Fit) (hn : (namesR f).length ≤ 500000) (ht : f.threads.length ≤ 100) (hr : rightB f = true) : cl Try.prog an prm 28 [.agg f.e, .agg o.e] stk = some (.bool (holdsB f o), stk) := by
  rw [cl_eq rfl Try.func28 rfl _ _ (by simp [Try.f28])]
  have hlo := fun stk => e_flocs f stk hf hn
  have hw : IntKind.i64.wrap (4 * (f.threads.length : Int)) = 4 * (f.threads.length : Int) := wrap_i64 (by omega) (by omega)
  have hll : (locsB f).length ≤ maxLen := by
    obtain ⟨h1, _, h3, h4⟩ := (right_iff f).1 hr
    rw [locsB, if_pos hr]
    unfold maxLen
    omega
  simp only [File.e, strs] at hlo
  cases h1 : decide ((o.mem.length : Int) = ((locsB f).length : Int)) with
  | false =>
    simp +contextual (maxSteps := 10000000) only [go_sem, ↓reduceIte, Nat.reduceLT, Nat.reduceEqDiff, Nat.reduceAdd, Nat.reduceSub, Nat.reduceMul, Nat.reduceLeDiff, Nat.reduceBEq, reduceCtorEq, Int.reduceAdd, Int.reduceSub, Int.reduceMul, Int.reduceLT, Int.reduceLE, Int.reduceToNat, Int.reduceNeg, Int.reduceEq, Int.reduceNe, UInt8.reduceOfNat, true_and, File.e, Out.e, ints, hlo, hw, h1]
    have : fitsB f o = false := by simp at h1; simp [fitsB]; omega
    simp [holdsB, this]
  | true =>
  cases h2 : decide ((o.regs.length : Int) = 4 * (f.threads.length : Int)) with
  | false =>
    simp +contextual (maxSteps := 10000000) only [go_sem, ↓reduceIte, Nat.reduceLT, Nat.reduceEqDiff, Nat.reduceAdd, Nat.reduceSub, Nat.reduceMul, Nat.reduceLeDiff, Nat.reduceBEq, reduceCtorEq, Int.reduceAdd, Int.reduceSub, Int.reduceMul, Int.reduceLT, Int.reduceLE, Int.reduceToNat, Int.reduceNeg, Int.reduceEq, Int.reduceNe, UInt8.reduceOfNat, true_and, File.e, Out.e, ints, hlo, hw, h1, h2]
    have : fitsB f o = false := by simp at h1 h2; simp [fitsB]; omega
    simp [holdsB, this]
  | true =>
    have hfit : fitsB f o = true := by simp at h1 h2; simp [fitsB]; omega
    have hc := e_conA f.cond 3 74 0 6 (.inl rfl) (fun a => !holdP (locsB f) o a) (fr28 f o (locsB f) :: stk) hf.cond.1 (fun a ha => e_h3 f a o (locsB f) stk hll (atomV_some hr hfit ha).1 (atomV_some hr hfit ha).2)
    simp only [fr28, File.e, Out.e, ints, strs] at hc
    simp +contextual (maxSteps := 10000000) only [go_sem, ↓reduceIte, Nat.reduceLT, Nat.reduceEqDiff, Nat.reduceAdd, Nat.reduceSub, Nat.reduceMul, Nat.reduceLeDiff, Nat.reduceBEq, reduceCtorEq, Int.reduceAdd, Int.reduceSub, Int.reduceMul, Int.reduceLT, Int.reduceLE, Int.reduceToNat, Int.reduceNeg, Int.reduceEq, Int.reduceNe, UInt8.reduceOfNat, true_and, File.e, Out.e, ints, hlo, hw, h1, h2, mpTy_107, V.atom, hc]
    rw [holdsB, hfit, Bool.true_and, List.all_eq_not_any_not]
end Go.Proofs.Ytcecleclipcheaa

set_option linter.unusedVariables false
set_option linter.unusedSimpArgs false
namespace Go.Proofs.Ytcecleclipcheaa
open Go Go.Shade Go.Fence
attribute [local congr] ite_congr

set_option maxHeartbeats 2000000 in
set_option maxRecDepth 10000 in
theorem e_v1 (f : File) (o : Out) (r : Stk) (hf : f.Fit) (ho : o.Fit) (hn : (namesR f).length ≤ 500000) (ht : f.threads.length ≤ 100) (hr : rightB f = true) :
    cl Try.prog an prm 76 [.agg o.e, .ptr 2 2 0] ([] :: [] :: [(2, .cells f.e)] :: r) = some (.bool (holdsB f o == !f.all), [] :: [] :: [(2, .cells f.e)] :: r) := by
  rw [cl_eq rfl Try.func76 rfl _ _ (by simp [Try.f76])]
  have hh := fun stk => e_holds f o stk hf ho hn ht hr
  simp only [File.e, Out.e, ints] at hh
  simp +contextual (maxSteps := 10000000) only [go_sem, ↓reduceIte, Nat.reduceLT, Nat.reduceEqDiff, Nat.reduceAdd, Nat.reduceSub, Nat.reduceMul, Nat.reduceLeDiff, Nat.reduceBEq, reduceCtorEq, Int.reduceAdd, Int.reduceSub, Int.reduceMul, Int.reduceLT, Int.reduceLE, Int.reduceToNat, Int.reduceNeg, Int.reduceEq, Int.reduceNe, UInt8.reduceOfNat, true_and, File.e, Out.e, ints, hh]
set_option maxHeartbeats 2000000 in
set_option maxRecDepth 10000 in
theorem e_valueZ (z : Nat) (f : File) (l : List Out) (stk : Stk) (hz : z = 2 ∨ l = []) (hf : f.Fit) (hl : l.length ≤ maxLen ∧ ∀ o ∈ l, o.Fit) (hn : (namesR f).length ≤ 500000) (ht : f.threads.length ≤ 100) (hr : rightB f = true) :
    cl Try.prog an prm 30 [.agg f.e, .sl z (l.map Out.e)] stk = some (.bool (valueB f l), stk) := by
  rw [cl_eq rfl Try.func30 rfl _ _ (by simp [Try.f30])]
  have hc := fun r => e_conO l z 76 0 2 hz (fun o => holdsB f o == !f.all) ([(2, .cells f.e)] :: r) hl.1 (fun o ho => e_v1 f o r hf (hl.2 o ho) hn ht hr)
  simp only [File.e] at hc
  simp +contextual (maxSteps := 10000000) only [go_sem, ↓reduceIte, Nat.reduceLT, Nat.reduceEqDiff, Nat.reduceAdd, Nat.reduceSub, Nat.reduceMul, Nat.reduceLeDiff, Nat.reduceBEq, reduceCtorEq, Int.reduceAdd, Int.reduceSub, Int.reduceMul, Int.reduceLT, Int.reduceLE, Int.reduceToNat, Int.reduceNeg, Int.reduceEq, Int.reduceNe, UInt8.reduceOfNat, true_and, File.e, hc]
  rfl

theorem e_value (f : File) (l : List Out) (stk : Stk) (hf : f.Fit) (hl : l.length ≤ maxLen ∧ ∀ o ∈ l, o.Fit) (hn : (namesR f).length ≤ 500000) (ht : f.threads.length ≤ 100) (hr : rightB f = true) :
    cl Try.prog an prm 30 [.agg f.e, .sl 2 (l.map Out.e)] stk = some (.bool (valueB f l), stk) := e_valueZ 2 f l stk (.inl rfl) hf hl hn ht hr

set_option maxHeartbeats 2000000 in
set_option maxRecDepth 10000 in
theorem e_greatL (o n : Int) (r c b : ByteArray) (stk : Stk) : cl Try.prog an prm 47 [.agg [.int .i64 o, .str r, .str c, .str b, .int .i64 n]] stk = some (.bool (greatL ⟨o, r, c, b, n⟩), stk) := by
  rw [cl_eq rfl Try.func47 rfl _ _ (by simp [Try.f47])]
  simp +contextual (maxSteps := 10000000) only [go_sem, ↓reduceIte, Nat.reduceLT, Nat.reduceEqDiff, Nat.reduceAdd, Nat.reduceSub, Nat.reduceMul, Nat.reduceLeDiff, Nat.reduceBEq, reduceCtorEq, Int.reduceAdd, Int.reduceSub, Int.reduceMul, Int.reduceLT, Int.reduceLE, Int.reduceToNat, Int.reduceNeg, Int.reduceEq, Int.reduceNe, UInt8.reduceOfNat, true_and]
  simp only [greatL, Bool.or_assoc]

set_option maxHeartbeats 2000000 in
set_option maxRecDepth 10000 in
theorem e_big (l : List Out) (stk : Stk) (hl : l.length ≤ maxLen) : cl Try.prog an prm 27 [.sl 2 (l.map Out.e)] stk = some (.bool (bigB l), stk) := by
  rw [cl_eq rfl Try.func27 rfl _ _ (by simp [Try.f27])]
  cases h150 : decide ((150 : Int) < (l.length : Int)) with
  | true =>
    simp +contextual (maxSteps := 10000000) only [go_sem, ↓reduceIte, Nat.reduceLT, Nat.reduceEqDiff, Nat.reduceAdd, Nat.reduceSub, Nat.reduceMul, Nat.reduceLeDiff, Nat.reduceBEq, reduceCtorEq, Int.reduceAdd, Int.reduceSub, Int.reduceMul, Int.reduceLT, Int.reduceLE, Int.reduceToNat, Int.reduceNeg, Int.reduceEq, Int.reduceNe, UInt8.reduceOfNat, true_and, h150]
    simp [bigB, h150]
  | false =>
  simp +contextual (maxSteps := 10000000) only [go_sem, ↓reduceIte, Nat.reduceLT, Nat.reduceEqDiff, Nat.reduceAdd, Nat.reduceSub, Nat.reduceMul, Nat.reduceLeDiff, Nat.reduceBEq, reduceCtorEq, Int.reduceAdd, Int.reduceSub, Int.reduceMul, Int.reduceLT, Int.reduceLE, Int.reduceToNat, Int.reduceNeg, Int.reduceEq, Int.reduceNe, UInt8.reduceOfNat, true_and, h150]
  generalize hE : ev _ _ _ _ (.loop _) _ = E
  revert E
  refine ev_phil l Out.e (fun i (_ : Unit) => ⟨[(3, .int .i64 i), (0, .sl 2 (l.map Out.e))], [] :: stk⟩) (fun i _ => ∀ o ∈ l.take i, (decide (100 < (o.mem.length : Int)) || decide (100 < (o.regs.length : Int))) = false) () hl ?_ (by simp) ?_ ?_
  · simp +contextual (maxSteps := 10000000) only [go_sem, ↓reduceIte, Nat.reduceLT, Nat.reduceEqDiff, Nat.reduceAdd, Nat.reduceSub, Nat.reduceMul, Nat.reduceLeDiff, Nat.reduceBEq, reduceCtorEq, Int.reduceAdd, Int.reduceSub, Int.reduceMul, Int.reduceLT, Int.reduceLE, Int.reduceToNat, Int.reduceNeg, Int.reduceEq, Int.reduceNe, UInt8.reduceOfNat, true_and]
    rfl
  · intro i x _ hi hx hm hlt h0 hw hI
    have hbig : (decide (100 < (x.mem.length : Int)) || decide (100 < (x.regs.length : Int))) = true → bigB l = true := fun hE => by
      rw [bigB, List.any_eq_true.2 ⟨x, List.mem_iff_getElem?.2 ⟨i, hx⟩, hE⟩, Bool.or_true]
    have hgo : (decide (100 < (x.mem.length : Int)) || decide (100 < (x.regs.length : Int))) = false → ∀ o ∈ l.take (i + 1), (decide (100 < (o.mem.length : Int)) || decide (100 < (o.regs.length : Int))) = false := fun hE o ho => by
      rw [take_snoc hx] at ho
      rcases List.mem_append.1 ho with ho | ho
      · exact hI o ho
      · simp at ho; subst ho; exact hE
    cases h1 : decide (100 < (x.mem.length : Int)) with
    | true =>
      simp +contextual (maxSteps := 10000000) only [go_sem, ↓reduceIte, Nat.reduceLT, Nat.reduceEqDiff, Nat.reduceAdd, Nat.reduceSub, Nat.reduceMul, Nat.reduceLeDiff, Nat.reduceBEq, reduceCtorEq, Int.reduceAdd, Int.reduceSub, Int.reduceMul, Int.reduceLT, Int.reduceLE, Int.reduceToNat, Int.reduceNeg, Int.reduceEq, Int.reduceNe, UInt8.reduceOfNat, true_and, Out.e, ints, hm, hlt, h0, hw, h1]
      rw [hbig (by simp [h1])]
    | false =>
    cases h2 : decide (100 < (x.regs.length : Int)) with
    | true =>
      simp +contextual (maxSteps := 10000000) only [go_sem, ↓reduceIte, Nat.reduceLT, Nat.reduceEqDiff, Nat.reduceAdd, Nat.reduceSub, Nat.reduceMul, Nat.reduceLeDiff, Nat.reduceBEq, reduceCtorEq, Int.reduceAdd, Int.reduceSub, Int.reduceMul, Int.reduceLT, Int.reduceLE, Int.reduceToNat, Int.reduceNeg, Int.reduceEq, Int.reduceNe, UInt8.reduceOfNat, true_and, Out.e, ints, hm, hlt, h0, hw, h1, h2]
      rw [hbig (by simp [h2])]
    | false =>
      simp +contextual (maxSteps := 10000000) only [go_sem, ↓reduceIte, Nat.reduceLT, Nat.reduceEqDiff, Nat.reduceAdd, Nat.reduceSub, Nat.reduceMul, Nat.reduceLeDiff, Nat.reduceBEq, reduceCtorEq, Int.reduceAdd, Int.reduceSub, Int.reduceMul, Int.reduceLT, Int.reduceLE, Int.reduceToNat, Int.reduceNeg, Int.reduceEq, Int.reduceNe, UInt8.reduceOfNat, true_and, Out.e, ints, hm, hlt, h0, hw, h1, h2]
      exact ⟨(), hgo (by simp [h1, h2])⟩
  · intro _ hI
    rw [List.take_length] at hI
    simp +contextual (maxSteps := 10000000) only [go_sem, ↓reduceIte, Nat.reduceLT, Nat.reduceEqDiff, Nat.reduceAdd, Nat.reduceSub, Nat.reduceMul, Nat.reduceLeDiff, Nat.reduceBEq, reduceCtorEq, Int.reduceAdd, Int.reduceSub, Int.reduceMul, Int.reduceLT, Int.reduceLE, Int.reduceToNat, Int.reduceNeg, Int.reduceEq, Int.reduceNe, UInt8.reduceOfNat, true_and, Int.lt_irrefl]
    rw [bigB, h150, List.any_eq_false.2 fun o ho => by simp [hI o ho], Bool.or_false]
end Go.Proofs.Ytcecleclipcheaa

set_option linter.unusedVariables false
set_option linter.unusedSimpArgs false
namespace Go.Proofs.Ytcecleclipcheaa
open Go Go.Shade Go.Fence
attribute [local congr] ite_congr

theorem great_i {f : File} {i : Nat} {c : Cell} (hx : f.init[i]? = some c) (h : decide (100 < (c.loc.size : Int)) = true) : greatB f = true := by
  have : f.init.any (fun c => decide (100 < (c.loc.size : Int))) = true := List.any_eq_true.2 ⟨c, List.mem_iff_getElem?.2 ⟨i, hx⟩, h⟩
  simp only [greatB, this, Bool.or_true, Bool.true_or]
theorem great_c {f : File} {i : Nat} {c : Atom} (hx : f.cond[i]? = some c) (h : decide (100 < (c.name.size : Int)) = true) : greatB f = true := by
  have : f.cond.any (fun c => decide (100 < (c.name.size : Int))) = true := List.any_eq_true.2 ⟨c, List.mem_iff_getElem?.2 ⟨i, hx⟩, h⟩
  simp only [greatB, this, Bool.or_true, Bool.true_or]
theorem great_t {f : File} {i : Nat} {t : List Line} (hx : f.threads[i]? = some t) (h : (decide (100 < (t.length : Int)) || t.any greatL) = true) : greatB f = true := by
  have : f.threads.any (fun t => decide (100 < (t.length : Int)) || t.any greatL) = true := List.any_eq_true.2 ⟨t, List.mem_iff_getElem?.2 ⟨i, hx⟩, h⟩
  simp only [greatB, this, Bool.or_true, Bool.true_or]
/-- one more of which something does not hold -/
theorem none_more {α : Type} {p : α → Bool} {l : List α} {i : Nat} {x : α} (hx : l[i]? = some x) (hI : ∀ c ∈ l.take i, p c = false) (h : p x = false) : ∀ c ∈ l.take (i + 1), p c = false := by
  intro c hc
  rw [take_snoc hx] at hc
  rcases List.mem_append.1 hc with hc | hc
  · exact hI c hc
  · simp at hc; subst hc; exact h
theorem any_none {α : Type} {p : α → Bool} {l : List α} (h : ∀ c ∈ l, p c = false) : l.any p = false := List.any_eq_false.2 fun o ho => by simp [h o ho]

set_option maxHeartbeats 4000000 in
set_option maxRecDepth 10000 in
theorem e_great (f : File) (stk : Stk) : cl Try.prog an prm 36 [.agg f.e] stk = some (.bool (greatB f), stk) := by
  rw [cl_eq rfl Try.func36 rfl _ _ (by simp [Try.f36])]
  cases g1 : decide ((9 : Int) < (f.threads.length : Int)) with
  | true =>
    simp +contextual (maxSteps := 10000000) only [go_sem, ↓reduceIte, Nat.reduceLT, Nat.reduceEqDiff, Nat.reduceAdd, Nat.reduceSub, Nat.reduceMul, Nat.reduceLeDiff, Nat.reduceBEq, reduceCtorEq, Int.reduceAdd, Int.reduceSub, Int.reduceMul, Int.reduceLT, Int.reduceLE, Int.reduceToNat, Int.reduceNeg, Int.reduceEq, Int.reduceNe, UInt8.reduceOfNat, true_and, File.e, g1]
    simp [greatB, g1]
  | false =>
  cases g2 : decide ((60 : Int) < (f.init.length : Int)) with
  | true =>
    simp +contextual (maxSteps := 10000000) only [go_sem, ↓reduceIte, Nat.reduceLT, Nat.reduceEqDiff, Nat.reduceAdd, Nat.reduceSub, Nat.reduceMul, Nat.reduceLeDiff, Nat.reduceBEq, reduceCtorEq, Int.reduceAdd, Int.reduceSub, Int.reduceMul, Int.reduceLT, Int.reduceLE, Int.reduceToNat, Int.reduceNeg, Int.reduceEq, Int.reduceNe, UInt8.reduceOfNat, true_and, File.e, g1, g2]
    simp [greatB, g2]
  | false =>
  cases g3 : decide ((60 : Int) < (f.cond.length : Int)) with
  | true =>
    simp +contextual (maxSteps := 10000000) only [go_sem, ↓reduceIte, Nat.reduceLT, Nat.reduceEqDiff, Nat.reduceAdd, Nat.reduceSub, Nat.reduceMul, Nat.reduceLeDiff, Nat.reduceBEq, reduceCtorEq, Int.reduceAdd, Int.reduceSub, Int.reduceMul, Int.reduceLT, Int.reduceLE, Int.reduceToNat, Int.reduceNeg, Int.reduceEq, Int.reduceNe, UInt8.reduceOfNat, true_and, File.e, g1, g2, g3]
    simp [greatB, g3]
  | false =>
  cases g4 : decide ((1000 : Int) < (f.name.size : Int)) with
  | true =>
    simp +contextual (maxSteps := 10000000) only [go_sem, ↓reduceIte, Nat.reduceLT, Nat.reduceEqDiff, Nat.reduceAdd, Nat.reduceSub, Nat.reduceMul, Nat.reduceLeDiff, Nat.reduceBEq, reduceCtorEq, Int.reduceAdd, Int.reduceSub, Int.reduceMul, Int.reduceLT, Int.reduceLE, Int.reduceToNat, Int.reduceNeg, Int.reduceEq, Int.reduceNe, UInt8.reduceOfNat, true_and, File.e, g1, g2, g3, g4]
    simp [greatB, g4]
  | false =>
  have n1 : f.threads.length ≤ 9 := by simp at g1; omega
  have n2 : f.init.length ≤ 60 := by simp at g2; omega
  have n3 : f.cond.length ≤ 60 := by simp at g3; omega
  simp +contextual (maxSteps := 10000000) only [go_sem, ↓reduceIte, Nat.reduceLT, Nat.reduceEqDiff, Nat.reduceAdd, Nat.reduceSub, Nat.reduceMul, Nat.reduceLeDiff, Nat.reduceBEq, reduceCtorEq, Int.reduceAdd, Int.reduceSub, Int.reduceMul, Int.reduceLT, Int.reduceLE, Int.reduceToNat, Int.reduceNeg, Int.reduceEq, Int.reduceNe, UInt8.reduceOfNat, true_and, File.e, g1, g2, g3, g4]
  generalize hE : ev _ _ _ _ (.loop _) _ = E
  revert E
  refine ev_phil f.init Cell.e (fun i (_ : Unit) => ⟨[(3, .int .i64 i), (1, .ptr 0 1 0)], [(1, .cells f.e)] :: stk⟩) (fun i _ => ∀ c ∈ f.init.take i, decide (100 < (c.loc.size : Int)) = false) () (by omega) ?_ (by simp) ?_ ?_
  · simp +contextual (maxSteps := 10000000) only [go_sem, ↓reduceIte, Nat.reduceLT, Nat.reduceEqDiff, Nat.reduceAdd, Nat.reduceSub, Nat.reduceMul, Nat.reduceLeDiff, Nat.reduceBEq, reduceCtorEq, Int.reduceAdd, Int.reduceSub, Int.reduceMul, Int.reduceLT, Int.reduceLE, Int.reduceToNat, Int.reduceNeg, Int.reduceEq, Int.reduceNe, UInt8.reduceOfNat, true_and, File.e]
    rfl
  · intro i x _ hi hx hm hlt h0 hw hI
    cases h1 : decide (100 < (x.loc.size : Int)) with
    | true =>
      simp +contextual (maxSteps := 10000000) only [go_sem, ↓reduceIte, Nat.reduceLT, Nat.reduceEqDiff, Nat.reduceAdd, Nat.reduceSub, Nat.reduceMul, Nat.reduceLeDiff, Nat.reduceBEq, reduceCtorEq, Int.reduceAdd, Int.reduceSub, Int.reduceMul, Int.reduceLT, Int.reduceLE, Int.reduceToNat, Int.reduceNeg, Int.reduceEq, Int.reduceNe, UInt8.reduceOfNat, true_and, File.e, Cell.e, hm, hlt, h0, hw, h1]
      rw [great_i hx h1]
    | false =>
      simp +contextual (maxSteps := 10000000) only [go_sem, ↓reduceIte, Nat.reduceLT, Nat.reduceEqDiff, Nat.reduceAdd, Nat.reduceSub, Nat.reduceMul, Nat.reduceLeDiff, Nat.reduceBEq, reduceCtorEq, Int.reduceAdd, Int.reduceSub, Int.reduceMul, Int.reduceLT, Int.reduceLE, Int.reduceToNat, Int.reduceNeg, Int.reduceEq, Int.reduceNe, UInt8.reduceOfNat, true_and, File.e, Cell.e, hm, hlt, h0, hw, h1]
      exact ⟨(), none_more hx hI h1⟩
  intro _ hI1
  rw [List.take_length] at hI1
  simp +contextual (maxSteps := 10000000) only [go_sem, ↓reduceIte, Nat.reduceLT, Nat.reduceEqDiff, Nat.reduceAdd, Nat.reduceSub, Nat.reduceMul, Nat.reduceLeDiff, Nat.reduceBEq, reduceCtorEq, Int.reduceAdd, Int.reduceSub, Int.reduceMul, Int.reduceLT, Int.reduceLE, Int.reduceToNat, Int.reduceNeg, Int.reduceEq, Int.reduceNe, UInt8.reduceOfNat, true_and, File.e, Int.lt_irrefl]
  generalize hE : ev _ _ _ _ (.loop _) _ = E
  revert E
  refine ev_phil f.cond Atom.e (fun i (_ : Unit) => ⟨[(4, .int .i64 i), (1, .ptr 0 1 0)], [(1, .cells f.e)] :: stk⟩) (fun i _ => ∀ c ∈ f.cond.take i, decide (100 < (c.name.size : Int)) = false) () (by omega) ?_ (by simp) ?_ ?_
  · simp +contextual (maxSteps := 10000000) only [go_sem, ↓reduceIte, Nat.reduceLT, Nat.reduceEqDiff, Nat.reduceAdd, Nat.reduceSub, Nat.reduceMul, Nat.reduceLeDiff, Nat.reduceBEq, reduceCtorEq, Int.reduceAdd, Int.reduceSub, Int.reduceMul, Int.reduceLT, Int.reduceLE, Int.reduceToNat, Int.reduceNeg, Int.reduceEq, Int.reduceNe, UInt8.reduceOfNat, true_and, File.e]
    rfl
  · intro i x _ hi hx hm hlt h0 hw hI
    cases h1 : decide (100 < (x.name.size : Int)) with
    | true =>
      simp +contextual (maxSteps := 10000000) only [go_sem, ↓reduceIte, Nat.reduceLT, Nat.reduceEqDiff, Nat.reduceAdd, Nat.reduceSub, Nat.reduceMul, Nat.reduceLeDiff, Nat.reduceBEq, reduceCtorEq, Int.reduceAdd, Int.reduceSub, Int.reduceMul, Int.reduceLT, Int.reduceLE, Int.reduceToNat, Int.reduceNeg, Int.reduceEq, Int.reduceNe, UInt8.reduceOfNat, true_and, File.e, Atom.e, hm, hlt, h0, hw, h1]
      rw [great_c hx h1]
    | false =>
      simp +contextual (maxSteps := 10000000) only [go_sem, ↓reduceIte, Nat.reduceLT, Nat.reduceEqDiff, Nat.reduceAdd, Nat.reduceSub, Nat.reduceMul, Nat.reduceLeDiff, Nat.reduceBEq, reduceCtorEq, Int.reduceAdd, Int.reduceSub, Int.reduceMul, Int.reduceLT, Int.reduceLE, Int.reduceToNat, Int.reduceNeg, Int.reduceEq, Int.reduceNe, UInt8.reduceOfNat, true_and, File.e, Atom.e, hm, hlt, h0, hw, h1]
      exact ⟨(), none_more hx hI h1⟩
  intro _ hI2
  rw [List.take_length] at hI2
  simp +contextual (maxSteps := 10000000) only [go_sem, ↓reduceIte, Nat.reduceLT, Nat.reduceEqDiff, Nat.reduceAdd, Nat.reduceSub, Nat.reduceMul, Nat.reduceLeDiff, Nat.reduceBEq, reduceCtorEq, Int.reduceAdd, Int.reduceSub, Int.reduceMul, Int.reduceLT, Int.reduceLE, Int.reduceToNat, Int.reduceNeg, Int.reduceEq, Int.reduceNe, UInt8.reduceOfNat, true_and, File.e, Int.lt_irrefl]
  generalize hE : ev _ _ _ _ (.loop _) _ = E
  revert E
  refine ev_phil f.threads thr (fun i (_ : Unit) => ⟨[(5, .int .i64 i), (1, .ptr 0 1 0)], [(1, .cells f.e)] :: stk⟩) (fun i _ => ∀ t ∈ f.threads.take i, (decide (100 < (t.length : Int)) || t.any greatL) = false) () (by omega) ?_ (by simp) ?_ ?_
  · simp +contextual (maxSteps := 10000000) only [go_sem, ↓reduceIte, Nat.reduceLT, Nat.reduceEqDiff, Nat.reduceAdd, Nat.reduceSub, Nat.reduceMul, Nat.reduceLeDiff, Nat.reduceBEq, reduceCtorEq, Int.reduceAdd, Int.reduceSub, Int.reduceMul, Int.reduceLT, Int.reduceLE, Int.reduceToNat, Int.reduceNeg, Int.reduceEq, Int.reduceNe, UInt8.reduceOfNat, true_and, File.e]
    rfl
  · intro i t _ hi hx hm hlt h0 hw hI
    cases h1 : decide (100 < (t.length : Int)) with
    | true =>
      simp +contextual (maxSteps := 10000000) only [go_sem, ↓reduceIte, Nat.reduceLT, Nat.reduceEqDiff, Nat.reduceAdd, Nat.reduceSub, Nat.reduceMul, Nat.reduceLeDiff, Nat.reduceBEq, reduceCtorEq, Int.reduceAdd, Int.reduceSub, Int.reduceMul, Int.reduceLT, Int.reduceLE, Int.reduceToNat, Int.reduceNeg, Int.reduceEq, Int.reduceNe, UInt8.reduceOfNat, true_and, File.e, thr, hm, hlt, h0, hw, h1]
      rw [great_t hx (by simp [h1])]
    | false =>
      have n4 : t.length ≤ 100 := by simp at h1; omega
      simp +contextual (maxSteps := 10000000) only [go_sem, ↓reduceIte, Nat.reduceLT, Nat.reduceEqDiff, Nat.reduceAdd, Nat.reduceSub, Nat.reduceMul, Nat.reduceLeDiff, Nat.reduceBEq, reduceCtorEq, Int.reduceAdd, Int.reduceSub, Int.reduceMul, Int.reduceLT, Int.reduceLE, Int.reduceToNat, Int.reduceNeg, Int.reduceEq, Int.reduceNe, UInt8.reduceOfNat, true_and, File.e, thr, hm, hlt, h0, hw, h1]
      generalize hE : ev _ _ _ _ (.loop _) _ = E
      revert E
      refine ev_phil t Line.e (fun j (_ : Unit) => ⟨[(6, .int .i64 j), (5, .int .i64 i), (1, .ptr 0 1 0)], [(1, .cells f.e)] :: stk⟩) (fun j _ => ∀ x ∈ t.take j, greatL x = false) () (by omega) ?_ (by simp) ?_ ?_
      · simp +contextual (maxSteps := 10000000) only [go_sem, ↓reduceIte, Nat.reduceLT, Nat.reduceEqDiff, Nat.reduceAdd, Nat.reduceSub, Nat.reduceMul, Nat.reduceLeDiff, Nat.reduceBEq, reduceCtorEq, Int.reduceAdd, Int.reduceSub, Int.reduceMul, Int.reduceLT, Int.reduceLE, Int.reduceToNat, Int.reduceNeg, Int.reduceEq, Int.reduceNe, UInt8.reduceOfNat, true_and, File.e]
        rfl
      · intro j x _ hj hxj hmj hltj h0j hwj hJ
        have hc := fun stk => e_greatL x.op x.n x.reg x.loc x.label stk
        cases h2 : greatL x with
        | true =>
          simp +contextual (maxSteps := 10000000) only [go_sem, ↓reduceIte, Nat.reduceLT, Nat.reduceEqDiff, Nat.reduceAdd, Nat.reduceSub, Nat.reduceMul, Nat.reduceLeDiff, Nat.reduceBEq, reduceCtorEq, Int.reduceAdd, Int.reduceSub, Int.reduceMul, Int.reduceLT, Int.reduceLE, Int.reduceToNat, Int.reduceNeg, Int.reduceEq, Int.reduceNe, UInt8.reduceOfNat, true_and, File.e, thr, Line.e, hm, hlt, h0, hw, hmj, hltj, h0j, hwj, hc, h2]
          rw [great_t hx (by rw [List.any_eq_true.2 ⟨x, List.mem_iff_getElem?.2 ⟨j, hxj⟩, h2⟩, Bool.or_true])]
        | false =>
          simp +contextual (maxSteps := 10000000) only [go_sem, ↓reduceIte, Nat.reduceLT, Nat.reduceEqDiff, Nat.reduceAdd, Nat.reduceSub, Nat.reduceMul, Nat.reduceLeDiff, Nat.reduceBEq, reduceCtorEq, Int.reduceAdd, Int.reduceSub, Int.reduceMul, Int.reduceLT, Int.reduceLE, Int.reduceToNat, Int.reduceNeg, Int.reduceEq, Int.reduceNe, UInt8.reduceOfNat, true_and, File.e, thr, Line.e, hm, hlt, h0, hw, hmj, hltj, h0j, hwj, hc, h2]
          exact ⟨(), none_more hxj hJ h2⟩
      · intro _ hJ
        rw [List.take_length] at hJ
        simp +contextual (maxSteps := 10000000) only [go_sem, ↓reduceIte, Nat.reduceLT, Nat.reduceEqDiff, Nat.reduceAdd, Nat.reduceSub, Nat.reduceMul, Nat.reduceLeDiff, Nat.reduceBEq, reduceCtorEq, Int.reduceAdd, Int.reduceSub, Int.reduceMul, Int.reduceLT, Int.reduceLE, Int.reduceToNat, Int.reduceNeg, Int.reduceEq, Int.reduceNe, UInt8.reduceOfNat, true_and, File.e, thr, hm, hlt, h0, hw, Int.lt_irrefl]
        exact ⟨(), none_more hx hI (by rw [h1, any_none hJ]; rfl)⟩
  intro _ hI3
  rw [List.take_length] at hI3
  simp +contextual (maxSteps := 10000000) only [go_sem, ↓reduceIte, Nat.reduceLT, Nat.reduceEqDiff, Nat.reduceAdd, Nat.reduceSub, Nat.reduceMul, Nat.reduceLeDiff, Nat.reduceBEq, reduceCtorEq, Int.reduceAdd, Int.reduceSub, Int.reduceMul, Int.reduceLT, Int.reduceLE, Int.reduceToNat, Int.reduceNeg, Int.reduceEq, Int.reduceNe, UInt8.reduceOfNat, true_and, File.e, Int.lt_irrefl]
  simp only [greatB, g1, g2, g3, g4, any_none hI1, any_none hI2, any_none hI3, Bool.or_false]

set_option maxHeartbeats 4000000 in
set_option maxRecDepth 10000 in
theorem e_greatC (f : File) (l : List Out) (stk : Stk) (hf : f.Fit) (hl : l.length ≤ maxLen) : cl Try.prog an prm 26 [.agg f.e, .sl 2 (l.map Out.e)] stk = some (.bool (greatB f || (!rightB f || bigB l)), stk) := by
  rw [cl_eq rfl Try.func26 rfl _ _ (by simp [Try.f26])]
  have hg := fun stk => e_great f stk
  have hb := fun stk => e_big l stk hl
  simp only [File.e] at hg
  cases g1 : greatB f with
  | true =>
    simp +contextual (maxSteps := 10000000) only [go_sem, ↓reduceIte, Nat.reduceLT, Nat.reduceEqDiff, Nat.reduceAdd, Nat.reduceSub, Nat.reduceMul, Nat.reduceLeDiff, Nat.reduceBEq, reduceCtorEq, Int.reduceAdd, Int.reduceSub, Int.reduceMul, Int.reduceLT, Int.reduceLE, Int.reduceToNat, Int.reduceNeg, Int.reduceEq, Int.reduceNe, UInt8.reduceOfNat, true_and, File.e, hg, g1, Bool.true_or]
  | false =>
    obtain ⟨k1, k2, _⟩ := great_names g1
    have hr := fun stk => e_rfright f stk hf k1
    simp only [File.e] at hr
    simp +contextual (maxSteps := 10000000) only [go_sem, ↓reduceIte, Nat.reduceLT, Nat.reduceEqDiff, Nat.reduceAdd, Nat.reduceSub, Nat.reduceMul, Nat.reduceLeDiff, Nat.reduceBEq, reduceCtorEq, Int.reduceAdd, Int.reduceSub, Int.reduceMul, Int.reduceLT, Int.reduceLE, Int.reduceToNat, Int.reduceNeg, Int.reduceEq, Int.reduceNe, UInt8.reduceOfNat, true_and, File.e, hg, g1, hr, hb]
end Go.Proofs.Ytcecleclipcheaa
