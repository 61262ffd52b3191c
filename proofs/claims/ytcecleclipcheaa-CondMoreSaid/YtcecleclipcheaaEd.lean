/-
  What the laws' functions compute: the law of what is asked of ends, its head and its rows.
  What the laws of what is asked of ends compute.
  What the reference of what is asked of ends computes; the laws that name it.
  What the laws of what is asked of ends compute: where it is asked.
-/
import Derived.Test.YtcecleclipcheaaEc
import Derived.Test.YtcecleclipcheaaNa
set_option linter.unusedVariables false
set_option linter.unusedSimpArgs false
namespace Go.Proofs.Ytcecleclipcheaa
open Go Go.Shade Go.Fence
attribute [local congr] ite_congr

instance (n : Int) : Decidable (I64 n) := inferInstanceAs (Decidable (_ = true))
instance (s : ByteArray) : Decidable (S47 s) := inferInstanceAs (Decidable (_ ≤ _))
def bx : ByteArray := ⟨#[120]⟩
def by' : ByteArray := ⟨#[121]⟩
def bax : ByteArray := ⟨#[101, 97, 120]⟩
/-- store buffering -/
def bufF (b : Bool) : File := ⟨⟨#[115, 98]⟩, [⟨bx, 0⟩], [[⟨4, t0, bx, t0, 1⟩, ⟨2, bax, by', t0, 0⟩], [⟨4, t0, by', t0, 1⟩, ⟨2, bax, bx, t0, 0⟩]], b, [⟨0, bax, 0⟩, ⟨1, bax, 0⟩]⟩
set_option maxHeartbeats 2000000 in
set_option maxRecDepth 10000 in
theorem e_buf (stk : Stk) : cl Try.prog an prm 67 [] stk = some (.agg (bufF false).e, stk) := by
  rw [cl_eq rfl Try.func67 rfl _ _ (by simp [Try.f67])]
  simp +contextual (maxSteps := 10000000) only [go_sem, ↓reduceIte, Nat.reduceLT, Nat.reduceEqDiff, Nat.reduceAdd, Nat.reduceSub, Nat.reduceMul, Nat.reduceLeDiff, Nat.reduceBEq, reduceCtorEq, Int.reduceAdd, Int.reduceSub, Int.reduceMul, Int.reduceLT, Int.reduceLE, Int.reduceToNat, Int.reduceNeg, Int.reduceEq, Int.reduceNe, UInt8.reduceOfNat, true_and, File.e]
  rfl

theorem bufF_fit (b : Bool) : (bufF b).Fit := by
  refine ⟨show S47 ⟨#[115, 98]⟩ by decide, ⟨show 1 ≤ maxLen by decide, ?_⟩, ⟨show 2 ≤ maxLen by decide, ?_⟩, ⟨show 2 ≤ maxLen by decide, ?_⟩⟩
  · intro c hc
    simp only [bufF, List.mem_cons, List.not_mem_nil, or_false] at hc
    subst hc
    exact ⟨by decide, by decide⟩
  · intro t ht
    simp only [bufF, List.mem_cons, List.not_mem_nil, or_false] at ht
    rcases ht with rfl | rfl
    all_goals
      refine ⟨by decide, fun x hx => ?_⟩
      simp only [List.mem_cons, List.not_mem_nil, or_false] at hx
      rcases hx with rfl | rfl <;> exact ⟨by decide, by decide, by decide, by decide, by decide⟩
  · intro c hc
    simp only [bufF, List.mem_cons, List.not_mem_nil, or_false] at hc
    rcases hc with rfl | rfl <;> exact ⟨by decide, by decide, by decide⟩
def oA : Out := ⟨[1, 1], [0, 0, 0, 0, 0, 0, 0, 0]⟩
def oB : Out := ⟨[1, 1], [0, 0, 0, 0, 1, 0, 0, 0]⟩
def oZ : Out := ⟨[], []⟩
theorem oA_fit : oA.Fit := by
  exact ⟨⟨by decide, by decide⟩, ⟨by decide, by decide⟩⟩
theorem oB_fit : oB.Fit := by
  exact ⟨⟨by decide, by decide⟩, ⟨by decide, by decide⟩⟩
theorem oZ_fit : oZ.Fit := by
  refine ⟨⟨by decide, ?_⟩, ⟨by decide, ?_⟩⟩ <;> simp [oZ]
theorem right_buf (b : Bool) : rightB (bufF b) = true := by cases b <;> kernel_rfl
set_option maxHeartbeats 4000000 in
set_option maxRecDepth 10000 in
theorem e_chead (stk : Stk) : cl Try.prog an prm 25 [] stk = some (.bool true, stk) := by
  rw [cl_eq rfl Try.func25 rfl _ _ (by simp [Try.f25])]
  have hb := fun stk => e_buf stk
  have h1 := fun stk => e_holds (bufF false) oA stk (bufF_fit false) oA_fit (by decide) (by decide) (right_buf false)
  have h2 := fun stk => e_holds (bufF false) oB stk (bufF_fit false) oB_fit (by decide) (by decide) (right_buf false)
  have h3 := fun stk => e_holds (bufF false) oZ stk (bufF_fit false) oZ_fit (by decide) (by decide) (right_buf false)
  rw [show holdsB (bufF false) oA = true by kernel_rfl] at h1
  rw [show holdsB (bufF false) oB = false by kernel_rfl] at h2
  rw [show holdsB (bufF false) oZ = false by kernel_rfl] at h3
  have hv := fun z l hz hl b stk => e_valueZ z (bufF b) l stk hz (bufF_fit b) hl (by cases b <;> decide) (show 2 ≤ 100 by decide) (right_buf b)
  have h4 := fun stk => hv 2 [oB, oA] (.inl rfl) ⟨by decide, by simp [oA_fit, oB_fit]⟩ false stk
  have h5 := fun stk => hv 0 [] (.inr rfl) ⟨by decide, by simp⟩ false stk
  have h6 := fun stk => hv 2 [oB, oA] (.inl rfl) ⟨by decide, by simp [oA_fit, oB_fit]⟩ true stk
  have h7 := fun stk => hv 0 [] (.inr rfl) ⟨by decide, by simp⟩ true stk
  rw [show valueB (bufF false) [oB, oA] = true by kernel_rfl] at h4
  rw [show valueB (bufF false) [] = false by kernel_rfl] at h5
  rw [show valueB (bufF true) [oB, oA] = false by kernel_rfl] at h6
  rw [show valueB (bufF true) [] = true by kernel_rfl] at h7
  simp only [File.e, Out.e, ints, bufF, oA, oB, oZ, List.map_cons, List.map_nil, thr, Cell.e, Line.e, Atom.e, bx, by', bax, t0] at hb h1 h2 h3 h4 h5 h6 h7
  have hm : (8 : Int) ≤ (most : Int) := by decide
  simp +contextual (maxSteps := 10000000) only [go_sem, ↓reduceIte, Nat.reduceLT, Nat.reduceEqDiff, Nat.reduceAdd, Nat.reduceSub, Nat.reduceMul, Nat.reduceLeDiff, Nat.reduceBEq, reduceCtorEq, Int.reduceAdd, Int.reduceSub, Int.reduceMul, Int.reduceLT, Int.reduceLE, Int.reduceToNat, Int.reduceNeg, Int.reduceEq, Int.reduceNe, UInt8.reduceOfNat, true_and, hm, List.replicate, hb, h1, h2, h3, h4, h5, h6, h7]
end Go.Proofs.Ytcecleclipcheaa

set_option linter.unusedVariables false
set_option linter.unusedSimpArgs false
namespace Go.Proofs.Ytcecleclipcheaa
open Go Go.Shade Go.Fence
attribute [local congr] ite_congr

set_option maxHeartbeats 4000000 in
set_option maxRecDepth 10000 in
theorem eq6 (f : File) (l : List Out) (hf : f.Fit) (hl : l.length ≤ maxLen ∧ ∀ o ∈ l, o.Fit) : cl Try.prog an prm 6 [.agg f.e, .sl 2 (l.map Out.e)] [] = some (.bool true, []) := by
  rw [cl_eq rfl Try.func6 rfl _ _ (by simp [Try.f6])]
  have hh := fun stk => e_chead stk
  have hg := fun stk => e_greatC f l stk hf hl.1
  simp only [File.e] at hg
  cases hG : (greatB f || (!rightB f || bigB l)) with
  | true =>
    rw [hG] at hg
    simp +contextual (maxSteps := 10000000) only [go_sem, ↓reduceIte, Nat.reduceLT, Nat.reduceEqDiff, Nat.reduceAdd, Nat.reduceSub, Nat.reduceMul, Nat.reduceLeDiff, Nat.reduceBEq, reduceCtorEq, Int.reduceAdd, Int.reduceSub, Int.reduceMul, Int.reduceLT, Int.reduceLE, Int.reduceToNat, Int.reduceNeg, Int.reduceEq, Int.reduceNe, UInt8.reduceOfNat, true_and, File.e, hh, hg]
  | false =>
  rw [hG] at hg
  obtain ⟨k1, k2, k3, k4, k5, k6, _⟩ := guard_ok hG
  simp +contextual (maxSteps := 10000000) only [go_sem, ↓reduceIte, Nat.reduceLT, Nat.reduceEqDiff, Nat.reduceAdd, Nat.reduceSub, Nat.reduceMul, Nat.reduceLeDiff, Nat.reduceBEq, reduceCtorEq, Int.reduceAdd, Int.reduceSub, Int.reduceMul, Int.reduceLT, Int.reduceLE, Int.reduceToNat, Int.reduceNeg, Int.reduceEq, Int.reduceNe, UInt8.reduceOfNat, true_and, File.e, hh, hg]
  generalize hE : ev _ _ _ _ (.loop _) _ = E
  revert E
  refine ev_phil l Out.e (fun i (p : Bool × Bool) => ⟨[(8, .int .i64 i), (7, .bool p.2), (6, .bool p.1), (5, .bool true), (2, .ptr 0 2 0), (1, .sl 2 (l.map Out.e))], [(2, .cells f.e)] :: []⟩)
    (fun i p => p = ((l.take i).all (holdsB f), (l.take i).any (holdsB f))) (true, false) (by omega) ?_ (by simp) ?_ ?_
  · simp +contextual (maxSteps := 10000000) only [go_sem, ↓reduceIte, Nat.reduceLT, Nat.reduceEqDiff, Nat.reduceAdd, Nat.reduceSub, Nat.reduceMul, Nat.reduceLeDiff, Nat.reduceBEq, reduceCtorEq, Int.reduceAdd, Int.reduceSub, Int.reduceMul, Int.reduceLT, Int.reduceLE, Int.reduceToNat, Int.reduceNeg, Int.reduceEq, Int.reduceNe, UInt8.reduceOfNat, true_and, File.e]
    rfl
  · rintro i o ⟨p, q⟩ hi hx hm hlt h0 hw hI
    have hc := fun stk => e_holds f o stk hf (hl.2 o (List.mem_iff_getElem?.2 ⟨i, hx⟩)) k1 k2 k3
    simp only [File.e, Out.e, ints] at hc
    simp +contextual (maxSteps := 10000000) only [go_sem, ↓reduceIte, Nat.reduceLT, Nat.reduceEqDiff, Nat.reduceAdd, Nat.reduceSub, Nat.reduceMul, Nat.reduceLeDiff, Nat.reduceBEq, reduceCtorEq, Int.reduceAdd, Int.reduceSub, Int.reduceMul, Int.reduceLT, Int.reduceLE, Int.reduceToNat, Int.reduceNeg, Int.reduceEq, Int.reduceNe, UInt8.reduceOfNat, true_and, File.e, Out.e, ints, hm, hlt, h0, hw, hc]
    refine ⟨(p && holdsB f o, q || holdsB f o), rfl, ?_⟩
    obtain ⟨rfl, rfl⟩ := Prod.mk.injEq .. ▸ hI
    rw [take_snoc hx]
    simp
  · rintro ⟨p, q⟩ hI
    rw [List.take_length] at hI
    obtain ⟨rfl, rfl⟩ := Prod.mk.injEq .. ▸ hI
    have hv := fun b stk => e_value (f.put b) l stk ⟨hf.name, hf.init, hf.threads, hf.cond⟩ hl k1 k2 k3
    have hv1 := fun stk => hv true stk
    have hv2 := fun stk => hv false stk
    rw [value_all] at hv1
    rw [value_some] at hv2
    simp only [File.put, File.e] at hv1 hv2
    simp +contextual (maxSteps := 10000000) only [go_sem, ↓reduceIte, Nat.reduceLT, Nat.reduceEqDiff, Nat.reduceAdd, Nat.reduceSub, Nat.reduceMul, Nat.reduceLeDiff, Nat.reduceBEq, reduceCtorEq, Int.reduceAdd, Int.reduceSub, Int.reduceMul, Int.reduceLT, Int.reduceLE, Int.reduceToNat, Int.reduceNeg, Int.reduceEq, Int.reduceNe, UInt8.reduceOfNat, true_and, File.e, Int.lt_irrefl, hv1, hv2]

set_option maxHeartbeats 4000000 in
set_option maxRecDepth 10000 in
theorem eq7 (f : File) (l m : List Out) (hf : f.Fit) (hl : l.length ≤ maxLen ∧ ∀ o ∈ l, o.Fit) (hm : m.length ≤ maxLen ∧ ∀ o ∈ m, o.Fit) : cl Try.prog an prm 7 [.agg f.e, .sl 2 (l.map Out.e), .sl 2 (m.map Out.e)] [] = some (.bool true, []) := by
  rw [cl_eq rfl Try.func7 rfl _ _ (by simp [Try.f7])]
  have hh := fun stk => e_chead stk
  have hg := fun stk => e_greatC f l stk hf hl.1
  have hb := fun stk => e_big m stk hm.1
  simp only [File.e] at hg
  cases hG : (greatB f || (!rightB f || bigB l)) with
  | true =>
    rw [hG] at hg
    simp +contextual (maxSteps := 10000000) only [go_sem, ↓reduceIte, Nat.reduceLT, Nat.reduceEqDiff, Nat.reduceAdd, Nat.reduceSub, Nat.reduceMul, Nat.reduceLeDiff, Nat.reduceBEq, reduceCtorEq, Int.reduceAdd, Int.reduceSub, Int.reduceMul, Int.reduceLT, Int.reduceLE, Int.reduceToNat, Int.reduceNeg, Int.reduceEq, Int.reduceNe, UInt8.reduceOfNat, true_and, File.e, hh, hg]
  | false =>
  rw [hG] at hg
  cases hB : bigB m with
  | true =>
    simp +contextual (maxSteps := 10000000) only [go_sem, ↓reduceIte, Nat.reduceLT, Nat.reduceEqDiff, Nat.reduceAdd, Nat.reduceSub, Nat.reduceMul, Nat.reduceLeDiff, Nat.reduceBEq, reduceCtorEq, Int.reduceAdd, Int.reduceSub, Int.reduceMul, Int.reduceLT, Int.reduceLE, Int.reduceToNat, Int.reduceNeg, Int.reduceEq, Int.reduceNe, UInt8.reduceOfNat, true_and, File.e, hh, hg, hb, hB]
  | false =>
  obtain ⟨k1, k2, k3, k4, k5, k6, _⟩ := guard_ok hG
  have k7 : m.length ≤ 150 := by
    simp only [bigB, Bool.or_eq_false_iff, decide_eq_false_iff_not] at hB
    omega
  have hv1 := fun stk => e_value f l stk hf hl k1 k2 k3
  have hv2 := fun stk => e_value f m stk hf hm k1 k2 k3
  have hv3 := fun stk => e_value f (l ++ m) stk hf ⟨by simp only [List.length_append]; simp only [maxLen]; omega, fun o ho => (List.mem_append.1 ho).elim (hl.2 o) (hm.2 o)⟩ k1 k2 k3
  simp only [File.e, List.map_append] at hv1 hv2 hv3
  cases hA : f.all with
  | true =>
    simp only [hA] at hg hv1 hv2 hv3
    simp +contextual (maxSteps := 10000000) only [go_sem, ↓reduceIte, Nat.reduceLT, Nat.reduceEqDiff, Nat.reduceAdd, Nat.reduceSub, Nat.reduceMul, Nat.reduceLeDiff, Nat.reduceBEq, reduceCtorEq, Int.reduceAdd, Int.reduceSub, Int.reduceMul, Int.reduceLT, Int.reduceLE, Int.reduceToNat, Int.reduceNeg, Int.reduceEq, Int.reduceNe, UInt8.reduceOfNat, true_and, File.e, hh, hg, hb, hB, hv1, hv2, hv3, hA]
    rw [if_pos (by simp only [most]; omega), if_pos (by simp only [most]; omega), value_and hA, beq_self_eq_true]
  | false =>
    simp only [hA] at hg hv1 hv2 hv3
    simp +contextual (maxSteps := 10000000) only [go_sem, ↓reduceIte, Nat.reduceLT, Nat.reduceEqDiff, Nat.reduceAdd, Nat.reduceSub, Nat.reduceMul, Nat.reduceLeDiff, Nat.reduceBEq, reduceCtorEq, Int.reduceAdd, Int.reduceSub, Int.reduceMul, Int.reduceLT, Int.reduceLE, Int.reduceToNat, Int.reduceNeg, Int.reduceEq, Int.reduceNe, UInt8.reduceOfNat, true_and, File.e, hh, hg, hb, hB, hv1, hv2, hv3, hA]
    rw [if_pos (by simp only [most]; omega), if_pos (by simp only [most]; omega), value_or hA, beq_self_eq_true]

theorem ask_e (f : File) (c : List Atom) : (f.ask c).e = [.str f.name, .sl 2 (f.init.map Cell.e), .sl 1 (f.threads.map thr), .bool f.all, .sl 3 (c.map Atom.e)] := rfl
set_option maxHeartbeats 4000000 in
set_option maxRecDepth 10000 in
theorem eq8 (f : File) (o : Out) (hf : f.Fit) (ho : o.Fit) : cl Try.prog an prm 8 [.agg f.e, .agg o.e] [] = some (.bool true, []) := by
  rw [cl_eq rfl Try.func8 rfl _ _ (by simp [Try.f8])]
  have hh := fun stk => e_chead stk
  have hg := fun stk => e_greatC f [o] stk hf (show 1 ≤ maxLen by decide)
  simp only [File.e, Out.e, ints, List.map_cons, List.map_nil] at hg
  cases hG : (greatB f || (!rightB f || bigB [o])) with
  | true =>
    rw [hG] at hg
    simp +contextual (maxSteps := 10000000) only [go_sem, ↓reduceIte, Nat.reduceLT, Nat.reduceEqDiff, Nat.reduceAdd, Nat.reduceSub, Nat.reduceMul, Nat.reduceLeDiff, Nat.reduceBEq, reduceCtorEq, Int.reduceAdd, Int.reduceSub, Int.reduceMul, Int.reduceLT, Int.reduceLE, Int.reduceToNat, Int.reduceNeg, Int.reduceEq, Int.reduceNe, UInt8.reduceOfNat, true_and, File.e, Out.e, ints, hh, hg]
  | false =>
  rw [hG] at hg
  obtain ⟨k1, k2, k3, k4, k5, k6, k7⟩ := guard_ok hG
  have hw4 : IntKind.i64.wrap (4 * (f.threads.length : Int)) = 4 * (f.threads.length : Int) := wrap_i64 (by omega) (by omega)
  have hlo := fun stk => e_rflocs f stk hf k1
  simp only [File.e, strs] at hlo
  cases g1 : decide ((o.mem.length : Int) = ((locsB f).length : Int)) with
  | false =>
    have hfit : fitsB f o = false := by
      simp only [fitsB, Bool.and_eq_false_iff, decide_eq_false_iff_not] at g1 ⊢
      omega
    simp +contextual (maxSteps := 10000000) only [go_sem, ↓reduceIte, Nat.reduceLT, Nat.reduceEqDiff, Nat.reduceAdd, Nat.reduceSub, Nat.reduceMul, Nat.reduceLeDiff, Nat.reduceBEq, reduceCtorEq, Int.reduceAdd, Int.reduceSub, Int.reduceMul, Int.reduceLT, Int.reduceLE, Int.reduceToNat, Int.reduceNeg, Int.reduceEq, Int.reduceNe, UInt8.reduceOfNat, true_and, File.e, Out.e, ints, hh, hg, hlo, hw4, g1]
    generalize hE : ev _ _ _ _ (.loop _) _ = E
    revert E
    refine ev_phil f.cond Atom.e (fun i (p : Bool) => ⟨[(9, .int .i64 i), (8, .bool false), (7, .int .i64 (locsB f).length), (6, .bool p), (5, .bool true), (3, .ptr 0 3 0), (2, .ptr 0 2 0)], [(3, .cells o.e), (2, .cells f.e)] :: []⟩)
      (fun i p => p = (f.cond.take i).all (fun a => false && holdP (locsB f) o a)) true (by omega) ?_ (by simp) ?_ ?_
    · simp +contextual (maxSteps := 10000000) only [go_sem, ↓reduceIte, Nat.reduceLT, Nat.reduceEqDiff, Nat.reduceAdd, Nat.reduceSub, Nat.reduceMul, Nat.reduceLeDiff, Nat.reduceBEq, reduceCtorEq, Int.reduceAdd, Int.reduceSub, Int.reduceMul, Int.reduceLT, Int.reduceLE, Int.reduceToNat, Int.reduceNeg, Int.reduceEq, Int.reduceNe, UInt8.reduceOfNat, true_and, File.e, Out.e, ints]
      rfl
    · intro i a p hi hx hm hlt h0 hw hI
      have ha := List.mem_iff_getElem?.2 ⟨i, hx⟩
      obtain ⟨q1, q2, q3⟩ := ask_less (c := [a]) k3 (fun x hx => by simp at hx; subst hx; exact ha) (by simp)
      have hfg : (f.ask [a]).Fit := ⟨hf.name, hf.init, hf.threads, ⟨show 1 ≤ maxLen by decide, fun x hx => by rw [List.mem_singleton.1 hx]; exact hf.cond.2 a ha⟩⟩
      have hlg := fun stk => e_rflocs (f.ask [a]) stk hfg (k7 [a] (by simp))
      have hhg := fun stk => e_holds (f.ask [a]) o stk hfg ho (k7 [a] (by simp)) k2 q1
      simp only [ask_e, Out.e, ints, strs, List.map_cons, List.map_nil] at hlg hhg
      have hs1 : (i : Int) ≤ ((i + 1 : Nat) : Int) := by omega
      have hs2 : ((i + 1 : Nat) : Int) ≤ (f.cond.length : Int) := by omega
      have hs3 : List.drop i (List.take (i + 1) (List.map Atom.e f.cond)) = [a.e] := by
        rw [take_snoc hm, List.drop_append_of_le_length (by simp; omega), List.drop_eq_nil_of_le (by simp; omega)]
        rfl
      cases g3 : decide (((locsB (f.ask [a])).length : Int) = ((locsB f).length : Int)) with
      | false =>
        simp +contextual (maxSteps := 10000000) only [go_sem, ↓reduceIte, Nat.reduceLT, Nat.reduceEqDiff, Nat.reduceAdd, Nat.reduceSub, Nat.reduceMul, Nat.reduceLeDiff, Nat.reduceBEq, reduceCtorEq, Int.reduceAdd, Int.reduceSub, Int.reduceMul, Int.reduceLT, Int.reduceLE, Int.reduceToNat, Int.reduceNeg, Int.reduceEq, Int.reduceNe, UInt8.reduceOfNat, true_and, File.e, Out.e, ints, hm, hlt, h0, hw, hlg, hhg, hs1, hs2, hs3, g3]
      | true =>
        have hq := holds_ask (o := o) (q3 (by have := of_decide_eq_true g3; omega))
        rw [hfit] at hq
        rw [hq] at hhg
        simp +contextual (maxSteps := 10000000) only [go_sem, ↓reduceIte, Nat.reduceLT, Nat.reduceEqDiff, Nat.reduceAdd, Nat.reduceSub, Nat.reduceMul, Nat.reduceLeDiff, Nat.reduceBEq, reduceCtorEq, Int.reduceAdd, Int.reduceSub, Int.reduceMul, Int.reduceLT, Int.reduceLE, Int.reduceToNat, Int.reduceNeg, Int.reduceEq, Int.reduceNe, UInt8.reduceOfNat, true_and, File.e, Out.e, ints, hm, hlt, h0, hw, hlg, hhg, hs1, hs2, hs3, g3]
        refine ⟨false, rfl, ?_⟩
        rw [take_snoc hx]
        subst hI
        simp
    · intro p hI
      rw [List.take_length] at hI
      have hhf := fun stk => e_holds f o stk hf ho k1 k2 k3
      simp only [File.e, Out.e, ints] at hhf
      simp +contextual (maxSteps := 10000000) only [go_sem, ↓reduceIte, Nat.reduceLT, Nat.reduceEqDiff, Nat.reduceAdd, Nat.reduceSub, Nat.reduceMul, Nat.reduceLeDiff, Nat.reduceBEq, reduceCtorEq, Int.reduceAdd, Int.reduceSub, Int.reduceMul, Int.reduceLT, Int.reduceLE, Int.reduceToNat, Int.reduceNeg, Int.reduceEq, Int.reduceNe, UInt8.reduceOfNat, true_and, File.e, Out.e, ints, Int.lt_irrefl, hhf]
      subst hI
      simp [holdsB, hfit]
  | true =>
  cases g2 : decide ((o.regs.length : Int) = 4 * (f.threads.length : Int)) with
  | false =>
    have hfit : fitsB f o = false := by
      simp only [fitsB, Bool.and_eq_false_iff, decide_eq_false_iff_not] at g2 ⊢
      omega
    simp +contextual (maxSteps := 10000000) only [go_sem, ↓reduceIte, Nat.reduceLT, Nat.reduceEqDiff, Nat.reduceAdd, Nat.reduceSub, Nat.reduceMul, Nat.reduceLeDiff, Nat.reduceBEq, reduceCtorEq, Int.reduceAdd, Int.reduceSub, Int.reduceMul, Int.reduceLT, Int.reduceLE, Int.reduceToNat, Int.reduceNeg, Int.reduceEq, Int.reduceNe, UInt8.reduceOfNat, true_and, File.e, Out.e, ints, hh, hg, hlo, hw4, g1, g2]
    generalize hE : ev _ _ _ _ (.loop _) _ = E
    revert E
    refine ev_phil f.cond Atom.e (fun i (p : Bool) => ⟨[(9, .int .i64 i), (8, .bool false), (7, .int .i64 (locsB f).length), (6, .bool p), (5, .bool true), (3, .ptr 0 3 0), (2, .ptr 0 2 0)], [(3, .cells o.e), (2, .cells f.e)] :: []⟩)
      (fun i p => p = (f.cond.take i).all (fun a => false && holdP (locsB f) o a)) true (by omega) ?_ (by simp) ?_ ?_
    · simp +contextual (maxSteps := 10000000) only [go_sem, ↓reduceIte, Nat.reduceLT, Nat.reduceEqDiff, Nat.reduceAdd, Nat.reduceSub, Nat.reduceMul, Nat.reduceLeDiff, Nat.reduceBEq, reduceCtorEq, Int.reduceAdd, Int.reduceSub, Int.reduceMul, Int.reduceLT, Int.reduceLE, Int.reduceToNat, Int.reduceNeg, Int.reduceEq, Int.reduceNe, UInt8.reduceOfNat, true_and, File.e, Out.e, ints]
      rfl
    · intro i a p hi hx hm hlt h0 hw hI
      have ha := List.mem_iff_getElem?.2 ⟨i, hx⟩
      obtain ⟨q1, q2, q3⟩ := ask_less (c := [a]) k3 (fun x hx => by simp at hx; subst hx; exact ha) (by simp)
      have hfg : (f.ask [a]).Fit := ⟨hf.name, hf.init, hf.threads, ⟨show 1 ≤ maxLen by decide, fun x hx => by rw [List.mem_singleton.1 hx]; exact hf.cond.2 a ha⟩⟩
      have hlg := fun stk => e_rflocs (f.ask [a]) stk hfg (k7 [a] (by simp))
      have hhg := fun stk => e_holds (f.ask [a]) o stk hfg ho (k7 [a] (by simp)) k2 q1
      simp only [ask_e, Out.e, ints, strs, List.map_cons, List.map_nil] at hlg hhg
      have hs1 : (i : Int) ≤ ((i + 1 : Nat) : Int) := by omega
      have hs2 : ((i + 1 : Nat) : Int) ≤ (f.cond.length : Int) := by omega
      have hs3 : List.drop i (List.take (i + 1) (List.map Atom.e f.cond)) = [a.e] := by
        rw [take_snoc hm, List.drop_append_of_le_length (by simp; omega), List.drop_eq_nil_of_le (by simp; omega)]
        rfl
      cases g3 : decide (((locsB (f.ask [a])).length : Int) = ((locsB f).length : Int)) with
      | false =>
        simp +contextual (maxSteps := 10000000) only [go_sem, ↓reduceIte, Nat.reduceLT, Nat.reduceEqDiff, Nat.reduceAdd, Nat.reduceSub, Nat.reduceMul, Nat.reduceLeDiff, Nat.reduceBEq, reduceCtorEq, Int.reduceAdd, Int.reduceSub, Int.reduceMul, Int.reduceLT, Int.reduceLE, Int.reduceToNat, Int.reduceNeg, Int.reduceEq, Int.reduceNe, UInt8.reduceOfNat, true_and, File.e, Out.e, ints, hm, hlt, h0, hw, hlg, hhg, hs1, hs2, hs3, g3]
      | true =>
        have hq := holds_ask (o := o) (q3 (by have := of_decide_eq_true g3; omega))
        rw [hfit] at hq
        rw [hq] at hhg
        simp +contextual (maxSteps := 10000000) only [go_sem, ↓reduceIte, Nat.reduceLT, Nat.reduceEqDiff, Nat.reduceAdd, Nat.reduceSub, Nat.reduceMul, Nat.reduceLeDiff, Nat.reduceBEq, reduceCtorEq, Int.reduceAdd, Int.reduceSub, Int.reduceMul, Int.reduceLT, Int.reduceLE, Int.reduceToNat, Int.reduceNeg, Int.reduceEq, Int.reduceNe, UInt8.reduceOfNat, true_and, File.e, Out.e, ints, hm, hlt, h0, hw, hlg, hhg, hs1, hs2, hs3, g3]
        refine ⟨false, rfl, ?_⟩
        rw [take_snoc hx]
        subst hI
        simp
    · intro p hI
      rw [List.take_length] at hI
      have hhf := fun stk => e_holds f o stk hf ho k1 k2 k3
      simp only [File.e, Out.e, ints] at hhf
      simp +contextual (maxSteps := 10000000) only [go_sem, ↓reduceIte, Nat.reduceLT, Nat.reduceEqDiff, Nat.reduceAdd, Nat.reduceSub, Nat.reduceMul, Nat.reduceLeDiff, Nat.reduceBEq, reduceCtorEq, Int.reduceAdd, Int.reduceSub, Int.reduceMul, Int.reduceLT, Int.reduceLE, Int.reduceToNat, Int.reduceNeg, Int.reduceEq, Int.reduceNe, UInt8.reduceOfNat, true_and, File.e, Out.e, ints, Int.lt_irrefl, hhf]
      subst hI
      simp [holdsB, hfit]
  | true =>
    have hfit : fitsB f o = true := by
      simp only [fitsB, Bool.and_eq_true, decide_eq_true_eq] at g1 g2 ⊢
      omega
    simp +contextual (maxSteps := 10000000) only [go_sem, ↓reduceIte, Nat.reduceLT, Nat.reduceEqDiff, Nat.reduceAdd, Nat.reduceSub, Nat.reduceMul, Nat.reduceLeDiff, Nat.reduceBEq, reduceCtorEq, Int.reduceAdd, Int.reduceSub, Int.reduceMul, Int.reduceLT, Int.reduceLE, Int.reduceToNat, Int.reduceNeg, Int.reduceEq, Int.reduceNe, UInt8.reduceOfNat, true_and, File.e, Out.e, ints, hh, hg, hlo, hw4, g1, g2]
    generalize hE : ev _ _ _ _ (.loop _) _ = E
    revert E
    refine ev_phil f.cond Atom.e (fun i (p : Bool) => ⟨[(9, .int .i64 i), (8, .bool true), (7, .int .i64 (locsB f).length), (6, .bool p), (5, .bool true), (3, .ptr 0 3 0), (2, .ptr 0 2 0)], [(3, .cells o.e), (2, .cells f.e)] :: []⟩)
      (fun i p => p = (f.cond.take i).all (fun a => true && holdP (locsB f) o a)) true (by omega) ?_ (by simp) ?_ ?_
    · simp +contextual (maxSteps := 10000000) only [go_sem, ↓reduceIte, Nat.reduceLT, Nat.reduceEqDiff, Nat.reduceAdd, Nat.reduceSub, Nat.reduceMul, Nat.reduceLeDiff, Nat.reduceBEq, reduceCtorEq, Int.reduceAdd, Int.reduceSub, Int.reduceMul, Int.reduceLT, Int.reduceLE, Int.reduceToNat, Int.reduceNeg, Int.reduceEq, Int.reduceNe, UInt8.reduceOfNat, true_and, File.e, Out.e, ints]
      rfl
    · intro i a p hi hx hm hlt h0 hw hI
      have ha := List.mem_iff_getElem?.2 ⟨i, hx⟩
      obtain ⟨q1, q2, q3⟩ := ask_less (c := [a]) k3 (fun x hx => by simp at hx; subst hx; exact ha) (by simp)
      have hfg : (f.ask [a]).Fit := ⟨hf.name, hf.init, hf.threads, ⟨show 1 ≤ maxLen by decide, fun x hx => by rw [List.mem_singleton.1 hx]; exact hf.cond.2 a ha⟩⟩
      have hlg := fun stk => e_rflocs (f.ask [a]) stk hfg (k7 [a] (by simp))
      have hhg := fun stk => e_holds (f.ask [a]) o stk hfg ho (k7 [a] (by simp)) k2 q1
      simp only [ask_e, Out.e, ints, strs, List.map_cons, List.map_nil] at hlg hhg
      have hs1 : (i : Int) ≤ ((i + 1 : Nat) : Int) := by omega
      have hs2 : ((i + 1 : Nat) : Int) ≤ (f.cond.length : Int) := by omega
      have hs3 : List.drop i (List.take (i + 1) (List.map Atom.e f.cond)) = [a.e] := by
        rw [take_snoc hm, List.drop_append_of_le_length (by simp; omega), List.drop_eq_nil_of_le (by simp; omega)]
        rfl
      cases g3 : decide (((locsB (f.ask [a])).length : Int) = ((locsB f).length : Int)) with
      | false =>
        simp +contextual (maxSteps := 10000000) only [go_sem, ↓reduceIte, Nat.reduceLT, Nat.reduceEqDiff, Nat.reduceAdd, Nat.reduceSub, Nat.reduceMul, Nat.reduceLeDiff, Nat.reduceBEq, reduceCtorEq, Int.reduceAdd, Int.reduceSub, Int.reduceMul, Int.reduceLT, Int.reduceLE, Int.reduceToNat, Int.reduceNeg, Int.reduceEq, Int.reduceNe, UInt8.reduceOfNat, true_and, File.e, Out.e, ints, hm, hlt, h0, hw, hlg, hhg, hs1, hs2, hs3, g3]
      | true =>
        have hq := holds_ask (o := o) (q3 (by have := of_decide_eq_true g3; omega))
        rw [hfit] at hq
        rw [hq] at hhg
        simp +contextual (maxSteps := 10000000) only [go_sem, ↓reduceIte, Nat.reduceLT, Nat.reduceEqDiff, Nat.reduceAdd, Nat.reduceSub, Nat.reduceMul, Nat.reduceLeDiff, Nat.reduceBEq, reduceCtorEq, Int.reduceAdd, Int.reduceSub, Int.reduceMul, Int.reduceLT, Int.reduceLE, Int.reduceToNat, Int.reduceNeg, Int.reduceEq, Int.reduceNe, UInt8.reduceOfNat, true_and, File.e, Out.e, ints, hm, hlt, h0, hw, hlg, hhg, hs1, hs2, hs3, g3]
        refine ⟨p && holdP (locsB f) o a, rfl, ?_⟩
        rw [take_snoc hx]
        subst hI
        simp
    · intro p hI
      rw [List.take_length] at hI
      have hhf := fun stk => e_holds f o stk hf ho k1 k2 k3
      simp only [File.e, Out.e, ints] at hhf
      simp +contextual (maxSteps := 10000000) only [go_sem, ↓reduceIte, Nat.reduceLT, Nat.reduceEqDiff, Nat.reduceAdd, Nat.reduceSub, Nat.reduceMul, Nat.reduceLeDiff, Nat.reduceBEq, reduceCtorEq, Int.reduceAdd, Int.reduceSub, Int.reduceMul, Int.reduceLT, Int.reduceLE, Int.reduceToNat, Int.reduceNeg, Int.reduceEq, Int.reduceNe, UInt8.reduceOfNat, true_and, File.e, Out.e, ints, Int.lt_irrefl, hhf]
      subst hI
      simp [holdsB, hfit]
end Go.Proofs.Ytcecleclipcheaa

set_option linter.unusedVariables false
set_option linter.unusedSimpArgs false
namespace Go.Proofs.Ytcecleclipcheaa
open Go Go.Shade Go.Fence
attribute [local congr] ite_congr

set_option maxHeartbeats 4000000 in
set_option maxRecDepth 10000 in
theorem e_atom (locs : List ByteArray) (a : Atom) (o : Out) (stk : Stk) (hl : locs.length ≤ maxLen) (h1 : 0 ≤ a.thread → 0 ≤ 4 * a.thread + regI a.name ∧ 4 * a.thread + regI a.name < o.regs.length ∧ a.thread < 3) (h2 : ¬ 0 ≤ a.thread → a.name ∈ locs ∧ o.mem.length = locs.length) :
    cl Try.prog an prm 75 [strs locs, .agg a.e, .agg o.e] stk = some (.bool (holdP locs o a), stk) := by
  rw [cl_eq rfl Try.func75 rfl _ _ (by simp [Try.f75])]
  cases hT : decide (0 ≤ a.thread) with
  | true =>
    have hT' : 0 ≤ a.thread := by simpa using hT
    obtain ⟨k1, k2, k3⟩ := h1 hT'
    obtain ⟨v, hv⟩ : ∃ v, o.regs[(4 * a.thread + regI a.name).toNat]? = some v := ⟨_, List.getElem?_eq_getElem (by omega)⟩
    have hb := regI_le a.name
    have hw1 : IntKind.i64.wrap (4 * a.thread) = 4 * a.thread := wrap_i64 (by omega) (by omega)
    have hw2 : IntKind.i64.wrap (4 * a.thread + regI a.name) = 4 * a.thread + regI a.name := wrap_i64 (by omega) (by omega)
    have hv' : (o.regs.map fun n => [V.int .i64 n])[(4 * a.thread + regI a.name).toNat]? = some [.int .i64 v] := by simp [hv]
    simp +contextual (maxSteps := 10000000) only [go_sem, ↓reduceIte, Nat.reduceLT, Nat.reduceEqDiff, Nat.reduceAdd, Nat.reduceSub, Nat.reduceMul, Nat.reduceLeDiff, Nat.reduceBEq, reduceCtorEq, Int.reduceAdd, Int.reduceSub, Int.reduceMul, Int.reduceLT, Int.reduceLE, Int.reduceToNat, Int.reduceNeg, Int.reduceEq, Int.reduceNe, UInt8.reduceOfNat, true_and, Atom.e, Out.e, ints, strs, hT, hw1, hw2, e_rreg, k1, hv']
    simp [holdP, atomV, hT', hv]
  | false =>
    have hT' : ¬ 0 ≤ a.thread := by simpa using hT
    obtain ⟨k1, k2⟩ := h2 hT'
    obtain ⟨k3, k4⟩ := idxS_mem k1
    simp +contextual (maxSteps := 10000000) only [go_sem, ↓reduceIte, Nat.reduceLT, Nat.reduceEqDiff, Nat.reduceAdd, Nat.reduceSub, Nat.reduceMul, Nat.reduceLeDiff, Nat.reduceBEq, reduceCtorEq, Int.reduceAdd, Int.reduceSub, Int.reduceMul, Int.reduceLT, Int.reduceLE, Int.reduceToNat, Int.reduceNeg, Int.reduceEq, Int.reduceNe, UInt8.reduceOfNat, true_and, Atom.e, Out.e, ints, strs, hT]
    generalize hE : ev _ _ _ _ (.loop _) _ = E
    revert E
    refine ev_phil locs (fun s => [.str s]) (fun i (_ : Unit) => ⟨[(7, .int .i64 i), (5, .ptr 0 5 0), (4, .ptr 0 4 0), (0, strs locs)], [(5, .cells o.e), (4, .cells a.e)] :: stk⟩) (fun i _ => ∀ j, j < i → locs[j]? ≠ some a.name) () hl ?_ (fun j hj => by omega) ?_ ?_
    · simp +contextual (maxSteps := 10000000) only [go_sem, ↓reduceIte, Nat.reduceLT, Nat.reduceEqDiff, Nat.reduceAdd, Nat.reduceSub, Nat.reduceMul, Nat.reduceLeDiff, Nat.reduceBEq, reduceCtorEq, Int.reduceAdd, Int.reduceSub, Int.reduceMul, Int.reduceLT, Int.reduceLE, Int.reduceToNat, Int.reduceNeg, Int.reduceEq, Int.reduceNe, UInt8.reduceOfNat, true_and, Atom.e, Out.e, ints, strs]
      rfl
    · intro i x _ hi hx hm hlt h0 hw hI
      cases hE : strEq x a.name with
      | true =>
        have hxa := strEq_iff.1 hE
        rw [hxa] at hx
        obtain ⟨v, hv⟩ : ∃ v, o.mem[i]? = some v := ⟨_, List.getElem?_eq_getElem (by omega)⟩
        have hv' : (o.mem.map fun n => [V.int .i64 n])[i]? = some [.int .i64 v] := by simp [hv]
        simp +contextual (maxSteps := 10000000) only [go_sem, ↓reduceIte, Nat.reduceLT, Nat.reduceEqDiff, Nat.reduceAdd, Nat.reduceSub, Nat.reduceMul, Nat.reduceLeDiff, Nat.reduceBEq, reduceCtorEq, Int.reduceAdd, Int.reduceSub, Int.reduceMul, Int.reduceLT, Int.reduceLE, Int.reduceToNat, Int.reduceNeg, Int.reduceEq, Int.reduceNe, UInt8.reduceOfNat, true_and, Atom.e, Out.e, ints, strs, hm, hlt, h0, hw, hE, hv']
        simp [holdP, atomV, hT', idxS_hit hx hI, hv]
      | false =>
        simp +contextual (maxSteps := 10000000) only [go_sem, ↓reduceIte, Nat.reduceLT, Nat.reduceEqDiff, Nat.reduceAdd, Nat.reduceSub, Nat.reduceMul, Nat.reduceLeDiff, Nat.reduceBEq, reduceCtorEq, Int.reduceAdd, Int.reduceSub, Int.reduceMul, Int.reduceLT, Int.reduceLE, Int.reduceToNat, Int.reduceNeg, Int.reduceEq, Int.reduceNe, UInt8.reduceOfNat, true_and, Atom.e, Out.e, ints, strs, hm, hlt, h0, hw, hE]
        refine ⟨(), fun j hj => ?_⟩
        rcases Nat.lt_succ_iff_lt_or_eq.1 hj with hj | rfl
        · exact hI j hj
        · rw [hx]
          intro e
          cases e
          rw [strEq_self] at hE
          cases hE
    · intro _ hI
      exact absurd k4 (hI _ (List.getElem?_eq_some_iff.1 k4).1)

set_option maxHeartbeats 4000000 in
set_option maxRecDepth 10000 in
theorem e_rholds (f : File) (o : Out) (stk : Stk) (hf : f.Fit) (ho : o.Fit) (hn : (namesR f).length ≤ 500000) (ht : f.threads.length ≤ 100) (hr : rightB f = true) : cl Try.prog an prm 29 [.agg f.e, .agg o.e] stk = some (.bool (holdsB f o), stk) := by
  rw [cl_eq rfl Try.func29 rfl _ _ (by simp [Try.f29])]
  have hlo := fun stk => e_rflocs f stk hf hn
  have hw4 : IntKind.i64.wrap (4 * (f.threads.length : Int)) = 4 * (f.threads.length : Int) := wrap_i64 (by omega) (by omega)
  simp only [File.e, strs] at hlo
  cases g1 : decide ((o.mem.length : Int) = ((locsB f).length : Int)) with
  | false =>
    have hfit : fitsB f o = false := by
      simp only [fitsB, Bool.and_eq_false_iff, decide_eq_false_iff_not] at g1 ⊢
      omega
    simp +contextual (maxSteps := 10000000) only [go_sem, ↓reduceIte, Nat.reduceLT, Nat.reduceEqDiff, Nat.reduceAdd, Nat.reduceSub, Nat.reduceMul, Nat.reduceLeDiff, Nat.reduceBEq, reduceCtorEq, Int.reduceAdd, Int.reduceSub, Int.reduceMul, Int.reduceLT, Int.reduceLE, Int.reduceToNat, Int.reduceNeg, Int.reduceEq, Int.reduceNe, UInt8.reduceOfNat, true_and, File.e, Out.e, ints, hlo, hw4, g1]
    simp [holdsB, hfit]
  | true =>
  cases g2 : decide ((o.regs.length : Int) = 4 * (f.threads.length : Int)) with
  | false =>
    have hfit : fitsB f o = false := by
      simp only [fitsB, Bool.and_eq_false_iff, decide_eq_false_iff_not] at g2 ⊢
      omega
    simp +contextual (maxSteps := 10000000) only [go_sem, ↓reduceIte, Nat.reduceLT, Nat.reduceEqDiff, Nat.reduceAdd, Nat.reduceSub, Nat.reduceMul, Nat.reduceLeDiff, Nat.reduceBEq, reduceCtorEq, Int.reduceAdd, Int.reduceSub, Int.reduceMul, Int.reduceLT, Int.reduceLE, Int.reduceToNat, Int.reduceNeg, Int.reduceEq, Int.reduceNe, UInt8.reduceOfNat, true_and, File.e, Out.e, ints, hlo, hw4, g1, g2]
    simp [holdsB, hfit]
  | true =>
    have hfit : fitsB f o = true := by
      simp only [fitsB, Bool.and_eq_true, decide_eq_true_eq] at g1 g2 ⊢
      omega
    have hll : (locsB f).length ≤ maxLen := by
      have := ho.mem.1
      have := of_decide_eq_true g1
      omega
    simp +contextual (maxSteps := 10000000) only [go_sem, ↓reduceIte, Nat.reduceLT, Nat.reduceEqDiff, Nat.reduceAdd, Nat.reduceSub, Nat.reduceMul, Nat.reduceLeDiff, Nat.reduceBEq, reduceCtorEq, Int.reduceAdd, Int.reduceSub, Int.reduceMul, Int.reduceLT, Int.reduceLE, Int.reduceToNat, Int.reduceNeg, Int.reduceEq, Int.reduceNe, UInt8.reduceOfNat, true_and, File.e, Out.e, ints, hlo, hw4, g1, g2]
    generalize hE : ev _ _ _ _ (.loop _) _ = E
    revert E
    refine ev_phil f.cond Atom.e (fun i (_ : Unit) => ⟨[(6, .int .i64 i), (5, strs (locsB f)), (3, .ptr 0 3 0), (2, .ptr 0 2 0)], [(3, .cells o.e), (2, .cells f.e)] :: stk⟩) (fun i _ => ∀ a ∈ f.cond.take i, holdP (locsB f) o a = true) () hf.cond.1 ?_ (by simp) ?_ ?_
    · simp +contextual (maxSteps := 10000000) only [go_sem, ↓reduceIte, Nat.reduceLT, Nat.reduceEqDiff, Nat.reduceAdd, Nat.reduceSub, Nat.reduceMul, Nat.reduceLeDiff, Nat.reduceBEq, reduceCtorEq, Int.reduceAdd, Int.reduceSub, Int.reduceMul, Int.reduceLT, Int.reduceLE, Int.reduceToNat, Int.reduceNeg, Int.reduceEq, Int.reduceNe, UInt8.reduceOfNat, true_and, File.e, Out.e, ints, strs]
      rfl
    · intro i a _ hi hx hm hlt h0 hw hI
      have ha := List.mem_iff_getElem?.2 ⟨i, hx⟩
      have hc := fun stk => e_atom (locsB f) a o stk hll (atomV_some hr hfit ha).1 (atomV_some hr hfit ha).2
      simp only [Atom.e, Out.e, ints, strs] at hc
      cases hH : holdP (locsB f) o a with
      | false =>
        simp +contextual (maxSteps := 10000000) only [go_sem, ↓reduceIte, Nat.reduceLT, Nat.reduceEqDiff, Nat.reduceAdd, Nat.reduceSub, Nat.reduceMul, Nat.reduceLeDiff, Nat.reduceBEq, reduceCtorEq, Int.reduceAdd, Int.reduceSub, Int.reduceMul, Int.reduceLT, Int.reduceLE, Int.reduceToNat, Int.reduceNeg, Int.reduceEq, Int.reduceNe, UInt8.reduceOfNat, true_and, File.e, Atom.e, Out.e, ints, strs, hm, hlt, h0, hw, hc, hH]
        rw [holdsB, List.all_eq_false.2 ⟨a, ha, by simp [hH]⟩, Bool.and_false]
      | true =>
        simp +contextual (maxSteps := 10000000) only [go_sem, ↓reduceIte, Nat.reduceLT, Nat.reduceEqDiff, Nat.reduceAdd, Nat.reduceSub, Nat.reduceMul, Nat.reduceLeDiff, Nat.reduceBEq, reduceCtorEq, Int.reduceAdd, Int.reduceSub, Int.reduceMul, Int.reduceLT, Int.reduceLE, Int.reduceToNat, Int.reduceNeg, Int.reduceEq, Int.reduceNe, UInt8.reduceOfNat, true_and, File.e, Atom.e, Out.e, ints, strs, hm, hlt, h0, hw, hc, hH]
        refine ⟨(), fun x hx' => ?_⟩
        rw [take_snoc hx] at hx'
        rcases List.mem_append.1 hx' with h | h
        · exact hI x h
        · rw [List.mem_singleton.1 h]; exact hH
    · intro _ hI
      rw [List.take_length] at hI
      simp +contextual (maxSteps := 10000000) only [go_sem, ↓reduceIte, Nat.reduceLT, Nat.reduceEqDiff, Nat.reduceAdd, Nat.reduceSub, Nat.reduceMul, Nat.reduceLeDiff, Nat.reduceBEq, reduceCtorEq, Int.reduceAdd, Int.reduceSub, Int.reduceMul, Int.reduceLT, Int.reduceLE, Int.reduceToNat, Int.reduceNeg, Int.reduceEq, Int.reduceNe, UInt8.reduceOfNat, true_and, File.e, Out.e, ints, strs, Int.lt_irrefl]
      rw [holdsB, hfit, List.all_eq_true.2 hI, Bool.and_true]

set_option maxHeartbeats 4000000 in
set_option maxRecDepth 10000 in
theorem e_rvalue (f : File) (l : List Out) (stk : Stk) (hf : f.Fit) (hl : l.length ≤ maxLen ∧ ∀ o ∈ l, o.Fit) (hn : (namesR f).length ≤ 500000) (ht : f.threads.length ≤ 100) (hr : rightB f = true) :
    cl Try.prog an prm 31 [.agg f.e, .sl 2 (l.map Out.e)] stk = some (.bool (valueB f l), stk) := by
  rw [cl_eq rfl Try.func31 rfl _ _ (by simp [Try.f31])]
  simp +contextual (maxSteps := 10000000) only [go_sem, ↓reduceIte, Nat.reduceLT, Nat.reduceEqDiff, Nat.reduceAdd, Nat.reduceSub, Nat.reduceMul, Nat.reduceLeDiff, Nat.reduceBEq, reduceCtorEq, Int.reduceAdd, Int.reduceSub, Int.reduceMul, Int.reduceLT, Int.reduceLE, Int.reduceToNat, Int.reduceNeg, Int.reduceEq, Int.reduceNe, UInt8.reduceOfNat, true_and, File.e]
  generalize hE : ev _ _ _ _ (.loop _) _ = E
  revert E
  refine ev_phil l Out.e (fun i (_ : Unit) => ⟨[(5, .int .i64 i), (2, .ptr 0 2 0), (1, .sl 2 (l.map Out.e))], [(2, .cells f.e)] :: stk⟩) (fun i _ => ∀ o ∈ l.take i, holdsB f o = f.all) () hl.1 ?_ (by simp) ?_ ?_
  · simp +contextual (maxSteps := 10000000) only [go_sem, ↓reduceIte, Nat.reduceLT, Nat.reduceEqDiff, Nat.reduceAdd, Nat.reduceSub, Nat.reduceMul, Nat.reduceLeDiff, Nat.reduceBEq, reduceCtorEq, Int.reduceAdd, Int.reduceSub, Int.reduceMul, Int.reduceLT, Int.reduceLE, Int.reduceToNat, Int.reduceNeg, Int.reduceEq, Int.reduceNe, UInt8.reduceOfNat, true_and, File.e]
    rfl
  · intro i o _ hi hx hm hlt h0 hw hI
    have ho := List.mem_iff_getElem?.2 ⟨i, hx⟩
    have hc := fun stk => e_rholds f o stk hf (hl.2 o ho) hn ht hr
    simp only [File.e, Out.e, ints] at hc
    cases hH : holdsB f o == f.all with
    | false =>
      simp +contextual (maxSteps := 10000000) only [go_sem, ↓reduceIte, Nat.reduceLT, Nat.reduceEqDiff, Nat.reduceAdd, Nat.reduceSub, Nat.reduceMul, Nat.reduceLeDiff, Nat.reduceBEq, reduceCtorEq, Int.reduceAdd, Int.reduceSub, Int.reduceMul, Int.reduceLT, Int.reduceLE, Int.reduceToNat, Int.reduceNeg, Int.reduceEq, Int.reduceNe, UInt8.reduceOfNat, true_and, File.e, Out.e, ints, hm, hlt, h0, hw, hc, hH]
      have : holdsB f o = !f.all := by revert hH; cases holdsB f o <;> cases f.all <;> simp
      rw [valueB, List.any_eq_true.2 ⟨o, ho, by rw [this, beq_self_eq_true]⟩, this]
      cases f.all <;> rfl
    | true =>
      simp +contextual (maxSteps := 10000000) only [go_sem, ↓reduceIte, Nat.reduceLT, Nat.reduceEqDiff, Nat.reduceAdd, Nat.reduceSub, Nat.reduceMul, Nat.reduceLeDiff, Nat.reduceBEq, reduceCtorEq, Int.reduceAdd, Int.reduceSub, Int.reduceMul, Int.reduceLT, Int.reduceLE, Int.reduceToNat, Int.reduceNeg, Int.reduceEq, Int.reduceNe, UInt8.reduceOfNat, true_and, File.e, Out.e, ints, hm, hlt, h0, hw, hc, hH]
      refine ⟨(), fun x hx' => ?_⟩
      rw [take_snoc hx] at hx'
      rcases List.mem_append.1 hx' with h | h
      · exact hI x h
      · rw [List.mem_singleton.1 h]; exact eq_of_beq hH
  · intro _ hI
    rw [List.take_length] at hI
    simp +contextual (maxSteps := 10000000) only [go_sem, ↓reduceIte, Nat.reduceLT, Nat.reduceEqDiff, Nat.reduceAdd, Nat.reduceSub, Nat.reduceMul, Nat.reduceLeDiff, Nat.reduceBEq, reduceCtorEq, Int.reduceAdd, Int.reduceSub, Int.reduceMul, Int.reduceLT, Int.reduceLE, Int.reduceToNat, Int.reduceNeg, Int.reduceEq, Int.reduceNe, UInt8.reduceOfNat, true_and, File.e, Int.lt_irrefl]
    rw [valueB, List.any_eq_false.2 fun o ho => by rw [hI o ho]; cases f.all <;> simp]
    cases f.all <;> rfl

set_option maxHeartbeats 4000000 in
set_option maxRecDepth 10000 in
theorem eq5 (f : File) (o : Out) (l : List Out) (hf : f.Fit) (ho : o.Fit) (hl : l.length ≤ maxLen ∧ ∀ o ∈ l, o.Fit) : cl Try.prog an prm 5 [.agg f.e, .agg o.e, .sl 2 (l.map Out.e)] [] = some (.bool true, []) := by
  rw [cl_eq rfl Try.func5 rfl _ _ (by simp [Try.f5])]
  have hh := fun stk => e_chead stk
  have hg := fun stk => e_greatC f l stk hf hl.1
  have hb := fun stk => e_big [o] stk (show 1 ≤ maxLen by decide)
  simp only [File.e] at hg
  simp only [Out.e, ints, List.map_cons, List.map_nil] at hb
  cases hG : (greatB f || (!rightB f || bigB l)) with
  | true =>
    rw [hG] at hg
    simp +contextual (maxSteps := 10000000) only [go_sem, ↓reduceIte, Nat.reduceLT, Nat.reduceEqDiff, Nat.reduceAdd, Nat.reduceSub, Nat.reduceMul, Nat.reduceLeDiff, Nat.reduceBEq, reduceCtorEq, Int.reduceAdd, Int.reduceSub, Int.reduceMul, Int.reduceLT, Int.reduceLE, Int.reduceToNat, Int.reduceNeg, Int.reduceEq, Int.reduceNe, UInt8.reduceOfNat, true_and, File.e, Out.e, ints, hh, hg]
  | false =>
  rw [hG] at hg
  cases hB : bigB [o] with
  | true =>
    simp +contextual (maxSteps := 10000000) only [go_sem, ↓reduceIte, Nat.reduceLT, Nat.reduceEqDiff, Nat.reduceAdd, Nat.reduceSub, Nat.reduceMul, Nat.reduceLeDiff, Nat.reduceBEq, reduceCtorEq, Int.reduceAdd, Int.reduceSub, Int.reduceMul, Int.reduceLT, Int.reduceLE, Int.reduceToNat, Int.reduceNeg, Int.reduceEq, Int.reduceNe, UInt8.reduceOfNat, true_and, File.e, Out.e, ints, hh, hg, hb, hB]
  | false =>
  obtain ⟨k1, k2, k3, k4, k5, k6, _⟩ := guard_ok hG
  have c1 := fun stk => e_holds f o stk hf ho k1 k2 k3
  have c2 := fun stk => e_rholds f o stk hf ho k1 k2 k3
  have c3 := fun stk => e_value f l stk hf hl k1 k2 k3
  have c4 := fun stk => e_rvalue f l stk hf hl k1 k2 k3
  simp only [File.e, Out.e, ints] at c1 c2
  simp only [File.e] at c3 c4
  simp +contextual (maxSteps := 10000000) only [go_sem, ↓reduceIte, Nat.reduceLT, Nat.reduceEqDiff, Nat.reduceAdd, Nat.reduceSub, Nat.reduceMul, Nat.reduceLeDiff, Nat.reduceBEq, reduceCtorEq, Int.reduceAdd, Int.reduceSub, Int.reduceMul, Int.reduceLT, Int.reduceLE, Int.reduceToNat, Int.reduceNeg, Int.reduceEq, Int.reduceNe, UInt8.reduceOfNat, true_and, File.e, Out.e, ints, hh, hg, hb, hB, c1, c2, c3, c4]
end Go.Proofs.Ytcecleclipcheaa

set_option linter.unusedVariables false
set_option linter.unusedSimpArgs false
namespace Go.Proofs.Ytcecleclipcheaa
open Go Go.Shade Go.Fence
attribute [local congr] ite_congr

set_option maxHeartbeats 4000000 in
set_option maxRecDepth 10000 in
theorem eq9 (f : File) (o : Out) (at' n : Int) (hf : f.Fit) (ho : o.Fit) (hat : (Lit.int .u8 at').wf = true) (hn : I64 n) : cl Try.prog an prm 9 [.agg f.e, .agg o.e, .int .u8 at', .int .i64 n] [] = some (.bool true, []) := by
  rw [cl_eq rfl Try.func9 rfl _ _ (by simp [Try.f9])]
  have hh := fun stk => e_chead stk
  have hg := fun stk => e_greatC f [o] stk hf (show 1 ≤ maxLen by decide)
  simp only [File.e, Out.e, ints, List.map_cons, List.map_nil] at hg
  cases hG : (greatB f || (!rightB f || bigB [o])) with
  | true =>
    rw [hG] at hg
    simp +contextual (maxSteps := 10000000) only [go_sem, ↓reduceIte, Nat.reduceLT, Nat.reduceEqDiff, Nat.reduceAdd, Nat.reduceSub, Nat.reduceMul, Nat.reduceLeDiff, Nat.reduceBEq, reduceCtorEq, Int.reduceAdd, Int.reduceSub, Int.reduceMul, Int.reduceLT, Int.reduceLE, Int.reduceToNat, Int.reduceNeg, Int.reduceEq, Int.reduceNe, UInt8.reduceOfNat, true_and, File.e, Out.e, ints, hh, hg]
  | false =>
  rw [hG] at hg
  obtain ⟨k1, k2, k3, k4, k5, k6, k7⟩ := guard_ok hG
  have hw4 : IntKind.i64.wrap (4 * (f.threads.length : Int)) = 4 * (f.threads.length : Int) := wrap_i64 (by omega) (by omega)
  have hlo := fun stk => e_rflocs f stk hf k1
  simp only [File.e, strs] at hlo
  cases g1 : decide ((o.mem.length : Int) = ((locsB f).length : Int)) with
  | false =>
    simp +contextual (maxSteps := 10000000) only [go_sem, ↓reduceIte, Nat.reduceLT, Nat.reduceEqDiff, Nat.reduceAdd, Nat.reduceSub, Nat.reduceMul, Nat.reduceLeDiff, Nat.reduceBEq, reduceCtorEq, Int.reduceAdd, Int.reduceSub, Int.reduceMul, Int.reduceLT, Int.reduceLE, Int.reduceToNat, Int.reduceNeg, Int.reduceEq, Int.reduceNe, UInt8.reduceOfNat, true_and, File.e, Out.e, ints, hh, hg, hlo, hw4, g1]
  | true =>
  cases g2 : decide ((o.regs.length : Int) = 4 * (f.threads.length : Int)) with
  | false =>
    simp +contextual (maxSteps := 10000000) only [go_sem, ↓reduceIte, Nat.reduceLT, Nat.reduceEqDiff, Nat.reduceAdd, Nat.reduceSub, Nat.reduceMul, Nat.reduceLeDiff, Nat.reduceBEq, reduceCtorEq, Int.reduceAdd, Int.reduceSub, Int.reduceMul, Int.reduceLT, Int.reduceLE, Int.reduceToNat, Int.reduceNeg, Int.reduceEq, Int.reduceNe, UInt8.reduceOfNat, true_and, File.e, Out.e, ints, hh, hg, hlo, hw4, g1, g2]
  | true =>
  have hfit : fitsB f o = true := by
    simp only [fitsB, Bool.and_eq_true, decide_eq_true_eq] at g1 g2 ⊢
    omega
  have hth := (head_names ((right_iff f).1 k3).1).2.2
  have hq1 : o.mem.length = (locsB f).length := by simpa [Int.ofNat_inj] using g1
  have hq2 : o.regs.length = 4 * f.threads.length := by have := of_decide_eq_true g2; omega
  have hoo := k6 o (by simp)
  have ha : 0 ≤ at' ∧ at' ≤ 255 := by
    simp only [Lit.wf, Bool.and_eq_true, decide_eq_true_eq] at hat
    exact hat
  have hwa : IntKind.i64.wrap at' = at' := wrap_i64 (by omega) (by omega)
  have hwm : IntKind.i64.wrap ((o.regs.length : Int) + (o.mem.length : Int)) = (o.regs.length : Int) + (o.mem.length : Int) := wrap_i64 (by omega) (by omega)
  obtain ⟨K, hK⟩ : ∃ K, at'.tmod ((o.regs.length : Int) + (o.mem.length : Int)) = K := ⟨_, rfl⟩
  have hK1 : 0 ≤ K ∧ K < (o.regs.length : Int) + (o.mem.length : Int) := by
    rw [← hK]
    exact ⟨Int.tmod_nonneg _ ha.1, Int.tmod_lt_of_pos _ (by omega)⟩
  have hnz : ((o.regs.length : Int) + (o.mem.length : Int) = 0) = False := by
    rw [eq_iff_iff, iff_false]; omega
  have hl1 : (f.cond.length ≤ most) = True := by rw [eq_iff_iff, iff_true]; simp only [most]; omega
  have hl2 : (f.cond.length + 1 ≤ most) = True := by rw [eq_iff_iff, iff_true]; simp only [most]; omega
  have hhf' := fun stk => e_holds f o stk hf ho k1 k2 k3
  simp only [File.e, Out.e, ints] at hhf'
  cases g3 : decide (K < (o.regs.length : Int)) with
  | true =>
    have g3' : K < (o.regs.length : Int) := of_decide_eq_true g3
    obtain ⟨R, hR⟩ : ∃ R, K.tmod 4 = R := ⟨_, rfl⟩
    obtain ⟨D, hD⟩ : ∃ D, K.tdiv 4 = D := ⟨_, rfl⟩
    have hDR : 4 * D + R = K ∧ 0 ≤ R ∧ R < 4 ∧ 0 ≤ D := by
      rw [Int.tmod_eq_emod_of_nonneg hK1.1] at hR
      rw [Int.tdiv_eq_ediv_of_nonneg hK1.1] at hD
      omega
    have hwD : IntKind.i64.wrap D = D := wrap_i64 (by omega) (by omega)
    obtain ⟨v, hv⟩ : ∃ v, o.regs[K.toNat]? = some v := ⟨_, List.getElem?_eq_getElem (by omega)⟩
    have hv' : (o.regs.map fun n => [V.int .i64 n])[K.toNat]? = some [.int .i64 v] := by simp [hv]
    have hnm := regN_fit R
    have hin : (⟨D, regN R, n⟩ : Atom).thread = -1 → (⟨D, regN R, n⟩ : Atom).name ∈ locsB f := fun h => by simp only at h; omega
    have hhp : holdP (locsB f) o ⟨D, regN R, n⟩ = decide (v = n) := by
      simp only [holdP, atomV, regI_regN ⟨hDR.2.1, hDR.2.2.1⟩, hDR.1, hv, if_pos hDR.2.2.2, Option.some.injEq]
    have hfg : (f.ask (f.cond ++ [⟨D, regN R, n⟩])).Fit := ask_fit hf ⟨i64_small (n := D) (by omega) (by omega), hnm, hn⟩ k5
    have hrg := fun stk => e_rfright (f.ask (f.cond ++ [⟨D, regN R, n⟩])) stk hfg (k7 _ (by simp; omega))
    simp only [ask_e, List.map_append, List.map_cons, List.map_nil, Atom.e] at hrg
    cases g4 : rightB (f.ask (f.cond ++ [⟨D, regN R, n⟩])) with
    | false =>
      simp +contextual (maxSteps := 10000000) only [go_sem, ↓reduceIte, Nat.reduceLT, Nat.reduceEqDiff, Nat.reduceAdd, Nat.reduceSub, Nat.reduceMul, Nat.reduceLeDiff, Nat.reduceBEq, reduceCtorEq, Int.reduceAdd, Int.reduceSub, Int.reduceMul, Int.reduceLT, Int.reduceLE, Int.reduceToNat, Int.reduceNeg, Int.reduceEq, Int.reduceNe, UInt8.reduceOfNat, true_and, File.e, Out.e, ints, strs, hh, hg, hlo, hw4, g1, g2, hwa, hwm, hl1, hl2, hrg, g4, hK, hnz, g3, hR, hD, hwD, e_rregname, hv', hK1.1]
      trace_state
    | true =>
      have hhg := fun stk => e_holds (f.ask (f.cond ++ [⟨D, regN R, n⟩])) o stk hfg ho (k7 _ (by simp; omega)) k2 g4
      rw [ask_more k3 g4 hin, hhp] at hhg
      simp only [ask_e, List.map_append, List.map_cons, List.map_nil, Atom.e, Out.e, ints] at hhg
      simp +contextual (maxSteps := 10000000) only [go_sem, ↓reduceIte, Nat.reduceLT, Nat.reduceEqDiff, Nat.reduceAdd, Nat.reduceSub, Nat.reduceMul, Nat.reduceLeDiff, Nat.reduceBEq, reduceCtorEq, Int.reduceAdd, Int.reduceSub, Int.reduceMul, Int.reduceLT, Int.reduceLE, Int.reduceToNat, Int.reduceNeg, Int.reduceEq, Int.reduceNe, UInt8.reduceOfNat, true_and, File.e, Out.e, ints, strs, hh, hg, hlo, hw4, g1, g2, hwa, hwm, hl1, hl2, hrg, g4, hhg, hhf', hK, hnz, g3, hR, hD, hwD, e_rregname, hv', hK1.1]
      trace_state
  | false =>
    have g3' : ¬ K < (o.regs.length : Int) := of_decide_eq_false g3
    obtain ⟨J, hJ⟩ : ∃ J : Nat, K = (o.regs.length : Int) + J := ⟨(K - o.regs.length).toNat, by omega⟩
    have hwJ : IntKind.i64.wrap (J : Int) = (J : Int) := wrap_i64 (by omega) (by omega)
    have hKJ' : K - (o.regs.length : Int) = (J : Int) := by omega
    have h0J : ((0 : Int) ≤ (J : Int)) = True := by simp
    obtain ⟨s, hs⟩ : ∃ s, (locsB f)[J]? = some s := ⟨_, List.getElem?_eq_getElem (by omega)⟩
    have hs' : ((locsB f).map fun s => [V.str s])[J]? = some [.str s] := by simp [hs]
    obtain ⟨v, hv⟩ : ∃ v, o.mem[J]? = some v := ⟨_, List.getElem?_eq_getElem (by omega)⟩
    have hv' : (o.mem.map fun n => [V.int .i64 n])[J]? = some [.int .i64 v] := by simp [hv]
    have hsm : s ∈ locsB f := List.mem_iff_getElem?.2 ⟨J, hs⟩
    have hnm := name_fit hf hsm k3
    have hin : (⟨-1, s, n⟩ : Atom).thread = -1 → (⟨-1, s, n⟩ : Atom).name ∈ locsB f := fun _ => hsm
    have hhp : holdP (locsB f) o ⟨-1, s, n⟩ = decide (v = n) := by
      simp [holdP, atomV, idxS_at (rise_locs k3) hs, hv]
    have hfg : (f.ask (f.cond ++ [⟨-1, s, n⟩])).Fit := ask_fit hf ⟨i64_small (n := -1) (by omega) (by omega), hnm, hn⟩ k5
    have hrg := fun stk => e_rfright (f.ask (f.cond ++ [⟨-1, s, n⟩])) stk hfg (k7 _ (by simp; omega))
    simp only [ask_e, List.map_append, List.map_cons, List.map_nil, Atom.e] at hrg
    cases g4 : rightB (f.ask (f.cond ++ [⟨-1, s, n⟩])) with
    | false =>
      simp +contextual (maxSteps := 10000000) only [go_sem, ↓reduceIte, Nat.reduceLT, Nat.reduceEqDiff, Nat.reduceAdd, Nat.reduceSub, Nat.reduceMul, Nat.reduceLeDiff, Nat.reduceBEq, reduceCtorEq, Int.reduceAdd, Int.reduceSub, Int.reduceMul, Int.reduceLT, Int.reduceLE, Int.reduceToNat, Int.reduceNeg, Int.reduceEq, Int.reduceNe, UInt8.reduceOfNat, true_and, File.e, Out.e, ints, strs, hh, hg, hlo, hw4, g1, g2, hwa, hwm, hl1, hl2, hrg, g4, hK, hnz, g3, hwJ, hKJ', h0J, hs', hv', Int.toNat_natCast]
      trace_state
    | true =>
      have hhg := fun stk => e_holds (f.ask (f.cond ++ [⟨-1, s, n⟩])) o stk hfg ho (k7 _ (by simp; omega)) k2 g4
      rw [ask_more k3 g4 hin, hhp] at hhg
      simp only [ask_e, List.map_append, List.map_cons, List.map_nil, Atom.e, Out.e, ints] at hhg
      simp +contextual (maxSteps := 10000000) only [go_sem, ↓reduceIte, Nat.reduceLT, Nat.reduceEqDiff, Nat.reduceAdd, Nat.reduceSub, Nat.reduceMul, Nat.reduceLeDiff, Nat.reduceBEq, reduceCtorEq, Int.reduceAdd, Int.reduceSub, Int.reduceMul, Int.reduceLT, Int.reduceLE, Int.reduceToNat, Int.reduceNeg, Int.reduceEq, Int.reduceNe, UInt8.reduceOfNat, true_and, File.e, Out.e, ints, strs, hh, hg, hlo, hw4, g1, g2, hwa, hwm, hl1, hl2, hrg, g4, hhg, hhf', hK, hnz, g3, hwJ, hKJ', h0J, hs', hv', Int.toNat_natCast]
      trace_state
end Go.Proofs.Ytcecleclipcheaa
