/-
  Regions whose order is drawn: the check, and what it gives.
-/
import Derived.Test.YtcecleclipcheaaSh19
set_option linter.unusedVariables false
set_option linter.unusedSimpArgs false
namespace Go.Shade
open Go Go.RowKit

/-- The check's table ahead of operation k. -/
def accAt (ops : Array Oper) : Nat → List (Nat × Oper × Nat)
  | 0 => []
  | k + 1 => match ops[k]? with
    | some o => (k, o, maskB (accAt ops k) (depsB o)) :: accAt ops k
    | none => accAt ops k
def befA (ops : Array Oper) (i j : Nat) : Prop := ∃ o, ops[i]? = some o ∧ (maskB (accAt ops i) (depsB o)).testBit j = true

section
variable {P : Program} {A : An} {F : FuncId} {call : Call} {q : Bool} {rd : Option Stk} {ops : Array Oper}

theorem acc_succ {k : Nat} {o : Oper} (h : ops[k]? = some o) : accAt ops (k + 1) = (k, o, maskB (accAt ops k) (depsB o)) :: accAt ops k := by
  show (match ops[k]? with
    | some o => (k, o, maskB (accAt ops k) (depsB o)) :: accAt ops k
    | none => accAt ops k) = _
  rw [h]
theorem acc_none {k : Nat} (h : ops[k]? = none) : accAt ops (k + 1) = accAt ops k := by
  show (match ops[k]? with
    | some o => (k, o, maskB (accAt ops k) (depsB o)) :: accAt ops k
    | none => accAt ops k) = _
  rw [h]
theorem acc_mem {i k : Nat} {o : Oper} (hi : ops[i]? = some o) (hk : i < k) : (i, o, maskB (accAt ops i) (depsB o)) ∈ accAt ops k := by
  induction k with
  | zero => omega
  | succ k ih =>
    by_cases e : i = k
    · subst e
      rw [acc_succ hi]
      exact List.mem_cons_self
    · have := ih (by omega)
      cases hk : ops[k]? with
      | some x => rw [acc_succ hk]; exact List.mem_cons_of_mem _ this
      | none => rw [acc_none hk]; exact this
theorem acc_of {k : Nat} {p : Nat × Oper × Nat} (h : p ∈ accAt ops k) : p.1 < k ∧ ops[p.1]? = some p.2.1 ∧ p.2.2 = maskB (accAt ops p.1) (depsB p.2.1) := by
  induction k with
  | zero => cases h
  | succ k ih =>
    unfold accAt at h
    split at h
    · rename_i o ho
      rcases List.mem_cons.1 h with rfl | h
      · exact ⟨by simp, ho, rfl⟩
      · obtain ⟨h1, h2, h3⟩ := ih h
        exact ⟨by omega, h2, h3⟩
    · obtain ⟨h1, h2, h3⟩ := ih h
      exact ⟨by omega, h2, h3⟩

theorem mask_bit {acc : List (Nat × Oper × Nat)} {j : Nat} : ∀ {ds : List Nat}, (maskB acc ds).testBit j = true → j ∈ ds ∨ ∃ d ∈ ds, ∃ p, p ∈ acc ∧ p.1 = d ∧ p.2.2.testBit j = true
  | [], h => by simp [maskB] at h
  | d :: r, h => by
    simp only [maskB, Nat.testBit_or, Bool.or_eq_true] at h
    rcases h with (h | h) | h
    · rw [Nat.testBit_two_pow] at h
      have : d = j := by simpa using h
      exact .inl (by simp [this])
    · split at h
      · rename_i p hp
        refine .inr ⟨d, by simp, p, List.mem_of_find?_eq_some hp, ?_, h⟩
        have := List.find?_some hp
        simpa using this
      · simp at h
    · rcases mask_bit h with h | ⟨e, he, p, hp⟩
      · exact .inl (by simp [h])
      · exact .inr ⟨e, by simp [he], p, hp⟩

/-- What the check says of operation i. -/
structure Fact (A : An) (F : FuncId) (q : Bool) (ops : Array Oper) (i : Nat) (o : Oper) : Prop where
  less : ∀ d ∈ depsB o, d < i
  pair : ∀ p ∈ accAt ops i, (maskB (accAt ops i) (depsB o)).testBit p.1 = true ∨ (pairOk A F q ops p.2.1 o = true ∧ (q = true → brB o = true → rdB p.2.1 = true → False))
  late : q = true → ∀ p ∈ accAt ops i, brB p.2.1 = true → rdB o = true → False

theorem chk_fact : ∀ (l : List Oper) (k : Nat), chkD A F q ops k l (accAt ops k) = true → (∀ j, l[j]? = ops[k + j]?) → ∀ i o, k ≤ i → ops[i]? = some o → Fact A F q ops i o
  | [], k, _, hl, i, o, hi, ho => by
    have := hl (i - k)
    rw [show k + (i - k) = i by omega, ho] at this
    cases this
  | x :: l, k, h, hl, i, o, hi, ho => by
    have h0 : ops[k]? = some x := by simpa using (hl 0).symm
    simp only [chkD, Bool.and_eq_true] at h
    obtain ⟨⟨⟨⟨_, h2⟩, h3⟩, h4⟩, h5⟩ := h
    by_cases e : i = k
    · subst e
      rw [h0] at ho
      cases ho
      refine ⟨fun d hd => by simpa using List.all_eq_true.1 h2 d hd, fun p hp => ?_, fun hq p hp hb hr => ?_⟩
      · have := List.all_eq_true.1 h3 p hp
        simp only [Bool.or_eq_true, Bool.and_eq_true] at this
        rcases this with h | ⟨h, h'⟩
        · exact .inl h
        · refine .inr ⟨h, fun hq hb hr => ?_⟩
          simp [hq, hb, hr] at h'
      · simp only [hq, Bool.not_true, Bool.false_or] at h4
        have := List.all_eq_true.1 h4 p hp
        simp [hb, hr] at this
    · refine chk_fact l (k + 1) ?_ (fun j => ?_) i o (by omega) ho
      · have e1 : accAt ops (k + 1) = (k, x, maskB (accAt ops k) (depsB x)) :: accAt ops k := by
          show (match ops[k]? with
            | some o => (k, o, maskB (accAt ops k) (depsB o)) :: accAt ops k
            | none => accAt ops k) = _
          rw [h0]
        rw [e1]
        exact h5
      · have := hl (j + 1)
        simpa [Nat.add_assoc, Nat.add_comm 1 j] using this

theorem bef_ok (hfact : ∀ i o, ops[i]? = some o → Fact A F q ops i o) : Bef ops (befA ops) := by
  refine ⟨fun i o j ho hb => ?_, fun i o d ho hd => (hfact i o ho).less d hd⟩
  obtain ⟨o', ho', hb⟩ := hb
  rw [ho] at ho'
  cases ho'
  rcases mask_bit hb with h | ⟨d, hd, p, hp, rfl, hbit⟩
  · exact .inl h
  · obtain ⟨h1, h2, h3⟩ := acc_of hp
    exact .inr ⟨p.1, hd, p.2.1, h2, by rw [← h3]; exact hbit⟩

/-- The first k are listed. -/
def Upto (ops : Array Oper) (k : Nat) (listed : Array Bool) : Prop := listed.size = ops.size ∧ ∀ i, i < ops.size → listed[i]? = some (decide (i < k))
theorem Upto.getD {k : Nat} {listed : Array Bool} (h : Upto ops k listed) {i : Nat} (hi : i < ops.size) (b : Bool) : listed.getD i b = decide (i < k) := by
  simp [Array.getD_eq_getD_getElem?, h.2 i hi]
theorem Upto.next {k : Nat} {listed : Array Bool} (h : Upto ops k listed) : Upto ops (k + 1) (listed.setIfInBounds k true) := by
  refine ⟨by simpa using h.1, fun i hi => ?_⟩
  rw [Array.getElem?_setIfInBounds]
  by_cases e : k = i
  · subst e
    simp [h.1, hi]
  · rw [if_neg e, h.2 i hi]
    congr 1
    simp only [decide_eq_decide]
    omega
theorem Upto.shut {k : Nat} {listed : Array Bool} (h : Upto ops k listed) (hfact : ∀ i o, ops[i]? = some o → Fact A F q ops i o) : Shut ops listed := by
  intro i o ho hl d hd
  have hi := (Array.getElem?_eq_some_iff.1 ho).1
  have hlt := (hfact i o ho).less d hd
  rw [h.getD hi] at hl
  rw [h.getD (by omega)]
  have : i < k := by simpa using hl
  simp
  omega

theorem allD_lex (hf : Fit q rd) (hfact : ∀ i o, ops[i]? = some o → Fact A F q ops i o) {S' : St} : ∀ (l : List Oper) (k : Nat) (listed : Array Bool) (S : St), (∀ j, l[j]? = ops[k + j]?) → Upto ops k listed →
    evL P A call F rd q ops l S.tm S.stk = some S' → allD P A call F q rd ops S' l.length listed S
  | [], k, listed, S, hl, hu, he => by
    have hsz : ops.size ≤ k := by
      have := hl 0
      simp at this
      exact this
    cases he
    refine ⟨?_, rfl⟩
    apply List.eq_nil_iff_forall_not_mem.2
    intro i hi
    obtain ⟨h1, o, ho, _⟩ := ready_iff.1 hi
    have hlt := (Array.getElem?_eq_some_iff.1 ho).1
    rw [hu.getD hlt] at h1
    simp at h1
    omega
  | o :: l, k, listed, S, hl, hu, he => by
    have h0 : ops[k]? = some o := by simpa using (hl 0).symm
    have hk := (Array.getElem?_eq_some_iff.1 h0).1
    rw [evL_cons] at he
    obtain ⟨S1, h1, h2⟩ := Option.bind_eq_some_iff.1 he
    refine allD_first hf (bef_ok hfact) h0 l.length listed S S1 hu.1 (hu.shut hfact) (fun j oj hj hne hun hnb => ?_) ?_ h1 (allD_lex hf hfact l (k + 1) _ S1 (fun j => by
      have := hl (j + 1)
      simpa [Nat.add_assoc, Nat.add_comm 1 j] using this) hu.next h2)
    · have hjl := (Array.getElem?_eq_some_iff.1 hj).1
      rw [hu.getD hjl] at hun
      have hkj : k < j := by simp at hun; omega
      rcases (hfact j oj hj).pair _ (acc_mem h0 hkj) with h | h
      · exact absurd ⟨oj, hj, h⟩ hnb
      · exact h.1
    · refine ready_iff.2 ⟨by rw [hu.getD hk]; simp, o, h0, fun d hd => ?_⟩
      have hlt := (hfact k o h0).less d hd
      rw [hu.getD (by omega)]
      simpa using hlt

variable {W0 : World} {Φ : Held} {n : Nat}
theorem step_rd {o : Oper} (h : rdB o = false) {S : St} (rd' : Option Stk) : stepD P A call F q rd' ops o S = stepD P A call F q rd ops o S := by
  unfold stepD coreD
  rw [evO_rd h (rd.getD S.stk)]

/-- Where a run of a drawn order stands. -/
structure Stand (q : Bool) (rd : Option Stk) (ops : Array Oper) (listed : Array Bool) (S : St) : Prop where
  size : listed.size = ops.size
  shut : Shut ops listed
  sub : Sub (rd.getD S.stk) S.stk ∨ ∀ i o, ops[i]? = some o → rdB o = true → listed.getD i true = true

theorem allD_ok (hc : CallSnd P call) (hf : Fit q rd) (hfact : ∀ i o, ops[i]? = some o → Fact A F q ops i o) (hdst : ∀ (i : Nat) (o : Oper) (d : Nat), ops[i]? = some o → o.dst = some d → d < n) {S' : St} {Q : Exit → Act → World → Prop} :
    ∀ (m : Nat) (listed : Array Bool) (S : St) (a : Act) (w : World) (g : G), StR W0 Φ n g S a w → Stand q rd ops listed S → allD P A call F q rd ops S' m listed S →
      (∀ a' w' g', StR W0 Φ n g' S' a' w' → Ext 0 g g' → Q .normal a' w') → wpAny P .any ops Q m listed a w := by
  intro m
  induction m with
  | zero =>
    intro listed S a w g h hst hall hQ
    refine ⟨hall.1, ?_⟩
    have := hall.2
    subst this
    exact hQ a w g h (Ext.refl 0 g)
  | succ m ih =>
    intro listed S a w g h hst hall hQ
    refine ⟨fun h0 => ?_, fun i hi => ?_⟩
    · have := hall.1 h0
      subst this
      exact hQ a w g h (Ext.refl 0 g)
    · obtain ⟨o, S1, ho, hs1, hall1⟩ := hall.2 i hi
      obtain ⟨hun, o', ho', hdeps⟩ := ready_iff.1 hi
      rw [ho] at ho'
      cases ho'
      have hstand : Stand q rd ops (listed.setIfInBounds i true) S1 := by
        refine ⟨by simpa using hst.size, hst.shut.set hi, ?_⟩
        have keepR : (∀ i o, ops[i]? = some o → rdB o = true → listed.getD i true = true) → ∀ j oj, ops[j]? = some oj → rdB oj = true → (listed.setIfInBounds i true).getD j true = true := by
          intro hall j oj hj hr
          rw [getD_set]
          split
          · rfl
          · exact hall j oj hj hr
        rcases hst.sub with hs | hs
        · unfold Fit at hf
          cases q with
          | false =>
            simp only [Bool.false_eq_true, if_false] at hf
            subst hf
            exact .inl (Sub.refl _)
          | true =>
            obtain ⟨s, rfl⟩ := hf
            cases hb : brB o with
            | false =>
              left
              unfold stepD coreD at hs1
              obtain ⟨r, hr, rfl⟩ := Option.map_eq_some_iff.1 hs1
              split at hr
              · exact evO_sub hb (.inr rfl) hr hs
              · cases hr; exact hs
              · cases hr
            | true =>
              right
              intro j oj hj hr
              rw [getD_set]
              split
              · rfl
              · rename_i hne
                have hjl := (Array.getElem?_eq_some_iff.1 hj).1
                have hil := (Array.getElem?_eq_some_iff.1 ho).1
                have hji : j ≠ i := fun e => hne ⟨e.symm, by rw [hst.size]; exact hil⟩
                rcases Nat.lt_or_ge j i with hlt | hge
                · rcases (hfact i o ho).pair _ (acc_mem hj hlt) with h1 | ⟨_, h1⟩
                  · have := (bef_ok hfact).listed hst.shut hst.size i o j ho hdeps ⟨o, ho, h1⟩
                    simp only [Array.getD_eq_getD_getElem?] at this ⊢
                    cases hq : listed[j]? with
                    | none => rfl
                    | some b => rw [hq] at this; exact this
                  · exact (h1 rfl hb hr).elim
                · exact ((hfact j oj hj).late rfl _ (acc_mem ho (by omega)) hb hr).elim
        · exact .inr (keepR hs)
      show wpOp P ops Q i (wpAny P .any ops Q m (listed.setIfInBounds i true)) a w
      have next : ∀ a' w' g', StR W0 Φ n g' S1 a' w' → Ext 0 g g' → wpAny P .any ops Q m (listed.setIfInBounds i true) a' w' := fun a' w' g' h' he =>
        ih _ S1 a' w' g' h' hstand hall1 fun a2 w2 g2 h2 he2 => hQ a2 w2 g2 h2 (he.trans he2)
      have run : if Region.wanted o (yielded ops a.tmps) then o.wp P a w (wpAny P .any ops Q m (listed.setIfInBounds i true)) Q else wpAny P .any ops Q m (listed.setIfInBounds i true) (a.put o.dst undef) w := by
        rcases hst.sub with hs | hs
        · exact core_wp hc h hs (fun d hd => hdst i o d ho hd) hs1 next
        · have hr : rdB o = false := by
            cases hr : rdB o with
            | false => rfl
            | true =>
              have := hs i o ho hr
              rw [hun] at this
              cases this
          rw [← step_rd hr (some S.stk)] at hs1
          exact core_wp hc h (Sub.refl _) (fun d hd => hdst i o d ho hd) hs1 next
      unfold wpOp
      rw [ho]
      simp only
      split
      · rename_i hw
        rw [if_pos hw] at run
        exact .inl run
      · rename_i hw
        rw [if_neg hw] at run
        exact run

theorem draw_ok (hc : CallSnd P call) (hm : P.follows .mixedOrders = true) (hf : Fit q rd) (hchk : chkD A F q ops 0 ops.toList [] = true) (hdst : ∀ (i : Nat) (o : Oper) (d : Nat), ops[i]? = some o → o.dst = some d → d < n) {S S' : St} {a : Act} {w : World} {g : G} {id : Nat}
    (h : StR W0 Φ n g S a w) (hs : Sub (rd.getD S.stk) S.stk) (he : evL P A call F rd q ops ops.toList S.tm S.stk = some S') {Q : Exit → Act → World → Prop} (hQ : ∀ a' w' g', StR W0 Φ n g' S' a' w' → Ext 0 g g' → Q .normal a' w') :
    (Code.region id ops true).wp P Q a w := by
  have hfact : ∀ i o, ops[i]? = some o → Fact A F q ops i o := fun i o ho => chk_fact ops.toList 0 hchk (by simp) i o (Nat.zero_le _) ho
  have hu : Upto ops 0 (Array.replicate ops.size false) := ⟨by simp, fun i hi => by simp [hi]⟩
  have hall := allD_lex (P := P) (call := call) hf hfact ops.toList 0 (Array.replicate ops.size false) S (by simp) hu he
  rw [Array.length_toList] at hall
  exact wp_region_any hm (allD_ok hc hf hfact hdst ops.size _ S a w.drew g ⟨h.wr.drew, h.tm, h.size, h.defers⟩ ⟨hu.1, hu.shut hfact, .inl hs⟩ hall hQ)
end
end Go.Shade
