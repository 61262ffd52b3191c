/-
  Regions whose order is drawn: every order comes to the same.
-/
import Derived.Test.YtcecleclipcheaaSh18
set_option linter.unusedVariables false
set_option linter.unusedSimpArgs false
namespace Go.Shade
open Go Go.RowKit

/-- 0: asks nothing of the boxes, 1: reads them, 2: writes them. -/
def clsB (A : An) (F : FuncId) (q : Bool) (o : Oper) : Nat := if wrB A F q o then 2 else if !q && rdB o then 1 else 0

def pairOk (A : An) (F : FuncId) (q : Bool) (ops : Array Oper) (x y : Oper) : Bool :=
  x.apart ops y && (clsB A F q x == 0 || clsB A F q y == 0 || (clsB A F q x == 1 && clsB A F q y == 1))

/-- The operations that a binding edge names. -/
def depsB (o : Oper) : List Nat := (o.after.toList.filter fun e => Region.binds .any e).map (·.on)
def noSel (o : Oper) : Bool := match o.op with
  | .select _ _ => false
  | _ => true
/-- Those before an operation, by a mask. -/
def maskB (acc : List (Nat × Oper × Nat)) : List Nat → Nat
  | [] => 0
  | d :: r => (2 ^ d ||| match acc.find? (·.1 == d) with
    | some p => p.2.2
    | none => 0) ||| maskB acc r
def chkD (A : An) (F : FuncId) (q : Bool) (ops : Array Oper) : Nat → List Oper → List (Nat × Oper × Nat) → Bool
  | _, [], _ => true
  | k, o :: r, acc =>
    noSel o && (depsB o).all (· < k) &&
    (acc.all fun p => (maskB acc (depsB o)).testBit p.1 || (pairOk A F q ops p.2.1 o && (!q || !(brB o && rdB p.2.1)))) &&
    (!q || acc.all fun p => !(brB p.2.1 && rdB o)) &&
    chkD A F q ops (k + 1) r ((k, o, maskB acc (depsB o)) :: acc)

section
variable {P : Program} {A : An} {F : FuncId} {call : Call} {q : Bool} {rd : Option Stk} {ops : Array Oper}

/-! ### places changed -/
theorem opd_put {d : Option Nat} {v : V} {tm : List (Nat × V)} {x : Operand} (h : ∀ d', d = some d' → x ≠ .tmp d') : opd (putD d v tm) x = opd tm x := by
  cases d with
  | none => rfl
  | some d =>
    cases x with
    | tmp t =>
      simp only [opd, putD]
      exact look_ins_ne (fun e => h d rfl (by rw [e]))
    | _ => rfl
theorem core_put {o : Oper} {d : Option Nat} {v : V} {tm : List (Nat × V)} {stk : Stk} (h : ∀ d', d = some d' → d' ∉ o.looksAt ops) : coreD P A call F q rd ops o (putD d v tm) stk = coreD P A call F q rd ops o tm stk := by
  unfold coreD
  have hg : gdV (putD d v tm) (resG ops o) = gdV tm (resG ops o) := by
    unfold resG
    cases hgd : o.guard with
    | none => rfl
    | some p =>
      obtain ⟨j, b⟩ := p
      simp only
      cases hj : (ops[j]?).bind (·.dst) with
      | none => rfl
      | some t =>
        simp only [gdV]
        have : look (putD d v tm) t = look tm t := by
          cases d with
          | none => rfl
          | some d =>
            refine look_ins_ne fun e => h d rfl ?_
            subst e
            simp only [Oper.looksAt, hgd, hj, List.mem_append]
            exact .inr (by simp)
        rw [this]
  rw [hg, evO_congr]
  intro x hx
  refine opd_put fun d' hd e => h d' hd ?_
  subst e
  simp only [Oper.looksAt, List.mem_append, List.mem_filterMap]
  exact .inl ⟨_, by simpa using hx, rfl⟩

theorem core_wr {o : Oper} {tm : List (Nat × V)} {stk : Stk} {r : V × Stk} (hw : wrB A F q o = false) (h : coreD P A call F q rd ops o tm stk = some r) : r.2 = stk := by
  unfold coreD at h
  split at h
  · exact evO_wr hw h
  · cases h; rfl
  · cases h
/-- q: the reading boxes are fixed; else they are the boxes themselves. -/
def Fit (q : Bool) (rd : Option Stk) : Prop := if q then ∃ s, rd = some s else rd = none
theorem core_light (hf : Fit q rd) {o : Oper} {tm : List (Nat × V)} {stk : Stk} {r : V × Stk} (hc : clsB A F q o = 0) (h : coreD P A call F q rd ops o tm stk = some r) (stk' : Stk) : coreD P A call F q rd ops o tm stk' = some (r.1, stk') := by
  unfold clsB at hc
  have hw : wrB A F q o = false := by cases hw : wrB A F q o <;> simp [hw] at hc ⊢
  unfold coreD at h ⊢
  split at h
  · unfold Fit at hf
    cases q with
    | true =>
      obtain ⟨s, rfl⟩ := hf
      exact evO_stk hw h stk'
    | false =>
      simp only [Bool.false_eq_true, if_false] at hf
      subst hf
      have hr : rdB o = false := by cases hr : rdB o <;> simp [hw, hr] at hc ⊢
      rw [evO_rd hr stk]
      exact evO_stk hw h stk'
  · cases h; rfl
  · cases h

theorem commute (hf : Fit q rd) {x y : Oper} {S S1 S2 : St} (hp : pairOk A F q ops x y = true) (h1 : stepD P A call F q rd ops x S = some S1) (h2 : stepD P A call F q rd ops y S1 = some S2) :
    ∃ T, stepD P A call F q rd ops y S = some T ∧ stepD P A call F q rd ops x T = some S2 := by
  unfold pairOk at hp
  simp only [Bool.and_eq_true, Bool.or_eq_true, beq_iff_eq] at hp
  obtain ⟨hap, hcls⟩ := hp
  obtain ⟨a1, a2, a3⟩ := Oper.apart_spec hap
  obtain ⟨⟨v, s1⟩, c1, rfl⟩ := Option.map_eq_some_iff.1 h1
  obtain ⟨⟨u, s2⟩, c2, rfl⟩ := Option.map_eq_some_iff.1 h2
  simp only at c2
  rw [core_put a1] at c2
  have tms : putD x.dst v (putD y.dst u S.tm) = putD y.dst u (putD x.dst v S.tm) := by
    cases hx : x.dst with
    | none => rfl
    | some d =>
      cases hy : y.dst with
      | none => rfl
      | some e => exact ins_comm (fun e' => a2 d hx (by rw [hy, e'])) _
  have fin : ∀ t, coreD P A call F q rd ops y S.tm S.stk = some (u, t) → coreD P A call F q rd ops x S.tm t = some (v, s2) → ∃ T, stepD P A call F q rd ops y S = some T ∧ stepD P A call F q rd ops x T = some ⟨putD y.dst u (putD x.dst v S.tm), s2⟩ := by
    intro t k1 k2
    refine ⟨⟨putD y.dst u S.tm, t⟩, by unfold stepD; rw [k1]; rfl, ?_⟩
    unfold stepD
    simp only
    rw [core_put a3, k2]
    simp only [Option.map_some, tms]
  have wr : ∀ {o : Oper}, clsB A F q o = 0 ∨ clsB A F q o = 1 → wrB A F q o = false := by
    intro o ho
    unfold clsB at ho
    cases hw : wrB A F q o
    · rfl
    · simp [hw] at ho
  rcases hcls with (hx | hy) | ⟨hx, hy⟩
  · have e1 := core_wr (wr (.inl hx)) c1
    simp only at e1
    subst e1
    exact fin s2 c2 (core_light hf hx c1 s2)
  · have e2 := core_wr (wr (.inl hy)) c2
    simp only at e2
    subst e2
    exact fin S.stk (core_light hf hy c2 S.stk) c1
  · have e1 := core_wr (wr (.inr hx)) c1
    have e2 := core_wr (wr (.inr hy)) c2
    simp only at e1 e2
    subst e1 e2
    exact fin S.stk c2 c1

/-! ### every order -/
/-- From here on every order comes to S'. -/
def allD (P : Program) (A : An) (call : Call) (F : FuncId) (q : Bool) (rd : Option Stk) (ops : Array Oper) (S' : St) : Nat → Array Bool → St → Prop
  | 0, listed, S => Region.ready .any ops listed = [] ∧ S = S'
  | n + 1, listed, S => (Region.ready .any ops listed = [] → S = S') ∧ ∀ i ∈ Region.ready .any ops listed, ∃ o S1, ops[i]? = some o ∧ stepD P A call F q rd ops o S = some S1 ∧ allD P A call F q rd ops S' n (listed.setIfInBounds i true) S1

theorem ready_iff {listed : Array Bool} {i : Nat} : i ∈ Region.ready .any ops listed ↔ listed.getD i true = false ∧ ∃ o, ops[i]? = some o ∧ ∀ d ∈ depsB o, listed.getD d false = true := by
  unfold Region.ready
  simp only [List.mem_filter, List.mem_range, Bool.and_eq_true, Bool.not_eq_true', depsB]
  constructor
  · rintro ⟨h1, h2, h3⟩
    obtain ⟨o, ho⟩ : ∃ o, ops[i]? = some o := ⟨_, Array.getElem?_eq_getElem h1⟩
    refine ⟨h2, o, ho, fun d hd => ?_⟩
    rw [ho] at h3
    simp only [Option.map_some, Option.getD_some, Array.all_eq_true_iff_forall_mem] at h3
    obtain ⟨e, he, rfl⟩ := List.mem_map.1 hd
    obtain ⟨he1, he2⟩ := List.mem_filter.1 he
    have := h3 e (by simpa using he1)
    simpa [he2] using this
  · rintro ⟨h1, o, ho, h2⟩
    refine ⟨(Array.getElem?_eq_some_iff.1 ho).1, h1, ?_⟩
    rw [ho]
    simp only [Option.map_some, Option.getD_some, Array.all_eq_true_iff_forall_mem]
    intro e he
    cases hb : Region.binds .any e with
    | false => rfl
    | true =>
      have := h2 e.on (List.mem_map.2 ⟨e, List.mem_filter.2 ⟨by simpa using he, hb⟩, rfl⟩)
      simpa using this

/-- Closed: with an operation all that bind it are listed. -/
def Shut (ops : Array Oper) (listed : Array Bool) : Prop := ∀ i o, ops[i]? = some o → listed.getD i true = true → ∀ d ∈ depsB o, listed.getD d false = true

theorem getD_set {listed : Array Bool} {i j : Nat} (b : Bool) : (listed.setIfInBounds i true).getD j b = if i = j ∧ i < listed.size then true else listed.getD j b := by
  simp only [Array.getD_eq_getD_getElem?, Array.getElem?_setIfInBounds]
  by_cases h : i = j
  · subst h
    by_cases hi : i < listed.size
    · simp [hi]
    · simp [hi, Array.getElem?_eq_none (Nat.le_of_not_lt hi)]
  · simp [h]

theorem Shut.set {listed : Array Bool} (h : Shut ops listed) {i : Nat} (hr : i ∈ Region.ready .any ops listed) : Shut ops (listed.setIfInBounds i true) := by
  intro j o ho hj d hd
  obtain ⟨h1, oi, hoi, h2⟩ := ready_iff.1 hr
  have old : listed.getD d false = true := by
    rw [getD_set] at hj
    split at hj
    · rename_i e
      obtain ⟨rfl, _⟩ := e
      rw [hoi] at ho
      cases ho
      exact h2 d hd
    · exact h j o ho hj d hd
  rw [getD_set]
  split
  · rfl
  · exact old

/-- 'bef': a closed set of those before; all of it is listed before an operation is ready. -/
structure Bef (ops : Array Oper) (bef : Nat → Nat → Prop) : Prop where
  step : ∀ i o j, ops[i]? = some o → bef i j → j ∈ depsB o ∨ ∃ d ∈ depsB o, bef d j
  less : ∀ i o d, ops[i]? = some o → d ∈ depsB o → d < i
theorem Bef.listed {bef : Nat → Nat → Prop} (hb : Bef ops bef) {listed : Array Bool} (hs : Shut ops listed) (hsz : listed.size = ops.size) : ∀ (i : Nat) (o : Oper) (j : Nat), ops[i]? = some o → (∀ d ∈ depsB o, listed.getD d false = true) → bef i j → listed.getD j false = true := by
  intro i
  induction i using Nat.strongRecOn with
  | _ i ih =>
    intro o j ho hd hj
    rcases hb.step i o j ho hj with h | ⟨d, hdd, h⟩
    · exact hd j h
    · have hlt := hb.less i o d ho hdd
      have hi := (Array.getElem?_eq_some_iff.1 ho).1
      obtain ⟨od, hod⟩ : ∃ o, ops[d]? = some o := ⟨_, Array.getElem?_eq_getElem (by omega)⟩
      refine ih d hlt od j hod ?_ h
      refine hs d od hod ?_
      have := hd d hdd
      simp only [Array.getD_eq_getD_getElem?] at this ⊢
      cases hq : listed[d]? with
      | none => rw [hq] at this; cases this
      | some b => rw [hq] at this; exact this

theorem allD_first (hf : Fit q rd) {bef : Nat → Nat → Prop} (hb : Bef ops bef) {S' : St} {i : Nat} {oi : Oper} (hi : ops[i]? = some oi) :
    ∀ (n : Nat) (listed : Array Bool) (S S1 : St), listed.size = ops.size → Shut ops listed → (∀ j oj, ops[j]? = some oj → j ≠ i → listed.getD j true = false → ¬ bef j i → pairOk A F q ops oi oj = true) →
      i ∈ Region.ready .any ops listed → stepD P A call F q rd ops oi S = some S1 → allD P A call F q rd ops S' n (listed.setIfInBounds i true) S1 → allD P A call F q rd ops S' (n + 1) listed S := by
  have mono : ∀ {listed : Array Bool} {i j : Nat}, listed.size = ops.size → j ∈ Region.ready .any ops listed → j ≠ i → j ∈ Region.ready .any ops (listed.setIfInBounds i true) := by
    intro listed i j hsz hj hne
    obtain ⟨h1, o, ho, h2⟩ := ready_iff.1 hj
    refine ready_iff.2 ⟨by rw [getD_set, if_neg (by rintro ⟨e, _⟩; exact hne e.symm)]; exact h1, o, ho, fun d hd => ?_⟩
    rw [getD_set]
    split
    · rfl
    · exact h2 d hd
  intro n
  induction n with
  | zero =>
    intro listed S S1 hsz hsh hfree hr hst hall
    refine ⟨fun h => (by rw [h] at hr; cases hr), fun j hj => ?_⟩
    by_cases hji : j = i
    · subst hji; exact ⟨oi, S1, hi, hst, hall⟩
    · have := mono hsz hj hji
      rw [hall.1] at this
      cases this
  | succ n ih =>
    intro listed S S1 hsz hsh hfree hr hst hall
    refine ⟨fun h => (by rw [h] at hr; cases hr), fun j hj => ?_⟩
    by_cases hji : j = i
    · subst hji; exact ⟨oi, S1, hi, hst, hall⟩
    · obtain ⟨oj, S2, hoj, hst2, hall2⟩ := hall.2 j (mono hsz hj hji)
      obtain ⟨hjun, oj', hoj', hjd⟩ := ready_iff.1 hj
      rw [hoj] at hoj'
      cases hoj'
      have hiun := (ready_iff.1 hr).1
      have hnb : ¬ bef j i := fun hbe => by
        have := hb.listed hsh hsz j oj i hoj hjd hbe
        simp only [Array.getD_eq_getD_getElem?] at this hiun
        cases hq : listed[i]? with
        | none => rw [hq] at this; cases this
        | some b => rw [hq] at this hiun; simp at this hiun; rw [this] at hiun; cases hiun
      obtain ⟨T, ht1, ht2⟩ := commute hf (hfree j oj hoj hji hjun hnb) hst hst2
      refine ⟨oj, T, hoj, ht1, ih (listed.setIfInBounds j true) T S2 (by simpa using hsz) (hsh.set hj) (fun k ok hk hki hun hno => hfree k ok hk hki ?_ hno) (mono hsz hr (Ne.symm hji)) ht2 ?_⟩
      · rw [getD_set] at hun
        split at hun
        · cases hun
        · exact hun
      · rw [Array.setIfInBounds_comm _ _ hji]
        exact hall2
end
end Go.Shade
