/-
  Lists of operations in a row; and which of them may change places.
-/
import Derived.Test.YtcecleclipcheaaSh16
import Derived.Orders
import Derived.Tactics
set_option linter.unusedVariables false
set_option linter.unusedSimpArgs false
namespace Go.Shade
open Go Go.RowKit

/-- The state that a shadow says. -/
structure StR (W0 : World) (Φ : Held) (n : Nat) (g : G) (S : St) (a : Act) (w : World) : Prop where
  wr : WR W0 Φ g S.stk w
  tm : TmR g S.tm a
  size : a.tmps.size = n
  defers : a.defers = []

section
variable {P : Program} {W0 : World} {Φ : Held} {g : G} {n : Nat} {S : St} {w : World} {a : Act}

theorem put_eval (a : Act) (d t : Nat) (v : Value) (hd : d < a.tmps.size) : (a.put (some d) v).eval (.tmp t) = if t = d then v else a.eval (.tmp t) := by
  simp only [Act.put, Act.eval, Array.getD_eq_getD_getElem?, Array.getElem?_setIfInBounds]
  by_cases h : d = t
  · subst h; simp [hd]
  · simp [h, Ne.symm h]
theorem TmR.put {g' : G} {tm : List (Nat × V)} (h : TmR g tm a) (he : Ext 0 g g') {d : Option Nat} {v : Value} {x : V} (hv : VR g' v x) (hd : ∀ d', d = some d' → d' < a.tmps.size) : TmR g' (putD d x tm) (a.put d v) := by
  cases d with
  | none => exact h.mono he
  | some d =>
    intro t y hy
    rw [put_eval a d t v (hd d rfl)]
    simp only [putD] at hy
    split
    · rename_i e
      subst e
      rw [look_ins_same] at hy
      cases hy
      exact hv
    · rename_i e
      rw [look_ins_ne e] at hy
      exact (h t y hy).mono he
theorem StR.put {g' : G} {w' : World} {stk' : Stk} (h : StR W0 Φ n g S a w) (he : Ext 0 g g') {d : Option Nat} {v : Value} {x : V} (hv : VR g' v x) (hw : WR W0 Φ g' stk' w') (hd : ∀ d', d = some d' → d' < n) : StR W0 Φ n g' ⟨putD d x S.tm, stk'⟩ (a.put d v) w' :=
  ⟨hw, h.tm.put he hv (by rw [h.size]; exact hd), by cases d <;> simp [Act.put, h.size], by cases d <;> simp [Act.put, h.defers]⟩

theorem gd_ok {ops : Array Oper} {o : Oper} {tm : List (Nat × V)} (h : TmR g tm a) {b : Bool} (hg : gdV tm (resG ops o) = some b) : Region.wanted o (yielded ops a.tmps) = b := by
  unfold resG at hg
  unfold Region.wanted
  cases hgd : o.guard with
  | none => rw [hgd] at hg; cases hg; rfl
  | some p =>
    obtain ⟨j, c⟩ := p
    rw [hgd] at hg
    simp only at hg ⊢
    cases hd : (ops[j]?).bind (·.dst) with
    | none => rw [hd] at hg; cases hg
    | some t =>
      rw [hd] at hg
      simp only [gdV] at hg
      have get : ∀ v, a.eval (.tmp t) = v → v ≠ undef → a.tmps[t]? = some v := by
        intro v hv hne
        simp only [Act.eval, Array.getD_eq_getD_getElem?] at hv
        cases hq : a.tmps[t]? with
        | none => rw [hq] at hv; exact absurd hv.symm hne
        | some u => rw [hq] at hv; simp at hv; rw [hv]
      split at hg
      · rename_i x hl
        cases hg
        have := get _ (h t _ hl).bool_inv (by simp [undef])
        simp [yielded, hd, this]
      · rename_i hl
        cases hg
        have hu := (h t _ hl).dead_inv
        simp only [Act.eval, Array.getD_eq_getD_getElem?] at hu
        simp only [yielded, hd, Option.bind_some]
        cases hq : a.tmps[t]? with
        | none => rfl
        | some u =>
          rw [hq] at hu
          simp at hu
          subst hu
          rfl
      · cases hg

variable {A : An} {F : FuncId} {call : Call}
/-- What one operation of a region comes to. -/
def coreD (P : Program) (A : An) (call : Call) (F : FuncId) (q : Bool) (rd : Option Stk) (ops : Array Oper) (o : Oper) (tm : List (Nat × V)) (stk : Stk) : Option (V × Stk) :=
  match gdV tm (resG ops o) with
  | some true => evO P A call F q (rd.getD stk) o tm stk
  | some false => some (.dead, stk)
  | none => none
def stepD (P : Program) (A : An) (call : Call) (F : FuncId) (q : Bool) (rd : Option Stk) (ops : Array Oper) (o : Oper) (S : St) : Option St :=
  (coreD P A call F q rd ops o S.tm S.stk).map fun r => ⟨putD o.dst r.1 S.tm, r.2⟩
theorem evL_cons {q : Bool} {rd : Option Stk} {ops : Array Oper} {o : Oper} {r : List Oper} {tm : List (Nat × V)} {stk : Stk} : evL P A call F rd q ops (o :: r) tm stk = (stepD P A call F q rd ops o ⟨tm, stk⟩).bind fun S => evL P A call F rd q ops r S.tm S.stk := by
  simp only [evL, stepD, coreD]
  cases gdV tm (resG ops o) with
  | none => rfl
  | some c =>
    cases c with
    | false => rfl
    | true => simp only; cases evO P A call F q (rd.getD stk) o tm stk <;> rfl

theorem core_wp (hc : CallSnd P call) {q : Bool} {rd : Option Stk} {ops : Array Oper} {o : Oper} (h : StR W0 Φ n g S a w) (hs : Sub (rd.getD S.stk) S.stk) (hd : ∀ d, o.dst = some d → d < n) {S' : St} (he : stepD P A call F q rd ops o S = some S')
    {K : Act → World → Prop} {Q : Exit → Act → World → Prop} (hK : ∀ a' w' g', StR W0 Φ n g' S' a' w' → Ext 0 g g' → K a' w') :
    if Region.wanted o (yielded ops a.tmps) then o.wp P a w K Q else K (a.put o.dst undef) w := by
  unfold stepD coreD at he
  obtain ⟨r, hr, rfl⟩ := Option.map_eq_some_iff.1 he
  split at hr
  · rename_i hg
    rw [if_pos (gd_ok h.tm hg)]
    exact evO_ok hc h.wr hs h.tm hr K Q fun v w' g' hv hw hext => hK _ _ g' (h.put hext hv hw hd) hext
  · rename_i hg
    cases hr
    rw [if_neg (by rw [gd_ok h.tm hg]; simp)]
    exact hK _ _ g (h.put (Ext.refl 0 g) .dead h.wr hd) (Ext.refl 0 g)
  · cases hr

theorem list_ok (hc : CallSnd P call) {q : Bool} {ops : Array Oper} {Q : Exit → Act → World → Prop} : ∀ (l : List Oper) (S : St) (a : Act) (w : World) (g : G) (S' : St), StR W0 Φ n g S a w → (∀ o ∈ l, ∀ d, o.dst = some d → d < n) →
    evL P A call F none q ops l S.tm S.stk = some S' → (∀ a' w' g', StR W0 Φ n g' S' a' w' → Ext 0 g g' → Q .normal a' w') → wpList P ops Q l a w
  | [], S, a, w, g, S', h, _, he, hQ => by
    cases he
    exact hQ a w g h (Ext.refl 0 g)
  | o :: l, S, a, w, g, S', h, hd, he, hQ => by
    rw [evL_cons] at he
    obtain ⟨S1, h1, h2⟩ := Option.bind_eq_some_iff.1 he
    refine wpList_step fun K hK => ?_
    exact core_wp hc h (by exact Sub.refl _) (hd o (by simp)) h1 fun a' w' g' hst hext => hK _ _ (list_ok hc l S1 a' w' g' S' hst (fun o ho => hd o (by simp [ho])) h2 fun a2 w2 g2 hst2 hext2 => hQ _ _ g2 hst2 (hext.trans hext2))

/-! ### what may change places -/
theorem ins_comm {α : Type} {d e : Nat} {v u : α} (h : d ≠ e) : ∀ l : List (Nat × α), ins d v (ins e u l) = ins e u (ins d v l)
  | [] => by
    simp only [ins]
    by_cases h1 : e < d
    · simp [h1, Nat.not_lt.2 (Nat.le_of_lt h1), Ne.symm (Nat.ne_of_lt h1), h]
    · have h2 : d < e := by omega
      simp [h1, h2, Ne.symm h]
  | (a, x) :: r => by
    have ih := ins_comm (v := v) (u := u) h r
    rcases Nat.lt_trichotomy a d with h1 | h1 | h1 <;> rcases Nat.lt_trichotomy a e with h2 | h2 | h2 <;> rcases Nat.lt_trichotomy d e with h3 | h3 | h3 <;> first
      | omega
      | (simp only [ins]
         repeat' split
         all_goals first | rfl | omega | (simp only [ins]; repeat' split) 
         all_goals first | rfl | omega | rw [ih])
end
end Go.Shade
