/-
  Codes and calls: what the shadow says, the model does.
-/
import Derived.Test.YtcecleclipcheaaSh21
set_option linter.unusedVariables false
set_option linter.unusedSimpArgs false
namespace Go.Shade
open Go Go.RowKit

/-- The check of a code: slots within the frame, drawn regions free of conflicts. -/
def chkC (A : An) (F : FuncId) (n : Nat) : Code → Bool
  | .seq a b => chkC A F n a && chkC A F n b
  | .cond _ a b => chkC A F n a && chkC A F n b
  | .block _ c => chkC A F n c
  | .loop c => chkC A F n c
  | .region id ops draw => ops.toList.all (fun o => match o.dst with
      | some d => decide (d < n)
      | none => true) && (!draw || chkD A F (!A.eff F id) ops 0 ops.toList [])
  | _ => true

section
variable {P : Program} {W0 : World} {Φ : Held} {g : G} {n : Nat} {w : World} {a : Act}

/-! ### a call's start -/
def G.down (g : G) : G := { M := g.M, β := fun l t => match l with
  | 0 => none
  | l + 1 => g.β l t }
theorem down_up : g.down.up 1 = g := rfl
theorem down_up' (l : Nat) : g.down.up (l + 1) = g.up l := rfl
theorem push_ok {stk : Stk} (h : WR W0 Φ g stk w) : WR W0 Φ g.down ([] :: stk) w := by
  have key : ∀ {l t x}, g.down.β l t = some x → ∃ l', l = l' + 1 ∧ g.β l' t = some x := by
    intro l t x hx
    cases l with
    | zero => cases hx
    | succ l => exact ⟨l, rfl, hx⟩
  refine ⟨h.below, h.mem, h.phi, fun l t b hb => ?_, fun l t x hx => ?_, fun l t x k hx hk => ?_, fun l t l' t' x x' k hx hx' hk hk' => ?_, fun l t x k b hx hk hb o v hm => ?_⟩
  · cases l with
    | zero => cases hb
    | succ l => exact h.box l t b hb
  · obtain ⟨l, rfl, hx⟩ := key hx
    exact h.has l t x hx
  · obtain ⟨l, rfl, hx⟩ := key hx
    exact h.own l t x k hx hk
  · obtain ⟨l, rfl, hx⟩ := key hx
    obtain ⟨l', rfl, hx'⟩ := key hx'
    obtain ⟨e1, e2⟩ := h.sep l t l' t' x x' k hx hx' hk hk'
    exact ⟨by omega, e2⟩
  · obtain ⟨l, rfl, hx⟩ := key hx
    exact h.free l t x k b hx hk hb o v hm
theorem initT_look : ∀ (vs : List V) (i t : Nat) (acc : List (Nat × V)) (y : V), look (initT i vs acc) t = some y → (∃ x, i ≤ t ∧ vs[t - i]? = some x ∧ y = x.sh 1) ∨ look acc t = some y
  | [], i, t, acc, y, h => .inr h
  | v :: r, i, t, acc, y, h => by
    rcases initT_look r (i + 1) t _ y h with ⟨x, h1, h2, h3⟩ | h
    · exact .inl ⟨x, by omega, by rw [show t - i = (t - (i + 1)) + 1 by omega]; simpa using h2, h3⟩
    · by_cases e : t = i
      · subst e
        rw [look_ins_same] at h
        cases h
        exact .inl ⟨v, Nat.le_refl _, by simp, rfl⟩
      · rw [look_ins_ne e] at h
        exact .inr h
theorem start_ok {stk : Stk} (h : WR W0 Φ g stk w) {xs : List V} {us : List Value} (hl : us.length = xs.length) (hv : ∀ (i : Nat) u x, us[i]? = some u → xs[i]? = some x → VR g u x) (hn : xs.length ≤ n) :
    StR W0 Φ n g.down ⟨initT 0 xs [], [] :: stk⟩ { tmps := us.toArray ++ Array.replicate (n - us.toArray.size) undef, defers := [] } w := by
  refine ⟨push_ok h, fun t y hy => ?_, by simp [hl]; omega, rfl⟩
  rcases initT_look xs 0 t [] y hy with ⟨x, _, hx, rfl⟩ | h0
  · simp only [Nat.sub_zero] at hx
    have ht := (List.getElem?_eq_some_iff.1 hx).1
    obtain ⟨u, hu⟩ : ∃ u, us[t]? = some u := ⟨_, List.getElem?_eq_getElem (by omega)⟩
    have he : ({ tmps := us.toArray ++ Array.replicate (n - us.toArray.size) undef, defers := [] } : Act).eval (.tmp t) = u := by
      simp only [Act.eval, Array.getD_eq_getD_getElem?]
      rw [Array.getElem?_append_left (by simp; omega)]
      simp [hu]
    rw [he]
    exact VR.sh (g := g.down) (k := 1) (hv t u x hu hx)
  · cases h0

/-! ### a call's end -/
theorem pop_ok {f : Fr} {r : Stk} (h : WR W0 Φ g (f :: r) w) : WR W0 Φ (g.up 1) r w := by
  refine ⟨h.below, h.mem, h.phi, fun l t b hb => ?_, fun l t x hx => h.has (l + 1) t x hx, fun l t x k hx hk => h.own (l + 1) t x k hx hk, fun l t l' t' x x' k hx hx' hk hk' => ?_, fun l t x k b hx hk hb o v hm => h.free (l + 1) t x k b hx hk hb o v hm⟩
  · obtain ⟨x, h1, h2⟩ := h.box (l + 1) t b hb
    refine ⟨x, h1, ?_⟩
    rw [G.up_up, Nat.add_comm]
    exact h2
  · obtain ⟨e1, e2⟩ := h.sep (l + 1) t (l' + 1) t' x x' k hx hx' hk hk'
    exact ⟨by omega, e2⟩

def resOne (tmps : Array Value) : ResultVar → Sem Value
  | .tmp t => pure (tmps.getD t undef)
  | .cell a t => do loadVar t (← asAddr (tmps.getD a undef))
theorem results_eq (fn : Func) (tmps : Array Value) : results fn tmps = (do
    let vs ← fn.results.mapM (resOne tmps)
    pure (if h : vs.size = 1 then vs[0] else .tuple vs)) := by
  unfold results
  congr 1
theorem resV_ok {S : St} (h : StR W0 Φ n g S a w) : ∀ (rs : List ResultVar) (vs : List V), resV P S rs = some vs →
    ∃ us : List Value, (rs.mapM (resOne a.tmps)).run P w = .ok us w ∧ us.length = vs.length ∧ ∀ (i : Nat) u x, us[i]? = some u → vs[i]? = some x → VR g u x
  | [], vs, hr => by
    cases hr
    exact ⟨[], by simp, rfl, fun i u x hu => by simp at hu⟩
  | .tmp t :: rs, vs, hr => by
    simp only [resV] at hr
    split at hr
    · rename_i v q h1 h2
      cases hr
      obtain ⟨us, k1, k2, k3⟩ := resV_ok h rs q h2
      refine ⟨a.tmps.getD t undef :: us, by simp only [List.mapM_cons, Sem.run_bind, resOne, Sem.run_pure, Result.andThen_ok, k1], by simp [k2], fun i u x hu hx => ?_⟩
      cases i with
      | zero =>
        simp only [List.getElem?_cons_zero, Option.some.injEq] at hu hx
        subst hu
        subst hx
        exact h.tm t v h1
      | succ i => exact k3 i u x (by simpa using hu) (by simpa using hx)
    · cases hr
  | .cell c t :: rs, vs, hr => by
    simp only [resV] at hr
    split at hr
    · rename_i p hp
      split at hr
      · rename_i v q h1 h2
        cases hr
        obtain ⟨us, k1, k2, k3⟩ := resV_ok h rs q h2
        have hpv := h.tm c p hp
        obtain ⟨u0, e1, e2⟩ := loadAt_pure h.wr (Sub.refl _) hpv h1
        have hone : (resOne a.tmps (.cell c t)).run P w = .ok u0 w := by
          simp only [Act.eval] at e1
          simp only [resOne]
          cases hq : a.tmps.getD c undef <;> rw [hq] at e1 <;> try (simp [Instr.loadAt, Instr.sureAddr] at e1; done)
          rename_i ad
          cases ad with
          | none => simp [Instr.loadAt, Instr.sureAddr] at e1
          | some ad => simpa [Instr.loadAt, Instr.sureAddr, asAddr] using e1
        refine ⟨u0 :: us, by simp only [List.mapM_cons, Sem.run_bind, hone, Sem.run_pure, Result.andThen_ok, k1], by simp [k2], fun i u x hu hx => ?_⟩
        cases i with
        | zero =>
          simp only [List.getElem?_cons_zero, Option.some.injEq] at hu hx
          subst hu
          subst hx
          exact e2
        | succ i => exact k3 i u x (by simpa using hu) (by simpa using hx)
      · cases hr
    · cases hr

theorem back_ok {fn : Func} {S : St} {r : V × Stk} (h : StR W0 Φ n g S a w) (hb : backV P fn S = some r) : ∃ v g', (results fn a.tmps).run P w = .ok v w ∧ VR (g'.up 1) v r.1 ∧ WR W0 Φ (g'.up 1) r.2 w ∧ Ext 0 g g' := by
  obtain ⟨vs, h1, h2⟩ := Option.bind_eq_some_iff.1 hb
  obtain ⟨us, k1, k2, k3⟩ := resV_ok h fn.results.toList vs h1
  obtain ⟨g1, hw1, e1⟩ := fzL_ok vs h.wr
  unfold backW at h2
  split at h2
  · rename_i ws f q hco hst
    obtain ⟨l1, p1⟩ := coL_ok hw1 (Sub.refl _) k2 (fun i u x hu hx => (k3 i u x hu hx).mono e1) hco
    rw [hst] at hw1
    have hpop := pop_ok hw1
    have run : (results fn a.tmps).run P w = .ok (if h : us.toArray.size = 1 then us.toArray[0] else .tuple us.toArray) w := by
      rw [results_eq]
      have : (fn.results.mapM (resOne a.tmps)).run P w = .ok us.toArray w := by
        have e : fn.results.mapM (resOne a.tmps) = (do pure (← fn.results.toList.mapM (resOne a.tmps)).toArray) := by
          rw [Array.mapM_eq_mapM_toList]
          rfl
        rw [e]
        simp [k1]
      simp only [Sem.run_bind, this, Result.andThen_ok, Sem.run_pure]
    split at h2
    · rename_i v hun
      cases h2
      obtain ⟨ul, ug⟩ := unL_some hun
      have hl : us.length = 1 := by have : ws.length = 1 := by simpa using ul.symm
                                    omega
      obtain ⟨u, rfl⟩ : ∃ u, us = [u] := by
        match us, hl with
        | [u], _ => exact ⟨u, rfl⟩
      obtain ⟨x, rfl⟩ : ∃ x, ws = [x] := by
        have : ws.length = 1 := by simpa using ul.symm
        match ws, this with
        | [x], _ => exact ⟨x, rfl⟩
      obtain ⟨y, hy1, hy2⟩ := ug 0 x rfl
      simp at hy2
      subst hy2
      exact ⟨u, g1, by rw [run]; rfl, (p1 0 u x rfl rfl).un hy1, hpop, e1⟩
    · rename_i _ vs' hne hun
      cases h2
      obtain ⟨ul, ug⟩ := unL_some hun
      have hl : ¬ us.toArray.size = 1 := by
        intro e
        have : vs'.length = 1 := by simp at e; omega
        match vs', this, hne with
        | [x], _, hne => exact hne x rfl
      refine ⟨.tuple us.toArray, g1, by rw [run, dif_neg hl], .tup us vs' (by omega) (fun i u y hu hy => ?_), hpop, e1⟩
      obtain ⟨x, hx⟩ : ∃ x, ws[i]? = some x := ⟨_, List.getElem?_eq_getElem (by have := (List.getElem?_eq_some_iff.1 hy).1; omega)⟩
      obtain ⟨y', hy1, hy2⟩ := ug i x hx
      rw [hy] at hy2
      cases hy2
      exact (p1 i u x hu hx).un hy1
    · cases h2
  · cases h2

/-! ### codes -/
def exOf : Ex → Exit
  | .nm => .normal
  | .ex id => .exit id
  | .rt => .ret

/-- What a code says of the world. -/
def CodeSnd (P : Program) (A : An) (F : FuncId) (n : Nat) (e : Code → St → Option (Ex × St)) (c : Code) : Prop :=
  ∀ (W0 : World) (Φ : Held) (g : G) (S : St) (a : Act) (w : World) (r : Ex × St) (Q : Exit → Act → World → Prop), e c S = some r → StR W0 Φ n g S a w → (∀ a' w' g', StR W0 Φ n g' r.2 a' w' → Ext 1 g g' → Q (exOf r.1) a' w') → c.wp P Q a w

/-- What a function taken as given says of the world. -/
def PrimSnd (P : Program) (f : FuncId) (p : List V → Stk → Option (V × Stk)) : Prop :=
  ∀ (W0 : World) (Φ : Held) (g : G) (stk : Stk) (w : World) (xs : List V) (r : V × Stk) (us : List Value), p xs stk = some r → WR W0 Φ g stk w → us.length = xs.length →
    (∀ (i : Nat) u x, us[i]? = some u → xs[i]? = some x → VR g u x) → (callFunc f us.toArray).run P w = .ok (.enter f us.toArray) w ∧
      Calls P f us.toArray w fun e w' => ∃ v g', e = .returned v ∧ VR g' v r.1 ∧ WR W0 Φ g' r.2 w' ∧ Ext 0 g g'

structure Sound (P : Program) (A : An) (pr : FuncId → Option (List V → Stk → Option (V × Stk))) : Prop where
  mixed : P.follows .mixedOrders = true
  prim : ∀ f p, pr f = some p → PrimSnd P f p
  code : ∀ f fn c, pr f = none → P.funcs[f]? = some fn → fn.body = some c → chkC A f fn.ntmps c = true ∧ (fn.name == "runtime.NumGoroutine") = false

variable {A : An} {pr : FuncId → Option (List V → Stk → Option (V × Stk))}

theorem dst_of {ops : Array Oper} (h : ops.toList.all (fun o => match o.dst with
    | some d => decide (d < n)
    | none => true) = true) : ∀ (i : Nat) (o : Oper) (d : Nat), ops[i]? = some o → o.dst = some d → d < n := by
  intro i o d ho hd
  have := List.all_eq_true.1 h o (by simpa using Array.mem_of_getElem? ho)
  simpa [hd] using this

theorem region_ok {F : FuncId} {call : Call} (hc : CallSnd P call) (hm : P.follows .mixedOrders = true) {id : Nat} {ops : Array Oper} {draw : Bool} (hchk : chkC A F n (.region id ops draw) = true) {S S' : St} (he : evR P A call F id ops draw S = some S')
    (h : StR W0 Φ n g S a w) {Q : Exit → Act → World → Prop} (hQ : ∀ a' w' g', StR W0 Φ n g' S' a' w' → Ext 1 g g' → Q .normal a' w') : (Code.region id ops draw).wp P Q a w := by
  simp only [chkC, Bool.and_eq_true] at hchk
  have hdst := dst_of hchk.1
  unfold evR at he
  split at he
  · rename_i hd
    subst hd
    simp only [Bool.not_true, Bool.false_or] at hchk
    cases heff : A.eff F id with
    | true =>
      rw [heff] at he hchk
      exact draw_ok (rd := none) hc hm (by simp [Fit]) hchk.2 hdst h (Sub.refl _) he fun a' w' g' h' e' => hQ a' w' g' h' (e'.mono (Nat.zero_le 1))
    | false =>
      rw [heff] at he hchk
      exact draw_ok (rd := some S.stk) hc hm (show Fit true (some S.stk) from ⟨S.stk, rfl⟩) hchk.2 hdst h (Sub.refl _) he fun a' w' g' h' e' => hQ a' w' g' h' (e'.mono (Nat.zero_le 1))
  · rename_i hd
    have hd' : draw = false := by simpa using hd
    subst hd'
    exact wp_region_list (list_ok hc ops.toList S a w g S' h (fun o ho d hd => by
      obtain ⟨i, hi⟩ := List.mem_iff_getElem?.1 ho
      exact hdst i o d (by simpa using hi) hd) he fun a' w' g' h' e' => hQ a' w' g' h' (e'.mono (Nat.zero_le 1)))

theorem enter_ok {f : FuncId} {fn : Func} {c : Code} (hf : P.funcs[f]? = some fn) (hname : (fn.name == "runtime.NumGoroutine") = false) (hb : fn.body = some c) (args : Array Value) (w : World) : (callFunc f args).run P w = .ok (.enter f args) w := by
  have h1 : fn.name ≠ "runtime.NumGoroutine" := by simpa using hname
  simp [callFunc, hf, h1, hb]
theorem call_of {f : FuncId} {fn : Func} {c : Code} (hf : P.funcs[f]? = some fn) (hb : fn.body = some c) (hname : (fn.name == "runtime.NumGoroutine") = false) {e : Code → St → Option (Ex × St)} (hc : CodeSnd P A f fn.ntmps e c) {stk : Stk} {xs : List V} {r : V × Stk} {us : List Value}
    (hr : bodyE P fn (e c ⟨initT 0 xs [], [] :: stk⟩) = some r) (hn : xs.length ≤ fn.ntmps) (h : WR W0 Φ g stk w) (hl : us.length = xs.length) (hv : ∀ (i : Nat) u x, us[i]? = some u → xs[i]? = some x → VR g u x) :
    (callFunc f us.toArray).run P w = .ok (.enter f us.toArray) w ∧ Calls P f us.toArray w fun e w' => ∃ v g', e = .returned v ∧ VR g' v r.1 ∧ WR W0 Φ g' r.2 w' ∧ Ext 0 g g' := by
  refine ⟨enter_ok hf hname hb _ _, calls_of_wp hf hb ?_⟩
  have hst := start_ok (n := fn.ntmps) h hl hv hn
  cases hev : e c ⟨initT 0 xs [], [] :: stk⟩ with
  | none => rw [hev] at hr; cases hr
  | some q =>
    obtain ⟨x, S⟩ := q
    rw [hev] at hr
    have fin : ∀ a' w' g', StR W0 Φ fn.ntmps g' S a' w' → Ext 1 g.down g' → backV P fn S = some r → a'.defers = [] ∧ ∃ v, (results fn a'.tmps).run P w' = .ok v w' ∧ ∃ v' g'', Ending.returned v = .returned v' ∧ VR g'' v' r.1 ∧ WR W0 Φ g'' r.2 w' ∧ Ext 0 g g'' := by
      intro a' w' g' h' e' hb'
      obtain ⟨v, g2, k1, k2, k3, k4⟩ := back_ok h' hb'
      exact ⟨h'.defers, v, k1, v, g2.up 1, rfl, k2, k3, (e'.trans (k4.mono (Nat.zero_le 1))).up⟩
    refine hc W0 Φ g.down _ _ w (x, S) _ hev hst fun a' w' g' h' e' => ?_
    cases x with
    | nm => exact fin a' w' g' h' e' hr
    | rt => exact fin a' w' g' h' e' hr
    | ex id => cases hr

theorem sound_N (H : Sound P A pr) : ∀ m : Nat, (∀ (F : FuncId) (n : Nat) (c : Code), chkC A F n c = true → CodeSnd P A F n (evN P A pr m F) c) ∧ CallSnd P (clN P A pr m) ∧
    ∀ (F : FuncId) (n : Nat) (c : Code), chkC A F n c = true → ∀ (W0 : World) (Φ : Held) (g : G) (S : St) (a : Act) (w : World) (r : Ex × St) (Q : Exit → Act → World → Prop), evN P A pr m F (.loop c) S = some r → StR W0 Φ n g S a w →
      (∀ a' w' g', StR W0 Φ n g' r.2 a' w' → Ext 1 g g' → Q (exOf r.1) a' w') → Code.rounds P c Q m a w := by
  intro m
  induction m with
  | zero =>
    exact ⟨fun F n c _ W0 Φ g S a w r Q h => (by cases h), fun W0 Φ g stk w f xs r us h => (by cases h), fun F n c _ W0 Φ g S a w r Q h => (by cases h)⟩
  | succ m ih =>
    obtain ⟨ihC, ihK, ihL⟩ := ih
    have loops : ∀ (F : FuncId) (n : Nat) (c : Code), chkC A F n c = true → ∀ (W0 : World) (Φ : Held) (g : G) (S : St) (a : Act) (w : World) (r : Ex × St) (Q : Exit → Act → World → Prop), evN P A pr (m + 1) F (.loop c) S = some r → StR W0 Φ n g S a w →
        (∀ a' w' g', StR W0 Φ n g' r.2 a' w' → Ext 1 g g' → Q (exOf r.1) a' w') → Code.rounds P c Q (m + 1) a w := by
      intro F n c hchk W0 Φ g S a w r Q he h hQ
      rw [rounds_succ]
      simp only [evN] at he
      split at he
      · rename_i S1 hp
        obtain ⟨g1, h1, e1⟩ := prune_ok h hp
        cases hev : evN P A pr m F c S1 with
        | none => rw [hev] at he; cases he
        | some q =>
          obtain ⟨x, S2⟩ := q
          rw [hev] at he
          refine ihC F n c hchk W0 Φ g1 S1 a w (x, S2) _ hev h1 fun a' w' g' h' e' => ?_
          cases x with
          | nm =>
            simp only [thenE] at he
            exact ihL F n c hchk W0 Φ g' S2 a' w' r Q he h' fun a2 w2 g2 h2 e2 => hQ a2 w2 g2 h2 ((e1.trans e').trans e2)
          | ex id => cases he; exact hQ a' w' g' h' (e1.trans e')
          | rt => cases he; exact hQ a' w' g' h' (e1.trans e')
      · cases he
    refine ⟨fun F n c hchk W0 Φ g S a w r Q he h hQ => ?_, fun W0 Φ g stk w f xs r us he h hl hv => ?_, loops⟩
    · cases c with
      | skip => simp only [evN, Option.some.injEq] at he; subst he; exact wp_skip (hQ a w g h (Ext.refl 1 g))
      | label l => simp only [evN, Option.some.injEq] at he; subst he; exact wp_label (hQ a w g h (Ext.refl 1 g))
      | exit id => simp only [evN, Option.some.injEq] at he; subst he; exact wp_exit (hQ a w g h (Ext.refl 1 g))
      | ret => simp only [evN, Option.some.injEq] at he; subst he; exact wp_ret (hQ a w g h (Ext.refl 1 g))
      | seq x y =>
        simp only [chkC, Bool.and_eq_true] at hchk
        simp only [evN] at he
        refine wp_seq ?_
        cases hev : evN P A pr m F x S with
        | none => rw [hev] at he; cases he
        | some q =>
          obtain ⟨ex, S2⟩ := q
          rw [hev] at he
          refine ihC F n x hchk.1 W0 Φ g S a w (ex, S2) _ hev h fun a' w' g' h' e' => ?_
          cases ex with
          | nm =>
            simp only [thenE] at he
            exact ihC F n y hchk.2 W0 Φ g' S2 a' w' r Q he h' fun a2 w2 g2 h2 e2 => hQ a2 w2 g2 h2 (e'.trans e2)
          | ex id => cases he; exact hQ a' w' g' h' e'
          | rt => cases he; exact hQ a' w' g' h' e'
      | cond x y z =>
        simp only [chkC, Bool.and_eq_true] at hchk
        simp only [evN] at he
        split at he
        · rename_i ho
          exact wp_cond_true (opd_ok h.tm ho).bool_inv (ihC F n y hchk.1 W0 Φ g S a w r Q he h hQ)
        · rename_i ho
          exact wp_cond_false (opd_ok h.tm ho).bool_inv (ihC F n z hchk.2 W0 Φ g S a w r Q he h hQ)
        · cases he
      | block id x =>
        simp only [chkC] at hchk
        simp only [evN] at he
        refine wp_block ?_
        cases hev : evN P A pr m F x S with
        | none => rw [hev] at he; cases he
        | some q =>
          obtain ⟨ex, S2⟩ := q
          rw [hev] at he
          refine ihC F n x hchk W0 Φ g S a w (ex, S2) _ hev h fun a' w' g' h' e' => ?_
          cases ex with
          | nm => cases he; exact hQ a' w' g' h' e'
          | rt => cases he; exact hQ a' w' g' h' e'
          | ex i =>
            simp only [blockE] at he
            simp only [exOf, Exit.inBlock]
            split at he
            · rename_i hi; rw [if_pos hi]; cases he; exact hQ a' w' g' h' e'
            · rename_i hi; rw [if_neg hi]; cases he; exact hQ a' w' g' h' e'
      | loop x =>
        exact wp_loop_rounds (m + 1) (loops F n x (by simpa [chkC] using hchk) W0 Φ g S a w r Q he h hQ)
      | region id ops draw =>
        simp only [evN] at he
        obtain ⟨S', h1, rfl⟩ := Option.map_eq_some_iff.1 he
        exact region_ok ihK H.mixed hchk h1 h hQ
      | _ => simp only [evN, reduceCtorEq] at he
    · simp only [clN] at he
      split at he
      · rename_i p hp
        exact H.prim f p hp W0 Φ g stk w xs r us he h hl hv
      · rename_i hp
        split at he
        · rename_i fn hf
          split at he
          · rename_i c hb
            split at he
            · rename_i hn
              obtain ⟨k1, k2⟩ := H.code f fn c hp hf hb
              exact call_of hf hb k2 (ihC f fn.ntmps c k1) he hn h hl hv
            · cases he
          · cases he
        · cases he

/-- THE SHADOW IS SOUND. -/
theorem sound (H : Sound P A pr) : CallSnd P (cl P A pr) := by
  intro W0 Φ g stk w f xs r us he h hl hv
  obtain ⟨m, hm⟩ := cl_iff.1 he
  exact (sound_N H m).2.1 W0 Φ g stk w f xs r us hm h hl hv
end
end Go.Shade
