/-
  Every operation that calls nothing; calls of what is built in.
-/
import Derived.Test.YtcecleclipcheaaSh14
import Derived.Calls
set_option linter.unusedVariables false
set_option linter.unusedSimpArgs false
namespace Go.Shade
open Go Go.RowKit

/-- What an operation comes to, in a frame. -/
def OKN (W0 : World) (Φ : Held) (g : G) (r : V × Stk) (res : Result Next) : Prop :=
  ∃ v w' g', (res = .ok (.value v) w' ∨ (res = .ok .skip w' ∧ v = undef)) ∧ VR g' v r.1 ∧ WR W0 Φ g' r.2 w' ∧ Ext 0 g g'

section
variable {P : Program} {W0 : World} {Φ : Held} {g : G} {rd stk : Stk} {w : World}

theorem OK.val {r : V × Stk} {s : Sem Value} {f : Sem Next} (h : OK W0 Φ g r (s.run P w)) (e : f.run P w = ((do pure (.value (← s)) : Sem Next)).run P w) : OKN W0 Φ g r (f.run P w) := by
  obtain ⟨v, w', g', h1, h2⟩ := h
  refine ⟨v, w', g', .inl ?_, h2⟩
  rw [e]
  simp [h1]

variable {tm : List (Nat × V)} {a : Act}
theorem opds_arr (ht : TmR g tm a) {xs : Array Operand} {vs : List V} (h : opds tm xs.toList = some vs) : ∃ us : List Value, (xs.map a.eval) = us.toArray ∧ us.length = vs.length ∧ ∀ (i : Nat) u x, us[i]? = some u → vs[i]? = some x → VR g u x := by
  obtain ⟨h1, h2⟩ := opds_ok ht h
  refine ⟨xs.toList.map a.eval, by apply Array.ext'; simp, by simp [← h1], fun i u x hu hx => ?_⟩
  rw [List.getElem?_map] at hu
  obtain ⟨o, ho, rfl⟩ := Option.map_eq_some_iff.1 hu
  exact h2 i o x ho hx

theorem evS_ok {A : An} {F : FuncId} (h : WR W0 Φ g stk w) (hs : Sub rd stk) (ht : TmR g tm a) (o : Oper) (hc : ∀ c, o.op ≠ .call c) {r : V × Stk} (hr : evS P A F rd o.dst o.type o.op tm stk = some r) :
    OKN W0 Φ g r ((execOp a.eval o).run P w) := by
  unfold execOp
  have mapk : ∀ {q : Option V}, (q.map fun v => (v, stk)) = some r → ∃ v, q = some v ∧ r = (v, stk) := fun hq => by
    obtain ⟨v, h1, h2⟩ := Option.map_eq_some_iff.1 hq
    exact ⟨v, h1, h2.symm⟩
  cases hop : o.op <;> rw [hop] at hr <;> simp only [evS, reduceCtorEq] at hr
  case move x =>
    split at hr
    · rename_i v hv
      cases hr
      exact ⟨_, w, g, .inl rfl, fixNl_ok (opd_ok ht hv), h, Ext.refl 0 g⟩
    · cases hr
  case assign x =>
    split at hr
    · rename_i sz d hv hd
      split at hr
      · split at hr
        · rename_i e sz' hty
          obtain ⟨d', f, q, e1, rfl, hdn, rfl⟩ := mkV_some_inv hr
          have hx := (opd_ok ht hv).nl_inv
          obtain ⟨v, w', g', h1, h2⟩ := new_nil h hdn e sz'
          cases h1
          exact ⟨_, w, g', .inl (by simp only [hx]; rfl), h2⟩
        · cases hr
      · cases hr
        have hx := (opd_ok ht hv).nl_inv
        refine ⟨_, w, g, .inl rfl, ?_, h, Ext.refl 0 g⟩
        rw [hx]
        exact fixNl_ok (.nl 0)
    · rename_i v hv _
      cases hr
      exact ⟨_, w, g, .inl rfl, opd_ok ht hv, h, Ext.refl 0 g⟩
    · cases hr
  case pick c x y =>
    split at hr
    · rename_i hcv
      obtain ⟨v, hv, rfl⟩ := mapk hr
      have := (opd_ok ht hcv).bool_inv
      exact ⟨_, w, g, .inl (by simp [this, asBool]), opd_ok ht hv, h, Ext.refl 0 g⟩
    · rename_i hcv
      obtain ⟨v, hv, rfl⟩ := mapk hr
      have := (opd_ok ht hcv).bool_inv
      exact ⟨_, w, g, .inl (by simp [this, asBool]), opd_ok ht hv, h, Ext.refl 0 g⟩
    · cases hr
  case alloc t =>
    split at hr
    · rename_i cs hz
      exact (alloc_ok h hz hr (.tuple #[])).val rfl
    · cases hr
  case box t x =>
    split at hr
    · rename_i v _ n hv hty
      split at hr
      · rename_i hn
        exact (box_ok h (opd_ok ht hv) hty hn hr).val rfl
      · cases hr
    · cases hr
  case build t parts =>
    obtain ⟨v, hv, rfl⟩ := mapk hr
    unfold bldV at hv
    split at hv
    · rename_i vs cs ho hz
      split at hv
      · rename_i hsome
        obtain ⟨cs', hf, rfl⟩ := Option.map_eq_some_iff.1 hv
        exact (build_ok h ht ho hz hsome hf).val rfl
      · cases hv
    · cases hv
  case buildSlice t len parts => exact (bsl_ok h hs ht hr).val rfl
  case load t x =>
    split at hr
    · rename_i v hv
      obtain ⟨y, hy, rfl⟩ := mapk hr
      exact (loadAt_ok h hs (opd_ok ht hv) hy).val rfl
    · cases hr
  case store t x y =>
    split at hr
    · rename_i u v hu hv
      obtain ⟨s, hst, rfl⟩ := Option.map_eq_some_iff.1 hr
      obtain ⟨w', g', h1, h2, h3⟩ := storeAt_ok h (opd_ok ht hu) (fixNl_ok (opd_ok ht hv)) hst
      exact ⟨undef, w', g', .inr ⟨by simp [h1], rfl⟩, .dead, h2, h3⟩
    · cases hr
  case nilCheck x =>
    split at hr
    · rename_i hv
      cases hr
      obtain ⟨b, hb, e⟩ := (opd_ok ht hv).ptr_inv
      exact ⟨_, w, g, .inl (by simp only [e]; rfl), .ptr _ _ _ _ hb, h, Ext.refl 0 g⟩
    · rename_i hv
      cases hr
      obtain ⟨sz, b, n, c, hb, e⟩ := (opd_ok ht hv).rptr_inv
      exact ⟨_, w, g, .inl (by simp only [e]; rfl), .rptr _ _ _ _ _ _ _ _ hb, h, Ext.refl 0 g⟩
    · rename_i hv
      cases hr
      obtain ⟨ad, vs, e, hM, hR⟩ := (opd_ok ht hv).eptr_inv
      exact ⟨_, w, g, .inl (by simp only [e]; rfl), .rd (.eptr _ _ _ _ hM hR), h, Ext.refl 0 g⟩
    · cases hr
  case binOp op t x y u =>
    split at hr
    · rename_i p q hp hq
      obtain ⟨v, hv, rfl⟩ := mapk hr
      obtain ⟨z, hz1, hz2⟩ := bin_ok (P := P) (w := w) (opd_ok ht hp) (opd_ok ht hq) hv
      exact ⟨z, w, g, .inl (by simp only [Sem.run_bind] at hz1 ⊢; simp only [hz1]; rfl), hz2, h, Ext.refl 0 g⟩
    · cases hr
  case unOp op t x =>
    split at hr
    · rename_i p hp
      obtain ⟨v, hv, rfl⟩ := mapk hr
      obtain ⟨z, hz1, hz2⟩ := un_ok (P := P) (w := w) (opd_ok ht hp) hv
      exact ⟨z, w, g, .inl (by simp [hz1]), hz2, h, Ext.refl 0 g⟩
    · cases hr
  case convert s d x =>
    split at hr
    · rename_i p hp
      obtain ⟨v, hv, rfl⟩ := mapk hr
      exact (cv_ok h hs (opd_ok ht hp) hv).val rfl
    · cases hr
  case makeInterface t x =>
    split at hr
    · rename_i p _ hp hu
      cases hr
      exact ⟨_, w, g, .inl (by simp [Instr.makeInterface, run_underlying hu]), .ifc _ _ _ (opd_ok ht hp), h, Ext.refl 0 g⟩
    · rename_i p _ hp hu
      cases hr
      exact ⟨_, w, g, .inl (by simp [Instr.makeInterface, run_underlying hu]), .ifc _ _ _ (opd_ok ht hp), h, Ext.refl 0 g⟩
    · cases hr
  case makeFunc fn first caps =>
    cases fn <;> simp only [reduceCtorEq] at hr
    split at hr
    · rename_i as bs h1 h2
      cases hr
      obtain ⟨us, e1, l1, p1⟩ := opds_arr ht h1
      obtain ⟨vs, e2, l2, p2⟩ := opds_arr ht h2
      exact ⟨_, w, g, .inl (by simp [Instr.makeFunc]; rfl), by rw [e1, e2]; exact .fn _ _ _ us vs l1 l2 p1 p2, h, Ext.refl 0 g⟩
    · cases hr
  case makeMap t r' =>
    cases r' <;> simp only [reduceCtorEq] at hr
    split at hr
    · rename_i z hm
      obtain ⟨d', f, q, e1, rfl, hdn, rfl⟩ := mkV_some_inv hr
      exact OK.val (s := Instr.makeMap t none) (by simpa [Instr.makeMap] using new_map h hdn (.smap []) (.inl rfl)) rfl
    · rename_i z hm
      obtain ⟨d', f, q, e1, rfl, hdn, rfl⟩ := mkV_some_inv hr
      exact OK.val (s := Instr.makeMap t none) (by simpa [Instr.makeMap] using new_map h hdn (.imap []) (.inr rfl)) rfl
    · cases hr
  case makeSlice t l c =>
    split at hr
    · rename_i p q hp hq
      exact (msl_ok h (opd_ok ht hp) (opd_ok ht hq) hr).val rfl
    · cases hr
  case slice t x lo hi mx =>
    cases mx <;> simp only [reduceCtorEq] at hr
    have sn : ∀ {y : Option Operand}, y.map (opd tm) = none → ((none : Option V) = none ∧ y.map a.eval = none) := fun {y} hy => by
      cases y with
      | none => exact ⟨rfl, rfl⟩
      | some o => cases hy
    have ss : ∀ {y : Option Operand} {l : V}, y.map (opd tm) = some (some l) → ∃ x v, some l = some x ∧ y.map a.eval = some v ∧ VR g v x := fun {y l} hy => by
      cases y with
      | none => cases hy
      | some o => exact ⟨l, a.eval o, rfl, rfl, opd_ok ht (by simpa using hy)⟩
    split at hr <;> try (cases hr; done)
    all_goals (
      rename_i hx h1 h2
      obtain ⟨v, hv, rfl⟩ := mapk hr)
    · exact OK.val (s := Instr.sliceAt t (a.eval x) (lo.map a.eval) (hi.map a.eval) none) (slV_ok h hs (opd_ok ht hx) hv (.inl (sn h1)) (.inl (sn h2))) rfl
    · exact OK.val (s := Instr.sliceAt t (a.eval x) (lo.map a.eval) (hi.map a.eval) none) (slV_ok h hs (opd_ok ht hx) hv (.inr (ss h1)) (.inl (sn h2))) rfl
    · exact OK.val (s := Instr.sliceAt t (a.eval x) (lo.map a.eval) (hi.map a.eval) none) (slV_ok h hs (opd_ok ht hx) hv (.inl (sn h1)) (.inr (ss h2))) rfl
    · exact OK.val (s := Instr.sliceAt t (a.eval x) (lo.map a.eval) (hi.map a.eval) none) (slV_ok h hs (opd_ok ht hx) hv (.inr (ss h1)) (.inr (ss h2))) rfl
  case fieldAddr t x f =>
    split at hr
    · rename_i p hp
      obtain ⟨v, hv, rfl⟩ := mapk hr
      exact (fdA_ok h (opd_ok ht hp) hv).val rfl
    · cases hr
  case indexAddr t x i =>
    split at hr
    · rename_i p k n hp hi
      obtain ⟨v, hv, rfl⟩ := mapk hr
      have hi' := (opd_ok ht hi).int_inv
      exact OK.val (s := Instr.indexAt t (a.eval x) (a.eval i)) (by rw [hi']; exact ixA_ok h hs (opd_ok ht hp) hv) rfl
    · cases hr
  case index t x i =>
    split at hr
    · rename_i p k n hp hi
      obtain ⟨v, hv, rfl⟩ := mapk hr
      have hi' := (opd_ok ht hi).int_inv
      exact OK.val (s := Instr.index t (a.eval x) (a.eval i)) (by rw [hi']; exact ixV_ok h (opd_ok ht hp) hv) rfl
    · cases hr
  case lookup t x k ok =>
    split at hr
    · rename_i p q hp hq
      obtain ⟨v, hv, rfl⟩ := mapk hr
      exact (lk_ok h hs (opd_ok ht hp) (opd_ok ht hq) hv).val rfl
    · cases hr
  case mapUpdate t m k x =>
    split at hr
    · rename_i p q u hp hq hu
      obtain ⟨s, hst, rfl⟩ := Option.map_eq_some_iff.1 hr
      obtain ⟨w', g', h1, h2, h3⟩ := pu_ok h (opd_ok ht hp) (opd_ok ht hq) (opd_ok ht hu) hst
      exact ⟨undef, w', g', .inr ⟨by simp [h1], rfl⟩, .dead, h2, h3⟩
    · cases hr
  case insert t m k x =>
    split at hr
    · rename_i p q u hp hq hu
      obtain ⟨s, hst, rfl⟩ := Option.map_eq_some_iff.1 hr
      obtain ⟨w', g', h1, h2, h3⟩ := pu_ok h (opd_ok ht hp) (opd_ok ht hq) (opd_ok ht hu) hst
      exact ⟨undef, w', g', .inr ⟨by simp [h1], rfl⟩, .dead, h2, h3⟩
    · cases hr
  case extract x i =>
    split at hr
    · rename_i vs hp
      obtain ⟨v, hv, rfl⟩ := mapk hr
      obtain ⟨us, e, l, p⟩ := (opd_ok ht hp).tup_inv
      obtain ⟨u, hu⟩ : ∃ u, us[i]? = some u := ⟨_, List.getElem?_eq_getElem (by have := (List.getElem?_eq_some_iff.1 hv).1; omega)⟩
      exact ⟨u, w, g, .inl (by simp [Instr.extract, e, hu]), p i u v hu hv, h, Ext.refl 0 g⟩
    · cases hr
end
end Go.Shade
