/-
  The operations, one by one: arithmetic, comparisons, conversions.
-/
import Derived.Test.YtcecleclipcheaaSh9
import Derived.Laws.StructEq
import Derived.Laws.Slices
import Derived.Laws.Strings2
import Derived.Laws.Strings3
import Derived.WideLaws
set_option linter.unusedVariables false
set_option linter.unusedSimpArgs false
namespace Go.Shade
open Go Go.RowKit

section
variable {P : Program} {W0 : World} {Φ : Held} {g : G} {rd stk : Stk} {w : World}

theorem ibeq (a b : Int) : (a == b) = decide (a = b) := by by_cases h : a = b <;> simp [h]
theorem ar_ok {op : BinOp} {t : TypeId} {k : IntKind} {a b : Int} {r : V} (h : arV op k a b = some r) : ∃ v, (binOp op t (.int k a) (.int k b)).run P w = .ok v w ∧ VR g v r := by
  cases op <;> simp only [arV, reduceCtorEq] at h
  case quo =>
    split at h
    · cases h
    · rename_i hb; cases h; exact ⟨_, by simp [binOp, Op.intDiv, hb], .rd (.int _ _)⟩
  case rem =>
    split at h
    · cases h
    · rename_i hb; cases h; exact ⟨_, by simp [binOp, Op.intDiv, hb], .rd (.int _ _)⟩
  case eql => cases h; exact ⟨.bool (a == b), by simp [binOp, Op.intCmp], by rw [ibeq]; exact .rd (.bool _)⟩
  case neq => cases h; exact ⟨.bool (!(a == b)), by simp [binOp, Op.intCmp, bne], by rw [ibeq]; exact .rd (.bool _)⟩
  case add => cases h; exact ⟨_, by simp [binOp, Op.intArith], .rd (.int _ _)⟩
  case sub => cases h; exact ⟨_, by simp [binOp, Op.intArith], .rd (.int _ _)⟩
  case mul => cases h; exact ⟨_, by simp [binOp, Op.intArith], .rd (.int _ _)⟩
  all_goals (cases h; exact ⟨_, by simp [binOp, Op.intCmp], .rd (.bool _)⟩)

theorem st_ok {op : BinOp} {t : TypeId} {a b : ByteArray} {r : V} (h : stV op a b = some r) : ∃ v, (binOp op t (.string a) (.string b)).run P w = .ok v w ∧ VR g v r := by
  have e : (binOp op t (.string a) (.string b)).run P w = (Op.stringOp op a b).run P w := by cases op <;> rfl
  rw [e]
  cases op <;> simp only [stV, reduceCtorEq] at h
  case add =>
    split at h
    · rename_i hl
      cases h
      have : ¬ (9223372036854775807 < (a.size : Int) + (b.size : Int)) := by omega
      exact ⟨_, by simp [Op.stringOp, this], .rd (.str _)⟩
    · cases h
  case gtr =>
    cases h
    refine ⟨.bool (!(strLt a b || strEq a b)), ?_, ?_⟩
    · simp [Op.stringOp, strLt, strEq]
    · rw [Bool.not_or]; exact .rd (.bool _)
  all_goals (cases h; exact ⟨_, by simp [Op.stringOp]; rfl, .rd (.bool _)⟩)

/-! ### '==' -/
theorem isAgg_no {t : TypeId} {d : TypeDesc} (hu : P.underlying t = some d) (hd : d = .bool ∨ (∃ k, d = .int k) ∨ d = .string) : (isAgg t).run P w = .ok false w := by
  rcases hd with rfl | ⟨k, rfl⟩ | rfl <;> simp [isAgg, run_underlying hu]
theorem part_no {t : TypeId} {d : TypeDesc} (hu : P.underlying t = some d) (hd : d = .bool ∨ (∃ k, d = .int k) ∨ d = .string) {cs : Array Value} {o : Nat} {v : Value} (hv : cs[o]? = some v) : (part t cs o).run P w = .ok v w := by
  simp [part, isAgg_no hu hd, hv]
theorem flat_ok {d : Nat} {xs ys : Array Value} : ∀ (fs : List Field) (o : Nat) (ks : List Nat) (as bs : List V) (r : Bool), flatF P fs o = some ks → eqVL ks as bs = some r →
    (xs.size = o + as.length ∧ ∀ j v x, xs[o + j]? = some v → as[j]? = some x → VR g v x) → (ys.size = o + bs.length ∧ ∀ j v x, ys[o + j]? = some v → bs[j]? = some x → VR g v x) →
    (Op.eqFields (d + 1) xs ys fs).run P w = .ok r w
  | [], o, ks, as, bs, r, hf, he, _, _ => by
    simp only [flatF, Option.some.injEq] at hf
    subst hf
    cases as <;> cases bs <;> simp [eqVL] at he
    subst he
    rfl
  | f :: fs, o, ks, as, bs, r, hf, he, hx, hy => by
    simp only [flatF] at hf
    split at hf
    · rename_i hn
      obtain ⟨hn, ho⟩ := hn
      have go : ∀ κ ks', flatF P fs (o + 1) = some ks' → ks = κ :: ks' → (∀ x y v u b, VR g v x → VR g u y → eqV κ x y = some b → (Op.equalIn (d + 1) f.type v u).run P w = .ok b w) →
          (∀ cs v, cs[o]? = some v → (part f.type cs o).run P w = .ok v w) → (Op.eqFields (d + 1) xs ys (f :: fs)).run P w = .ok r w := by
        intro κ ks' hks e heq hpart
        subst e
        cases as with
        | nil => simp [eqVL] at he
        | cons x as =>
          cases bs with
          | nil => simp [eqVL] at he
          | cons y bs =>
            simp only [eqVL] at he
            unfold and2 at he
            split at he
            · rename_i b1 b2 h1 h2
              cases he
              obtain ⟨v, hv⟩ : ∃ v, xs[o]? = some v := ⟨_, Array.getElem?_eq_getElem (by simp at hx; omega)⟩
              obtain ⟨u, hu⟩ : ∃ v, ys[o]? = some v := ⟨_, Array.getElem?_eq_getElem (by simp at hy; omega)⟩
              have hb1 := heq x y v u b1 (hx.2 0 v x hv rfl) (hy.2 0 u y hu rfl) h1
              have hr := flat_ok (d := d) fs (o + 1) ks' as bs b2 hks h2 ⟨by simpa [Nat.add_assoc, Nat.add_comm 1] using hx.1, fun j v x h1 h2 => hx.2 (j + 1) v x (by rw [← h1]; congr 1; omega) (by simpa using h2)⟩
                ⟨by simpa [Nat.add_assoc, Nat.add_comm 1] using hy.1, fun j v x h1 h2 => hy.2 (j + 1) v x (by rw [← h1]; congr 1; omega) (by simpa using h2)⟩
              have e1 := hpart xs v hv
              have e2 := hpart ys u hu
              subst ho
              cases b1 <;> simp [Op.eqFields, hn, e1, e2, hb1, hr]
            · cases he
      split at hf
      · rename_i ks' hu hks
        cases hf
        exact go 0 ks' hks rfl (fun x y v u b hv hu' hb => by
          cases x <;> cases y <;> simp only [eqV, reduceCtorEq] at hb
          cases hb
          rw [hv.bool_inv, hu'.bool_inv]
          exact run_equalIn_bool w d _ _ _ hu) (fun cs v hv => part_no hu (.inl rfl) hv)
      · rename_i k ks' hu hks
        cases hf
        exact go 1 ks' hks rfl (fun x y v u b hv hu' hb => by
          cases x <;> cases y <;> simp only [eqV, reduceCtorEq] at hb
          split at hb
          · rename_i hk
            cases hb
            subst hk
            rw [hv.int_inv, hu'.int_inv, ← ibeq]
            exact run_equalIn_int w d _ _ _ _ _ hu
          · cases hb) (fun cs v hv => part_no hu (.inr (.inl ⟨_, rfl⟩)) hv)
      · rename_i ks' hu hks
        cases hf
        exact go 2 ks' hks rfl (fun x y v u b hv hu' hb => by
          cases x <;> cases y <;> simp only [eqV, reduceCtorEq] at hb
          cases hb
          rw [hv.str_inv, hu'.str_inv]
          exact run_equalIn_string w d _ _ _ hu) (fun cs v hv => part_no hu (.inr (.inr rfl)) hv)
      · cases hf
    · cases hf

theorem run_equalIn_nil_held (d : Nat) (t u : TypeId) (x : Value) (h : P.underlying t = some (.interface (P.methodsAt t))) : (Op.equalIn (d + 1) t .nilIface (.iface u x)).run P w = .ok false w := by
  simp [Op.equalIn, run_underlying h]
theorem eqR_ok {op : BinOp} {t : TypeId} {u v : Value} {b : Bool} {r : V} (h : eqR op (some b) = some r) (he : (Op.equal t u v).run P w = .ok b w)
    (h1 : (binOp .eql t u v) = (do pure (.bool (← Op.equal t u v)))) (h2 : (binOp .neq t u v) = (do pure (.bool (!(← Op.equal t u v))))) : ∃ z, (binOp op t u v).run P w = .ok z w ∧ VR g z r := by
  cases op <;> simp only [eqR, Option.map_some, reduceCtorEq] at h
  · cases h
    refine ⟨.bool b, by rw [h1]; simp [he], .rd (.bool _)⟩
  · cases h
    refine ⟨.bool (!b), by rw [h2]; simp [he], .rd (.bool _)⟩

theorem eqR_op {op : BinOp} {q : Option Bool} {r : V} (h : eqR op q = some r) : ∃ b, q = some b := by
  cases op <;> simp only [eqR, reduceCtorEq] at h <;> (cases q <;> simp at h; exact ⟨_, rfl⟩)

theorem bin_ok {op : BinOp} {t : TypeId} {x y : Operand} {u v : Value} {a b r : V} (hu : VR g u a) (hv : VR g v b) (h : biN (eqK P t) (isC x || isC y) op a b = some r) :
    ∃ z, (do eqGuard op t x y u v; binOp op t u v : Sem Value).run P w = .ok z w ∧ VR g z r := by
  have plain : (eqGuard op t x y u v).run P w = .ok () w → (∃ z, (binOp op t u v).run P w = .ok z w ∧ VR g z r) → ∃ z, (do eqGuard op t x y u v; binOp op t u v : Sem Value).run P w = .ok z w ∧ VR g z r := by
    rintro hg ⟨z, hz, hz'⟩
    exact ⟨z, by simp [hg, hz], hz'⟩
  unfold biN at h
  split at h
  · obtain rfl := hu.int_inv
    obtain rfl := hv.int_inv
    split at h
    · rename_i hk
      subst hk
      exact plain (by cases op <;> rfl) (ar_ok h)
    · cases h
  · obtain rfl := hu.str_inv
    obtain rfl := hv.str_inv
    exact plain (by cases op <;> rfl) (st_ok h)
  · obtain rfl := hu.bool_inv
    obtain rfl := hv.bool_inv
    split at h
    · rename_i hK
      have hub : P.underlying t = some .bool := by
        unfold eqK at hK
        split at hK <;> first | assumption | (cases hK; done) | (split at hK <;> (try split at hK) <;> cases hK)
      exact plain (by cases op <;> rfl) (eqR_ok h (run_equal_bool w t _ _ hub) rfl rfl)
    · cases h
  · obtain rfl := hu.nili_inv
    obtain rfl := hv.nili_inv
    split at h
    · rename_i hK hc
      have hub : P.underlying t = some (.interface (P.methodsAt t)) := by
        unfold eqK at hK
        split at hK <;> first | (rename_i hh; simp [Program.methodsAt, hh]; done) | (cases hK; done) | (split at hK <;> (try split at hK) <;> cases hK)
      refine plain ?_ (eqR_ok h (run_equal_nil_nil w t hub) rfl rfl)
      cases x <;> cases y <;> simp only [isC, Bool.or_false, Bool.or_true, Bool.false_eq_true] at hc <;> cases op <;> simp [eqGuard]
    · cases h
  · obtain rfl := hu.nili_inv
    obtain ⟨v', rfl, _⟩ := hv.ifc_inv
    split at h
    · rename_i hK
      have hub : P.underlying t = some (.interface (P.methodsAt t)) := by
        unfold eqK at hK
        split at hK <;> first | (rename_i hh; simp [Program.methodsAt, hh]; done) | (cases hK; done) | (split at hK <;> (try split at hK) <;> cases hK)
      exact plain (by cases op <;> rfl) (eqR_ok h (run_equalIn_nil_held 9999 t _ _ hub) rfl rfl)
    · cases h
  · obtain rfl := hv.nili_inv
    obtain ⟨v', rfl, _⟩ := hu.ifc_inv
    split at h
    · rename_i hK
      have hub : P.underlying t = some (.interface (P.methodsAt t)) := by
        unfold eqK at hK
        split at hK <;> first | (rename_i hh; simp [Program.methodsAt, hh]; done) | (cases hK; done) | (split at hK <;> (try split at hK) <;> cases hK)
      exact plain (by cases op <;> rfl) (eqR_ok h (run_equal_held_nil w t _ _ hub) rfl rfl)
    · cases h
  · split at h
    · rename_i as bs _ ks hK
      obtain ⟨us, rfl, e1, p1, _⟩ := hu.agg_inv
      obtain ⟨vs, rfl, e2, p2, _⟩ := hv.agg_inv
      unfold eqK at hK
      split at hK <;> try (cases hK; done)
      rename_i fs hus
      split at hK
      · rename_i ks' hf
        split at hK
        · rename_i hp
          cases hK
          obtain ⟨b, hb⟩ := eqR_op h
          rw [hb] at h
          have hft : P.fieldsOf t = fs := by simp [Program.fieldsOf, hus]
          have hfl := flat_ok (P := P) (g := g) (w := w) (d := 9998) (xs := us.toArray) (ys := vs.toArray) fs.toList 0 ks as bs b hf hb ⟨by simp [e1], fun j v x hv hx => p1 j v x (by simpa using hv) hx⟩ ⟨by simp [e2], fun j v x hv hx => p2 j v x (by simpa using hv) hx⟩
          refine plain (run_eqGuard_agg w op t x y _ _ hp.2) (eqR_ok h ?_ rfl rfl)
          have := run_equalIn_struct (P := P) w 9999 t us.toArray vs.toArray (by rw [hft]; exact hus) hp.1
          rw [hft, hfl] at this
          exact this
        · cases hK
      · cases hK
    · cases h
  · cases h

/-! ### unary, conversions -/
theorem un_ok {op : UnOp} {u : Value} {a r : V} (hu : VR g u a) (h : unV op a = some r) : ∃ z, (Op.unary op u).run P w = .ok z w ∧ VR g z r := by
  unfold unV at h
  split at h
  · rw [hu.bool_inv]
    split at h
    · cases h; exact ⟨_, rfl, .rd (.bool _)⟩
    · cases h
  · rw [hu.int_inv]
    split at h
    · cases h; exact ⟨_, rfl, .rd (.int _ _)⟩
    · cases h
  · cases h
end
end Go.Shade
