/-
  The operations, one by one: slices that are read.
-/
import Derived.Test.YtcecleclipcheaaSh10
import Derived.Laws.BytesString
set_option linter.unusedVariables false
set_option linter.unusedSimpArgs false
namespace Go.Shade
open Go Go.RowKit

/-- Cells that hold rows now. -/
def Now (M : Mem) (w : World) (v : Value) (sz : Nat) (rows : List (List V)) : Prop :=
  (v = .slice none 0 0 ∧ rows = []) ∨ ∃ (a : Addr) (c : Nat) (vs : Nat → Nat → Value), v = .slice (some a) rows.length c ∧ rows.length ≤ c ∧ (∀ r ∈ rows, r.length = sz) ∧
    (∀ i r j x, rows[i]? = some r → r[j]? = some x → w.cell? (a.add (i * sz + j)) = some (vs i j)) ∧ ∀ i r j x, rows[i]? = some r → r[j]? = some x → Rd M (vs i j) x

section
variable {P : Program} {W0 : World} {Φ : Held} {g : G} {rd stk : Stk} {w : World}

theorem Rd.now (h : WR W0 Φ g stk w) {v : Value} {sz : Nat} {rows : List (List V)} (hr : Rd g.M v (.sl sz rows)) : Now g.M w v sz rows := by
  rcases hr.sl_inv with e | ⟨a, c, vs, h1, h2, h3, h4, h5⟩
  · exact .inl e
  · exact .inr ⟨a, c, vs, h1, h2, h3, fun i r j x h6 h7 => h.mem _ _ (h4 i r j x h6 h7), h5⟩

theorem row_now (h : WR W0 Φ g stk w) {l t sz : Nat} {xs : List (List V)} (hl : lookB stk l t = some (.row sz xs)) : ∃ b n c, g.β l t = some (.row sz b n c) ∧ n = xs.length ∧ Now g.M w (.slice (some ⟨b, 0, none⟩) n c) sz xs := by
  obtain ⟨hh, h1, h2⟩ := h.box l t _ hl
  cases hh <;> simp only [BoxR] at h2
  rename_i sz' b n c
  obtain ⟨rfl, rfl, e2, cs, e, h3, h4, h5, h6⟩ := h2
  refine ⟨b, xs.length, c, h1, rfl, .inr ⟨_, c, fun i j => cs.getD (i * sz + j) undef, rfl, e2, h5, fun i r j x hi hj => ?_, fun i r j x hi hj => ?_⟩⟩
  · obtain ⟨v, hv, _⟩ := h6 i r j x hi hj
    rw [add_lit, Nat.zero_add, cell_of_row w b _ cs e (0, 0) h3, hv]
    simp [hv]
  · obtain ⟨v, hv, hx⟩ := h6 i r j x hi hj
    have : cs.getD (i * sz + j) undef = v := by simp [hv]
    simp only [this]
    exact hx

theorem asSl_ok (h : WR W0 Φ g stk w) (hs : Sub rd stk) {v : Value} {x : V} {sz : Nat} {rows : List (List V)} (hv : VR g v x) (hx : asSl rd x = some (sz, rows)) : Now g.M w v sz rows := by
  unfold asSl at hx
  split at hx
  · cases hx; exact hv.sl_inv.now h
  · cases hx; exact .inl ⟨hv.nl_inv, rfl⟩
  · cases hx; exact hv.ap_inv.1.now h
  · rename_i l t
    split at hx
    · rename_i hl
      cases hx
      obtain ⟨b, n, c, h1, h2, h3⟩ := row_now h (hs _ _ _ hl (by intros; simp))
      obtain ⟨_, _, _, _, h4, rfl⟩ := hv.row_inv
      rw [h1] at h4
      cases h4
      exact h3
    · rename_i hl
      cases hx
      obtain ⟨_, b, n, c, h1, h3⟩ := h.fz_rd hs _ _ _ _ hl
      obtain ⟨_, _, _, _, h4, rfl⟩ := hv.row_inv
      rw [h1] at h4
      cases h4
      exact h3.now h
    · cases hx
  · cases hx

theorem asRd_ok (h : WR W0 Φ g stk w) (hs : Sub rd stk) {v : Value} {x : V} {sz : Nat} {rows : List (List V)} (hv : VR g v x) (hx : asRd rd x = some (sz, rows)) : Rd g.M v (.sl sz rows) := by
  unfold asRd at hx
  split at hx
  · cases hx; exact hv.sl_inv
  · cases hx; rw [hv.nl_inv]; exact .nil _
  · cases hx; exact hv.ap_inv.1
  · rename_i l t
    split at hx
    · rename_i hl
      cases hx
      obtain ⟨_, b, n, c, h1, h3⟩ := h.fz_rd hs _ _ _ _ hl
      obtain ⟨_, _, _, _, h4, rfl⟩ := hv.row_inv
      rw [h1] at h4
      cases h4
      exact h3
    · cases hx
  · cases hx

/-! ### len -/
theorem kdT_1 {t : TypeId} (h : kdT P t = 1) : P.underlying t = some .string := by
  unfold kdT at h; split at h <;> first | assumption | cases h
theorem kdT_2 {t : TypeId} (h : kdT P t = 2) : P.underlying t = some (.slice (P.elem t)) := by
  unfold kdT at h; split at h <;> first | (cases h; done) | (rename_i hh; simp [Program.elem, hh])
theorem kdT_3 {t : TypeId} (h : kdT P t = 3) : ∃ k e, P.underlying t = some (.map k e) := by
  unfold kdT at h; split at h <;> first | (cases h; done) | exact ⟨_, _, by assumption⟩
theorem Now.len {M : Mem} {v : Value} {sz : Nat} {rows : List (List V)} (h : Now M w v sz rows) : ∃ a c, v = .slice a rows.length c := by
  rcases h with ⟨rfl, rfl⟩ | ⟨a, c, _, rfl, _⟩
  · exact ⟨none, 0, rfl⟩
  · exact ⟨some a, c, rfl⟩
theorem len_ok (h : WR W0 Φ g stk w) (hs : Sub rd stk) {t ty : TypeId} {v : Value} {x : V} (hv : VR g v x) {r : V} (hr : lenV rd (kdT P t) x = some r) : OK W0 Φ g (r, stk) ((Builtin.len_ #[t] ty #[v]).run P w) := by
  unfold lenV at hr
  split at hr
  · split at hr
    · rename_i hk
      cases hr
      rw [hv.str_inv, run_len_string w t ty _ (kdT_1 hk)]
      exact .same (.rd (.int _ _)) h
    · cases hr
  · split at hr
    · rename_i l b hk
      obtain ⟨k, e, hu⟩ := kdT_3 hk
      obtain ⟨q, h1, rfl⟩ := hv.mp_inv
      split at hr
      · rename_i es hl
        cases hr
        obtain ⟨hh, h2, h3⟩ := h.box _ _ _ (hs _ _ _ hl (by intros; simp))
        rw [h1] at h2
        cases h2
        obtain ⟨en, cl, h4, h5, _⟩ := h3
        have e : (Builtin.len_ #[t] ty #[.map (some q)]).run P w = .ok (.int .i64 es.length) w := by simp [Builtin.len_, run_underlying hu, run_getObj_map w q en cl h4.1, h5, goInt]
        rw [e]
        exact .same (.rd (.int _ _)) h
      · rename_i es hl
        cases hr
        obtain ⟨hh, h2, h3⟩ := h.box _ _ _ (hs _ _ _ hl (by intros; simp))
        rw [h1] at h2
        cases h2
        obtain ⟨en, cl, h4, h5, _⟩ := h3
        have e : (Builtin.len_ #[t] ty #[.map (some q)]).run P w = .ok (.int .i64 es.length) w := by simp [Builtin.len_, run_underlying hu, run_getObj_map w q en cl h4.1, h5, goInt]
        rw [e]
        exact .same (.rd (.int _ _)) h
      · cases hr
    · cases hr
  · split at hr
    · rename_i hk
      split at hr
      · rename_i sz rows hx
        cases hr
        obtain ⟨a, c, rfl⟩ := (asSl_ok h hs hv hx).len
        rw [run_len_slice w t ty a _ c (kdT_2 hk)]
        exact .same (.rd (.int _ _)) h
      · cases hr
    · cases hr

/-! ### slices of slices -/
theorem slSz_ok {t : TypeId} {sz : Nat} (h : slSz P t = some sz) : P.underlying t = some (.slice (P.elem t)) ∧ (sizeOf (P.elem t)).run P w = .ok sz w := by
  unfold slSz at h
  split at h
  · rename_i e he
    obtain ⟨i, hi, rfl⟩ := Option.map_eq_some_iff.1 h
    have : P.elem t = e := by simp [Program.elem, he]
    rw [this]
    exact ⟨he, by simp [sizeOf, typeInfo, hi]⟩
  · cases h

theorem rd_part {M : Mem} {a : Option Addr} {n c sz : Nat} {rows : List (List V)} (h : Rd M (.slice a n c) (.sl sz rows)) {l hi : Nat} (h1 : l ≤ hi) (h2 : hi ≤ rows.length) : Rd M (sliced a l hi c sz) (.sl sz ((rows.take hi).drop l)) := by
  rcases h.sl_inv with ⟨e, rfl⟩ | ⟨ad, c', vs, e, hc, hz, hM, hR⟩
  · cases e
    have e0 : hi = 0 := by simpa using h2
    have e1 : l = 0 := by omega
    subst e0 e1
    exact .nil _
  · cases e
    have hl : ((rows.take hi).drop l).length = hi - l := by simp; omega
    have hget : ∀ i r, ((rows.take hi).drop l)[i]? = some r → rows[l + i]? = some r := by
      intro i r hr
      rw [List.getElem?_drop, List.getElem?_take] at hr
      split at hr
      · exact hr
      · cases hr
    unfold sliced
    split
    · have hnil : (rows.take hi).drop l = [] := List.eq_nil_of_length_eq_zero (by omega)
      rw [← hl, hnil]
      exact .sl ad _ sz [] (fun _ _ => undef) (by simp) (by simp) (fun i r j x h => by simp at h) (fun i r j x h => by simp at h)
    · rw [← hl, Option.map_some]
      refine .sl _ _ sz _ (fun i j => vs (l + i) j) (by omega) (fun r hr => hz r (List.mem_of_mem_take (List.mem_of_mem_drop hr))) (fun i r j x hr hx => ?_) (fun i r j x hr hx => hR _ r j x (hget i r hr) hx)
      rw [add_add, ← hM (l + i) r j x (hget i r hr) hx, Nat.add_mul, Nat.add_assoc]

theorem bd_ok {n : Nat} {c : Nat} (hc : n ≤ c) {lo hi : Option V} {l u : Nat} {lo' hi' : Option Value} (h : bdV n lo hi = some (l, u))
    (hlo : (lo = none ∧ lo' = none) ∨ ∃ x v, lo = some x ∧ lo' = some v ∧ VR g v x) (hhi : (hi = none ∧ hi' = none) ∨ ∃ x v, hi = some x ∧ hi' = some v ∧ VR g v x) (b : Bool) :
    l ≤ u ∧ u ≤ n ∧ (Instr.sliceBounds b n c lo' hi' none).run P w = .ok (l, u, c) w := by
  unfold bdV at h
  split at h
  · cases h
    obtain ⟨_, rfl⟩ | ⟨_, _, h0, _⟩ := hlo
    · obtain ⟨_, rfl⟩ | ⟨_, _, h0, _⟩ := hhi
      · exact ⟨by omega, by omega, by simp [Instr.sliceBounds]⟩
      · cases h0
    · cases h0
  · split at h
    · rename_i hb
      cases h
      obtain ⟨h0, _⟩ | ⟨x, v, h0, rfl, hv⟩ := hlo
      · cases h0
      · cases h0
        obtain ⟨_, rfl⟩ | ⟨_, _, h0, _⟩ := hhi
        · rw [hv.int_inv]
          exact ⟨by omega, by omega, by simp [Instr.sliceBounds, run_sliceBound, hb.1, hb.2]⟩
        · cases h0
    · cases h
  · rename_i kk hh
    split at h
    · rename_i hb
      cases h
      obtain ⟨h0, _⟩ | ⟨x, v, h0, rfl, hv⟩ := hhi
      · cases h0
      · cases h0
        obtain ⟨_, rfl⟩ | ⟨_, _, h0, _⟩ := hlo
        · rw [hv.int_inv]
          have hc' : hh ≤ (c : Int) := by omega
          exact ⟨by omega, by omega, by cases b <;> simp [Instr.sliceBounds, run_sliceBound w _ _ c _ hb.1 hc']⟩
        · cases h0
    · cases h
  · rename_i k1 ll k2 hh
    split at h
    · rename_i hb
      cases h
      obtain ⟨h0, _⟩ | ⟨x, v, h0, rfl, hv⟩ := hhi
      · cases h0
      · cases h0
        obtain ⟨h0, _⟩ | ⟨x, v', h0, rfl, hv'⟩ := hlo
        · cases h0
        · cases h0
          rw [hv.int_inv, hv'.int_inv]
          obtain ⟨b1, b2, b3⟩ := hb
          refine ⟨by omega, by omega, ?_⟩
          have hc' : hh ≤ (c : Int) := by omega
          have e1 : ll ≤ ((hh.toNat : Nat) : Int) := by omega
          simp only [Instr.sliceBounds, Sem.run_bind, Sem.run_pure, Result.andThen_ok, run_sliceBound w k2 hh c _ (Int.le_trans b1 b2) hc']
          simp [run_sliceBound w k1 ll hh.toNat _ b1 e1]
    · cases h
  · cases h

theorem slV_ok (h : WR W0 Φ g stk w) (hs : Sub rd stk) {t : TypeId} {v : Value} {x y : V} (hv : VR g v x) {lo hi : Option V} {lo' hi' : Option Value} (hy : slV P rd t x lo hi = some y)
    (hlo : (lo = none ∧ lo' = none) ∨ ∃ x v, lo = some x ∧ lo' = some v ∧ VR g v x) (hhi : (hi = none ∧ hi' = none) ∨ ∃ x v, hi = some x ∧ hi' = some v ∧ VR g v x) :
    OK W0 Φ g (y, stk) ((Instr.sliceAt t v lo' hi' none).run P w) := by
  unfold slV at hy
  split at hy
  · split at hy
    · rename_i s hk
      split at hy
      · rename_i l u hb
        cases hy
        obtain rfl := hv.str_inv
        have hu := kdT_1 hk
        obtain ⟨_, _, hbo⟩ := bd_ok (P := P) (w := w) (g := g) (Nat.le_refl _) hb hlo hhi false
        have e : (Instr.sliceAt t (.string s) lo' hi' none).run P w = .ok (.string (s.extract l u)) w := by
          rw [run_sliceAt_string w t _ _ _ _ hu]
          simp [Instr.slice, run_underlying hu, hbo]
        rw [e]
        exact .same (.rd (.str _)) h
      · cases hy
    · cases hy
  · split at hy
    · rename_i sz rows hx
      split at hy
      · rename_i hsz
        split at hy
        · rename_i l u hb
          cases hy
          have hr := asRd_ok h hs hv hx
          obtain ⟨hu, hso⟩ := slSz_ok (w := w) hsz
          obtain ⟨a, c, e, hc⟩ : ∃ a c, v = .slice a rows.length c ∧ rows.length ≤ c := by
            rcases hr.sl_inv with ⟨rfl, rfl⟩ | ⟨a, c, vs, rfl, hc, _⟩
            · exact ⟨none, 0, rfl, by simp⟩
            · exact ⟨some a, c, rfl, hc⟩
          subst e
          obtain ⟨b1, b2, hbo⟩ := bd_ok (P := P) (w := w) (g := g) hc hb hlo hhi true
          have e : (Instr.sliceAt t (.slice a rows.length c) lo' hi' none).run P w = .ok (sliced a l u c sz) w := by
            rw [run_sliceAt_slice w t _ _ _ _ hu, run_slice_any w t a _ c hu, hbo]
            simp [hso]
          rw [e]
          exact .same (.rd (rd_part hr b1 b2)) h
        · cases hy
      · cases hy
    · cases hy

/-! ### element addresses, elements -/
theorem arrLen_ok {t : TypeId} {n sz : Nat} (h : arrLen P t = some (n, sz)) : 2 ≤ n ∧ P.arrayLen t = n ∧ P.underlying t = some (.array (P.arrayLen t) (P.elem t)) ∧ (sizeOf (P.elem t)).run P w = .ok sz w := by
  unfold arrLen at h
  split at h
  · rename_i n' e he
    split at h
    · rename_i i hi
      split at h
      · rename_i hn
        simp only [Option.some.injEq, Prod.mk.injEq] at h
        obtain ⟨rfl, rfl⟩ := h
        have h1 : P.elem t = e := by simp [Program.elem, he]
        have h2 : P.arrayLen t = n' := by simp [Program.arrayLen, he]
        refine ⟨hn, h2, by rw [h1, h2]; exact he, by rw [h1]; simp [sizeOf, typeInfo, hi]⟩
      · cases h
    · cases h
  · cases h

theorem eptr_rd {M : Mem} {a : Addr} {vs : Nat → Nat → Value} {sz i : Nat} {rows : List (List V)} {r : List V} (hr : rows[i]? = some r)
    (hM : ∀ i r j x, rows[i]? = some r → r[j]? = some x → M (a.add (i * sz + j)) = some (vs i j)) (hR : ∀ i r j x, rows[i]? = some r → r[j]? = some x → Rd M (vs i j) x) : Rd M (.pointer (some (a.add (i * sz)))) (.eptr r 0) := by
  have := Rd.eptr (M := M) (a.add (i * sz)) r 0 (fun j => vs i j) (fun j x hx => by rw [add_add]; exact hM i r j x hr hx) (fun j x hx => hR i r j x hr hx)
  rwa [add_add, Nat.add_zero] at this

theorem ixA_ok (h : WR W0 Φ g stk w) (hs : Sub rd stk) {t : TypeId} {v : Value} {x y : V} {k : IntKind} {i : Int} (hv : VR g v x) (hy : ixA P rd t x i = some y) : OK W0 Φ g (y, stk) ((Instr.indexAt t v (.int k i)).run P w) := by
  have el : ∀ sz xs r, Rd g.M v (.sl sz xs) → slSz P t = some sz → 0 ≤ i → xs[i.toNat]? = some r → OK W0 Φ g (.eptr r 0, stk) ((Instr.indexAt t v (.int k i)).run P w) := by
    intro sz xs r hr hsz h0 hi
    obtain ⟨hu, hso⟩ := slSz_ok (w := w) hsz
    have hlt := (List.getElem?_eq_some_iff.1 hi).1
    rcases hr.sl_inv with ⟨rfl, rfl⟩ | ⟨a, c, vs, rfl, hc, hz, hM, hR⟩
    · simp at hi
    · have e : (Instr.indexAt t (.slice (some a) xs.length c) (.int k i)).run P w = .ok (.pointer (some (a.add (i.toNat * sz)))) w := by
        rw [run_indexAt_slice w t a _ c k i hu, if_pos (by omega), hso]
        rfl
      rw [e]
      exact .same (.rd (eptr_rd hi hM hR)) h
  unfold ixA at hy
  split at hy
  · rename_i l b o
    split at hy
    · rename_i n sz ha
      split at hy
      · rename_i hi
        cases hy
        obtain ⟨h2, hn, hu, hso⟩ := arrLen_ok (w := w) ha
        obtain ⟨q, hb, rfl⟩ := hv.ptr_inv
        have e : (Instr.indexAt t (.pointer (some ⟨q, o, none⟩)) (.int k i)).run P w = .ok (.pointer (some ⟨q, o + i.toNat * sz, none⟩)) w := by
          rw [run_indexAt_array w t _ k i hu, if_pos (by rw [hn]; omega), hso]
          simp [add_lit]
        rw [e]
        exact .same (.ptr _ _ _ _ hb) h
      · cases hy
    · cases hy
  · rename_i l b
    split at hy
    · rename_i sz xs sz' hl hsz
      split at hy
      · rename_i hi
        cases hy
        obtain ⟨rfl, h0, h1⟩ := hi
        obtain ⟨hu, hso⟩ := slSz_ok (w := w) hsz
        obtain ⟨b', n, c, hb, hn, _⟩ := row_now h (hs _ _ _ hl (by intros; simp))
        obtain ⟨_, _, _, _, h4, rfl⟩ := hv.row_inv
        rw [hb] at h4
        cases h4
        have e : (Instr.indexAt t (.slice (some ⟨b', 0, none⟩) n c) (.int k i)).run P w = .ok (.pointer (some ⟨b', i.toNat * sz + 0, none⟩)) w := by
          rw [run_indexAt_slice w t _ _ c k i hu, if_pos (by omega), hso]
          simp [add_lit]
        rw [e]
        exact .same (.rptr _ _ _ _ _ _ _ _ hb) h
      · cases hy
    · rename_i sz xs sz' hl hsz
      split at hy
      · rename_i hi
        obtain ⟨r, hr, rfl⟩ := Option.map_eq_some_iff.1 hy
        obtain ⟨rfl, h0⟩ := hi
        exact el _ _ _ (asRd_ok h hs hv (by simp [asRd, hl])) hsz h0 hr
      · cases hy
    · cases hy
  · rename_i hne1 hne2
    split at hy
    · rename_i sz xs sz' hx hsz
      split at hy
      · rename_i hi
        obtain ⟨r, hr, rfl⟩ := Option.map_eq_some_iff.1 hy
        obtain ⟨rfl, h0⟩ := hi
        refine el _ _ _ (asRd_ok h hs hv (by
          rw [← hx]
          cases x <;> first | rfl | (exact absurd rfl (hne2 _ _)))) hsz h0 hr
      · cases hy
    · cases hy

theorem ixV_ok (h : WR W0 Φ g stk w) {t : TypeId} {v : Value} {x y : V} {k : IntKind} {i : Int} (hv : VR g v x) (hy : ixV P t x i = some y) : OK W0 Φ g (y, stk) ((Instr.index t v (.int k i)).run P w) := by
  unfold ixV at hy
  split at hy
  · rename_i s
    split at hy
    · rename_i hk
      split at hy
      · rename_i h0
        obtain ⟨b, hb, rfl⟩ := Option.map_eq_some_iff.1 hy
        obtain rfl := hv.str_inv
        have e : (Instr.index t (.string s) (.int k i)).run P w = .ok (.int .u8 b.toNat) w := by
          have hb' : s[i.toNat]? = some b := hb
          simp [Instr.index, asIntOf, run_underlying (kdT_1 hk), h0, hb']
        rw [e]
        exact .same (.rd (.int _ _)) h
      · cases hy
    · cases hy
  · rename_i cs
    split at hy
    · rename_i n ha
      split at hy
      · rename_i hi
        obtain ⟨vs, rfl, hl, hp, hat⟩ := hv.agg_inv
        unfold arrOne at ha
        split at ha
        · rename_i n' e hu
          split at ha
          · rename_i ht
            cases ha
            obtain ⟨t1, t2, _⟩ := tyAg_false (w := w) ht
            have hlt := (List.getElem?_eq_some_iff.1 hy).1
            obtain ⟨z, hz⟩ : ∃ z, vs[i.toNat]? = some z := ⟨_, List.getElem?_eq_getElem (by omega)⟩
            have e : (Instr.index t (.agg vs.toArray) (.int k i)).run P w = .ok z w := by
              simp [Instr.index, asIntOf, run_underlying hu, hi.1, hi.2, t2, part, t1, hz]
            rw [e]
            exact .same (hp _ z y hz hy) h
          · cases ha
        · cases ha
      · cases hy
    · cases hy
  · cases hy
end
end Go.Shade
