/-
  The operations, one by one: memory.
-/
import Derived.Test.YtcecleclipcheaaSh8
set_option linter.unusedVariables false
set_option linter.unusedSimpArgs false
namespace Go.Shade
open Go Go.RowKit

theorem Rd.atom {M : Mem} {v : Value} {x : V} (h : Rd M v x) : x.atom = true := by cases h <;> rfl
theorem Rd.oneC {M : Mem} {v : Value} {x : V} (h : Rd M v x) : one v = true := by cases h <;> rfl
theorem Rd.sl_inv {M : Mem} {v : Value} {sz : Nat} {rows : List (List V)} (h : Rd M v (.sl sz rows)) : (v = .slice none 0 0 ∧ rows = []) ∨
    ∃ (a : Addr) (c : Nat) (vs : Nat → Nat → Value), v = .slice (some a) rows.length c ∧ rows.length ≤ c ∧ (∀ r ∈ rows, r.length = sz) ∧
      (∀ i r j x, rows[i]? = some r → r[j]? = some x → M (a.add (i * sz + j)) = some (vs i j)) ∧ ∀ i r j x, rows[i]? = some r → r[j]? = some x → Rd M (vs i j) x := by
  cases h with
  | nil => exact .inl ⟨rfl, rfl⟩
  | sl a c _ _ vs hc hz hM hR => exact .inr ⟨a, c, vs, rfl, hc, hz, hM, hR⟩
theorem one_eq (v : Value) : v.oneCell' = one v := by cases v <;> rfl
theorem add_add (a : Addr) (m n : Nat) : (a.add m).add n = a.add (m + n) := by
  unfold Addr.add
  by_cases hn : n = 0
  · subst hn; simp
  · by_cases hm : m = 0
    · subst hm; simp
    · simp [hm, hn, Nat.add_assoc]

/-- The reading stack agrees, but for what may be appended to. -/
def Sub (rd stk : Stk) : Prop := ∀ l t b, lookB rd l t = some b → (∀ e sz n, b ≠ .tok e sz n) → lookB stk l t = some b
theorem Sub.refl (stk : Stk) : Sub stk stk := fun _ _ _ h _ => h

section
variable {P : Program} {W0 : World} {Φ : Held} {g : G} {rd stk : Stk} {w : World}

/-! ### load -/
theorem loadVar_ok {t : TypeId} {ad : Addr} {cs : List V} {y : V} (f : Nat → Value) (hf : ∀ j x, cs[j]? = some x → w.cell? (ad.add j) = some (f j) ∧ VR g (f j) x) (ha : ∀ x ∈ cs, x.atom = true) (hy : ldV P t cs = some y) :
    ∃ v, (loadVar t ad).run P w = .ok v w ∧ VR g v y := by
  unfold ldV at hy
  split at hy
  · rename_i n ht
    split at hy
    · rename_i hn
      cases hy
      obtain ⟨h1, h2, _⟩ := tyAg_true (w := w) ht
      have hl := run_loadCells (P := P) w ad n f (fun j hj => by
        obtain ⟨x, hx⟩ : ∃ x, cs[j]? = some x := ⟨_, List.getElem?_eq_getElem (by omega)⟩
        exact (hf j x hx).1)
      refine ⟨.agg ((List.range n).map f).toArray, by simp [loadVar, h1, h2, hl], .agg _ _ (by simp; omega) (fun i v x hv hx => ?_) (fun x hx => ha x (List.mem_of_mem_take hx))⟩
      rw [List.getElem?_take] at hx
      split at hx
      · rename_i hi
        simp [hi] at hv
        subst hv
        exact (hf i x hx).2
      · cases hx
    · cases hy
  · rename_i n ht
    obtain ⟨h1, _⟩ := tyAg_false (w := w) ht
    cases cs with
    | nil => cases hy
    | cons c cs =>
      cases hy
      obtain ⟨h2, h3⟩ := hf 0 y rfl
      have h2' : w.cell? ad = some (f 0) := by simpa [Addr.add] using h2
      exact ⟨f 0, by simp [loadVar, h1, h2'], h3⟩
  · cases hy

/-- A value, and nothing has moved. -/
def PureOK (g : G) (y : V) (w : World) (res : Result Value) : Prop := ∃ v, res = .ok v w ∧ VR g v y
theorem loadAt_pure (h : WR W0 Φ g stk w) (hs : Sub rd stk) {t : TypeId} {v : Value} {x y : V} (hv : VR g v x) (hy : ldA P rd t x = some y) : PureOK g y w ((Instr.loadAt t v).run P w) := by
  unfold ldA at hy
  split at hy
  · rename_i l b o
    split at hy
    · rename_i cs hb
      obtain ⟨y', hy', rfl⟩ := Option.map_eq_some_iff.1 hy
      obtain ⟨k, hk, rfl⟩ := hv.ptr_inv
      obtain ⟨hh, hh1, hh2⟩ := h.box l b _ (hs l b _ hb (by intros; simp))
      rw [hk] at hh1
      cases hh1
      obtain ⟨c, e, h1, h2, h3, h4⟩ := hh2
      obtain ⟨u, hu1, hu2⟩ := loadVar_ok (P := P) (g := g.up l) (w := w) (t := t) (ad := ⟨k, o, none⟩) (cs := cs.drop o) (fun j => c.getD (o + j) undef) (fun j x hx => by
        rw [List.getElem?_drop] at hx
        have hlt := (List.getElem?_eq_some_iff.1 hx).1
        have hc : c[o + j]? = some (c.getD (o + j) undef) := by simp [h2, hlt]
        refine ⟨?_, h3 _ _ _ hc hx⟩
        rw [add_lit, cell_of_row w k (o + j) c e (0, 0) h1]
        exact hc) (fun x hx => h4 x (List.mem_of_mem_drop hx)) hy'
      have : (Instr.loadAt t (.pointer (some ⟨k, o, none⟩))).run P w = .ok u w := by simp [Instr.loadAt, Instr.sureAddr, hu1]
      rw [this]
      exact ⟨_, rfl, hu2.upV⟩
    · cases hy
  · rename_i l b i o
    have fin : ∀ (sz : Nat) (xs : List (List V)) (r : List V) (k n c : Nat), g.β l b = some (.row sz k n c) → xs[i]? = some r → (∀ r ∈ xs, r.length = sz) →
        (∀ j x, r[j]? = some x → ∃ v, w.cell? ⟨k, i * sz + j, none⟩ = some v ∧ Rd g.M v x) → ldV P t (r.drop o) = some y → PureOK g y w ((Instr.loadAt t v).run P w) := by
      intro sz xs r k n c hk hr hz hcell hy
      obtain ⟨sz', k', n', c', hk', rfl⟩ := hv.rptr_inv
      rw [hk] at hk'
      cases hk'
      obtain ⟨u, hu1, hu2⟩ := loadVar_ok (P := P) (g := g) (w := w) (t := t) (ad := ⟨k, i * sz + o, none⟩) (cs := r.drop o) (fun j => (w.cell? ⟨k, i * sz + (o + j), none⟩).getD undef) (fun j x hx => by
        rw [List.getElem?_drop] at hx
        obtain ⟨v, hv1, hv2⟩ := hcell _ _ hx
        rw [add_lit, Nat.add_assoc, hv1]
        exact ⟨rfl, .rd hv2⟩) (fun x hx => by
        obtain ⟨j, hj⟩ := List.mem_iff_getElem?.1 (List.mem_of_mem_drop hx)
        obtain ⟨v, hv1, hv2⟩ := hcell _ _ hj
        exact hv2.atom) hy
      have : (Instr.loadAt t (.pointer (some ⟨k, i * sz + o, none⟩))).run P w = .ok u w := by simp [Instr.loadAt, Instr.sureAddr, hu1]
      rw [this]
      exact ⟨_, rfl, hu2⟩
    split at hy
    · rename_i sz0 xs hb
      split at hy
      · rename_i r hr
        obtain ⟨hh, hh1, hh2⟩ := h.box l b _ (hs l b _ hb (by intros; simp))
        cases hh <;> simp only [BoxR] at hh2
        rename_i sz k n c
        obtain ⟨rfl, e1, e2, cs, e, h1, h2, h3, h4⟩ := hh2
        refine fin _ xs r k n c hh1 hr h3 (fun j x hx => ?_) hy
        obtain ⟨v, hv1, hv2⟩ := h4 i r j x hr hx
        exact ⟨v, by rw [cell_of_row w k _ cs e (0, 0) h1]; exact hv1, hv2⟩
      · cases hy
    · rename_i sz0 xs hb
      split at hy
      · rename_i r hr
        obtain ⟨hh, hh1, hh2⟩ := h.box l b _ (hs l b _ hb (by intros; simp))
        cases hh <;> simp only [BoxR] at hh2
        rename_i sz k n c
        obtain ⟨rfl, e1, e2, hrd⟩ := hh2
        subst e1
        rcases hrd.sl_inv with ⟨e0, _⟩ | ⟨ad, c', vs, e0, hc, hz, hM, hR⟩
        · cases e0
        · cases e0
          refine fin _ xs r k _ c hh1 hr hz (fun j x hx => ?_) hy
          have := h.mem _ _ (hM i r j x hr hx)
          rw [add_lit, Nat.zero_add] at this
          exact ⟨_, this, hR i r j x hr hx⟩
      · cases hy
    · cases hy
  · rename_i cs o
    obtain ⟨ad, vs, rfl, hM, hR⟩ := hv.eptr_inv
    obtain ⟨u, hu1, hu2⟩ := loadVar_ok (P := P) (g := g) (w := w) (t := t) (ad := ad.add o) (cs := cs.drop o) (fun j => vs (o + j)) (fun j x hx => by
      rw [List.getElem?_drop] at hx
      rw [add_add]
      exact ⟨h.mem _ _ (hM _ _ hx), .rd (hR _ _ hx)⟩) (fun x hx => by
      obtain ⟨j, hj⟩ := List.mem_iff_getElem?.1 (List.mem_of_mem_drop hx)
      exact (hR _ _ hj).atom) hy
    have : (Instr.loadAt t (.pointer (some (ad.add o)))).run P w = .ok u w := by simp [Instr.loadAt, Instr.sureAddr, hu1]
    rw [this]
    exact ⟨_, rfl, hu2⟩
  · cases hy

theorem loadAt_ok (h : WR W0 Φ g stk w) (hs : Sub rd stk) {t : TypeId} {v : Value} {x y : V} (hv : VR g v x) (hy : ldA P rd t x = some y) : OK W0 Φ g (y, stk) ((Instr.loadAt t v).run P w) := by
  obtain ⟨u, h1, h2⟩ := loadAt_pure h hs hv hy
  rw [h1]
  exact .same h2 h

/-! ### what is handed over -/
theorem coL_some {stk : Stk} : ∀ {l l' : List V}, V.coL stk l = some l' → l'.length = l.length ∧ ∀ (i : Nat) x, l[i]? = some x → ∃ y, V.co stk x = some y ∧ l'[i]? = some y
  | [], l', h => by simp only [V.coL, Option.some.injEq] at h; subst h; simp
  | v :: r, l', h => by
    simp only [V.coL] at h
    split at h
    · rename_i v' r' h1 h2
      simp only [Option.some.injEq] at h
      subst h
      obtain ⟨e, hg⟩ := coL_some h2
      refine ⟨by simp [e], fun i x hx => ?_⟩
      cases i with
      | zero => simp only [List.getElem?_cons_zero, Option.some.injEq] at hx; subst hx; exact ⟨v', h1, rfl⟩
      | succ i => exact hg i x hx
    · cases h
theorem coL_back {stk : Stk} {l l' : List V} (h : V.coL stk l = some l') (i : Nat) (y : V) (hy : l'[i]? = some y) : ∃ x, l[i]? = some x ∧ V.co stk x = some y := by
  obtain ⟨e, hg⟩ := coL_some h
  have : i < l.length := by have := (List.getElem?_eq_some_iff.1 hy).1; omega
  obtain ⟨z, hz, hz'⟩ := hg i _ (List.getElem?_eq_getElem this)
  rw [hy] at hz'
  cases hz'
  exact ⟨_, List.getElem?_eq_getElem this, hz⟩
theorem co_atom {stk : Stk} {x y : V} (h : V.co stk x = some y) (hx : x.atom = true) : y.atom = true := by
  cases x <;> simp only [V.co, V.atom, Bool.false_eq_true] at h hx <;> (try split at h) <;> (try (cases h; rfl)) <;> cases h
theorem Rd.co {M : Mem} {v : Value} {x : V} (h : Rd M v x) (stk : Stk) : V.co stk x = some x := by cases h <;> rfl
theorem co_ok (hs : ∀ l t sz xs, lookB rd l t = some (.fz sz xs) → ∃ sz' b n c, g.β l t = some (.row sz' b n c) ∧ Rd g.M (.slice (some ⟨b, 0, none⟩) n c) (.sl sz xs)) {v : Value} {x : V} (hv : VR g v x) : ∀ {y : V}, V.co rd x = some y → VR g v y := by
  induction hv with
  | rd hr => intro y hy; rw [hr.co] at hy; cases hy; exact .rd hr
  | nl sz => intro y hy; cases hy; exact .rd (.nil sz)
  | ap l t sz rows v hd hr hb hl he => intro y hy; cases hy; exact .rd hr
  | row l t sz b n c hb =>
    intro y hy
    simp only [V.co] at hy
    split at hy
    · rename_i hlk
      cases hy
      obtain ⟨_, _, _, _, h1, h2⟩ := hs _ _ _ _ hlk
      rw [hb] at h1
      cases h1
      exact .rd h2
    · cases hy
  | ptr l t o b hb => intro y hy; cases hy; exact .ptr l t o b hb
  | rptr l t i o sz b n c hb => intro y hy; cases hy; exact .rptr l t i o sz b n c hb
  | mp l t r hb => intro y hy; cases hy; exact .mp l t r hb
  | fn f as bs vs ws h1 h2 h3 h4 i3 i4 => intro y hy; cases hy; exact .fn f as bs vs ws h1 h2 h3 h4
  | ifc T v x hx ih =>
    intro y hy
    simp only [V.co] at hy
    split at hy
    · rename_i z hz
      cases hy
      exact .ifc T v z (ih hz)
    · cases hy
  | nili => intro y hy; cases hy; exact .nili
  | nilp => intro y hy; cases hy; exact .nilp
  | nilm => intro y hy; cases hy; exact .nilm
  | nilf => intro y hy; cases hy; exact .nilf
  | agg vs xs h1 h2 h3 ih =>
    intro y hy
    simp only [V.co] at hy
    split at hy
    · rename_i a' ha
      cases hy
      refine .agg vs a' (by rw [h1, (coL_some ha).1]) (fun i v x hv hx => ?_) (fun x hx => ?_)
      · obtain ⟨z, hz, hu⟩ := coL_back ha i x hx
        exact ih i v z hv hz hu
      · obtain ⟨i, hi⟩ := List.mem_iff_getElem?.1 hx
        obtain ⟨z, hz, hu⟩ := coL_back ha i x hi
        exact co_atom hu (h3 z (List.mem_iff_getElem?.2 ⟨i, hz⟩))
    · cases hy
  | tup vs xs h1 h2 ih =>
    intro y hy
    simp only [V.co] at hy
    split at hy
    · rename_i a' ha
      cases hy
      refine .tup vs a' (by rw [h1, (coL_some ha).1]) (fun i v x hv hx => ?_)
      obtain ⟨z, hz, hu⟩ := coL_back ha i x hx
      exact ih i v z hv hz hu
    · cases hy
  | dead => intro y hy; cases hy; exact .dead
theorem WR.fz_rd (h : WR W0 Φ g stk w) (hs : Sub rd stk) : ∀ l t sz xs, lookB rd l t = some (.fz sz xs) → ∃ sz' b n c, g.β l t = some (.row sz' b n c) ∧ Rd g.M (.slice (some ⟨b, 0, none⟩) n c) (.sl sz xs) := by
  intro l t sz xs hl
  obtain ⟨hh, h1, h2⟩ := h.box l t _ (hs l t _ hl (by intros; simp))
  cases hh <;> simp only [BoxR] at h2
  obtain ⟨rfl, e1, e2, hr⟩ := h2
  exact ⟨_, _, _, _, h1, hr⟩
theorem pure_rd {v : Value} {x : V} (h : VR g v x) (hp : x.pure = true) : Rd g.M v x := by
  cases x <;> simp only [V.pure, Bool.false_eq_true] at hp <;> (cases h with | rd h => exact h)

theorem rowAt_store {M : Mem} {c : Array Value} {sz : Nat} {xs : List (List V)} (h : RowAt M c sz xs) {i o : Nat} {r : List V} (hr : xs[i]? = some r) {us : List Value} {ys : List V} (hl : us.length = ys.length) (ho : o + ys.length ≤ r.length)
    (hy : ∀ (j : Nat) u y, us[j]? = some u → ys[j]? = some y → Rd M u y) : RowAt M (spl c.toList (i * sz + o) us).toArray sz (xs.set i (spl r o ys)) := by
  obtain ⟨h1, h2, h3⟩ := h
  have hi := (List.getElem?_eq_some_iff.1 hr).1
  have hrl : r.length = sz := h2 r (List.mem_of_getElem? hr)
  have hfit : i * sz + o + us.length ≤ c.size := by
    have : (i + 1) * sz ≤ xs.length * sz := Nat.mul_le_mul_right _ hi
    rw [Nat.add_mul, Nat.one_mul] at this
    omega
  refine ⟨by simp [spl_length (cs := c.toList) (xs := us) (o := i * sz + o) (by simpa using hfit)]; exact h1, fun q hq => ?_, fun i' r' j x hi' hj => ?_⟩
  · rcases List.mem_or_eq_of_mem_set hq with hq | rfl
    · exact h2 q hq
    · rw [spl_length ho]; exact hrl
  · have get : ∀ k, (spl c.toList (i * sz + o) us)[k]? = if k < i * sz + o then c[k]? else if k < i * sz + o + us.length then us[k - (i * sz + o)]? else c[k]? := by
      intro k
      unfold spl
      by_cases hk : k < i * sz + o
      · rw [if_pos hk, List.append_assoc, List.getElem?_append_left (by simp; omega), List.getElem?_take, if_pos hk]; simp
      · rw [if_neg hk]
        by_cases hk2 : k < i * sz + o + us.length
        · rw [if_pos hk2, List.append_assoc, List.getElem?_append_right (by simp; omega), List.getElem?_append_left (by simp; omega)]
          congr 1
          simp; omega
        · rw [if_neg hk2, List.getElem?_append_right (by simp; omega), List.getElem?_drop]
          simp only [List.length_append, List.length_take, Array.length_toList, Array.getElem?_toList]
          congr 1
          omega
    simp only [List.getElem?_toArray]
    by_cases e : i' = i
    · subst e
      rw [List.getElem?_set_self hi] at hi'
      cases hi'
      have hjl := (List.getElem?_eq_some_iff.1 hj).1
      rw [spl_length ho] at hjl
      rw [get]
      unfold spl at hj
      by_cases hk : j < o
      · rw [List.append_assoc, List.getElem?_append_left (by simp; omega), List.getElem?_take, if_pos hk] at hj
        rw [if_pos (by omega)]
        exact h3 i' r j x hr hj
      · by_cases hk2 : j < o + ys.length
        · rw [List.append_assoc, List.getElem?_append_right (by simp; omega), List.getElem?_append_left (by simp; omega)] at hj
          rw [if_neg (by omega), if_pos (by omega)]
          have e1 : (r.take o).length = o := by simp; omega
          rw [e1] at hj
          obtain ⟨u, hu⟩ : ∃ u, us[j - o]? = some u := ⟨_, List.getElem?_eq_getElem (by omega)⟩
          refine ⟨u, by rw [← hu]; congr 1; omega, hy _ u x hu hj⟩
        · rw [List.getElem?_append_right (by simp; omega), List.getElem?_drop] at hj
          rw [if_neg (by omega), if_neg (by omega)]
          have e1 : o + ys.length + (j - (r.take o ++ ys).length) = j := by simp; omega
          rw [e1] at hj
          exact h3 i' r j x hr hj
    · rw [List.getElem?_set_ne (Ne.symm e)] at hi'
      have hlt := row_lt h2 hi' hj
      have hj' := (List.getElem?_eq_some_iff.1 hj).1
      rw [h2 r' (List.mem_of_getElem? hi')] at hj'
      rw [get]
      obtain ⟨v, hv⟩ := h3 i' r' j x hi' hj
      rcases Nat.lt_or_ge i' i with hlt | hge
      · have : (i' + 1) * sz ≤ i * sz := Nat.mul_le_mul_right _ hlt
        rw [Nat.add_mul, Nat.one_mul] at this
        rw [if_pos (by omega)]
        exact ⟨v, hv⟩
      · have hgt : i < i' := by omega
        have : (i + 1) * sz ≤ i' * sz := Nat.mul_le_mul_right _ hgt
        rw [Nat.add_mul, Nat.one_mul] at this
        rw [if_neg (by omega), if_neg (by omega)]
        exact ⟨v, hv⟩

/-! ### store -/
theorem storeVar_row {t : TypeId} {n : Nat} {bb : Bool} (ht : tyAg P t = some (bb, n)) {k o : Nat} {v : Value} {cur : Array Value} {e : TypeId} (hg : w.heap[k]? = some (.cells cur e (0, 0))) (hn : v.cells.size = n) (ho : o + n ≤ cur.size)
    (h1 : ∀ u ∈ v.cells.toList, one u = true) : (Instr.storeAt t (.pointer (some ⟨k, o, none⟩)) v).run P w = .ok () (w.setRow k (spl cur.toList o v.cells.toList).toArray) := by
  obtain ⟨hs, _⟩ := tyAg_size (w := w) ht
  have hst := run_storeCells_at P k o e v.cells.toList 0 cur w hg (by simp; omega) (fun u hu => by rw [one_eq]; exact h1 u hu)
  simp only [Nat.add_zero] at hst
  simp [Instr.storeAt, Instr.sureAddr, storeVar, hs, hn, hst, spl]

theorem pw_one {vs : List Value} {xs : List V} (h : PW g vs xs) : ∀ u ∈ vs, one u = true := by
  intro u hu
  obtain ⟨i, hi⟩ := List.mem_iff_getElem?.1 hu
  obtain ⟨x, hx⟩ : ∃ x, xs[i]? = some x := ⟨_, List.getElem?_eq_getElem (by have := (List.getElem?_eq_some_iff.1 hi).1; have := h.1; omega)⟩
  exact (h.2.1 i u x hi hx).one (h.2.2 x (List.mem_of_getElem? hx))

theorem down_atom {k : Nat} {x y : V} (h : V.down k x = some y) (hx : x.atom = true) : y.atom = true := by
  cases k with
  | zero => cases h; exact hx
  | succ k => exact un_atom h hx
theorem un_cs {k : Nat} {x y : V} (h : V.un k x = some y) : y.cs.length = x.cs.length := by
  cases x <;> simp only [V.un] at h <;> (try split at h) <;> cases h <;> try rfl
  rename_i h1
  exact (unL_some h1).1
theorem down_cs {k : Nat} {x y : V} (h : V.down k x = some y) : y.cs.length = x.cs.length := by
  cases k with
  | zero => cases h; rfl
  | succ k => exact un_cs h

theorem WR.M_not (h : WR W0 Φ g stk w) {l t : Nat} {hh : H} {k : Nat} {b : B} (hb : g.β l t = some hh) (hk : hh.blk = some k) (hl : lookB stk l t = some b) (hf : ∀ o, ¬ b.frz o) {a : Addr} {v : Value} (hm : g.M a = some v) : a.block ≠ k := by
  intro e
  have hc := h.mem _ _ hm
  have hs : a = ⟨a.block, a.off, none⟩ := by
    cases hsp : a.spot with
    | none => cases a; simp_all
    | some q =>
      exfalso
      unfold World.cell? at hc
      split at hc
      · simp [hsp] at hc
      · cases hc
  rw [hs, e] at hm
  exact hf _ (h.free l t hh k b hb hk hl _ _ hm)

theorem storeAt_ok (h : WR W0 Φ g stk w) {t : TypeId} {v u : Value} {a x : V} (hv : VR g v a) (hu : VR g u x) {s : Stk} (hs : stA P stk t a x = some s) :
    ∃ w' g', (Instr.storeAt t v u).run P w = .ok () w' ∧ WR W0 Φ g' s w' ∧ Ext 0 g g' := by
  unfold stA at hs
  split at hs
  · rename_i bb n ht
    obtain ⟨_, hpos⟩ := tyAg_size (w := w) ht
    split at hs
    · rename_i hn
      have hpw := PW.of_cells hu (by intro e; rw [e] at hn; simp at hn; omega)
      have hun : u.cells.size = n := by have := hpw.1; simp at this; omega
      split at hs
      · rename_i l b o
        split at hs
        · rename_i cs x' hb hd
          split at hs
          · rename_i ho
            cases hs
            obtain ⟨k, hk, rfl⟩ := hv.ptr_inv
            obtain ⟨hh, hh1, hh2⟩ := h.box l b _ hb
            rw [hk] at hh1
            cases hh1
            obtain ⟨c, e, h1, h2, h3, h4⟩ := hh2
            have hx' := hu.downV hd
            have hpw' : PW (g.up l) u.cells.toList x'.cs := PW.of_cells hx' (by intro e; have := down_cs hd; rw [e] at this; simp at this; omega)
            have hrun := storeVar_row (P := P) (w := w) ht (o := o) h1 hun (by omega) (pw_one hpw)
            have hnot := fun {a : Addr} {v : Value} => h.M_not (a := a) (v := v) hk rfl hb (fun o hf => hf)
            have hcpw : PW (g.up l) c.toList cs := ⟨by simpa using h2, fun j v x hv hx => h3 j v x (by simpa using hv) hx, h4⟩
            have hnew := hcpw.spl hpw' o
            have hupd := h.upd (g' := g) (stk' := setB stk l b (.cells (spl cs o x'.cs))) (w' := w.setRow k (spl c.toList o u.cells.toList).toArray) l b (.cells (spl cs o x'.cs)) (.box k) k rfl rfl rfl (by simp)
              (fun i hi _ => setRow_other w k i _ hi) (h.own l b _ k hk rfl).1 (.inl ⟨_, hk, rfl⟩) (fun _ _ h => h)
              (fun a v hm => by rw [cell_setRow_other w k _ a (hnot hm)]; exact h.mem _ _ hm) (fun _ _ hm _ => hm) (fun _ _ _ => rfl) hk (fun h0 hb0 => by rw [hk] at hb0; cases hb0; exact Hle.refl _)
              (fun l' t' => lookB_setB hb l' t')
              ⟨_, e, setRow_heap w k c _ e _ h1, by simpa using hnew.1, fun j v x hv hx => hnew.2.1 j v x (by simpa using hv) hx, hnew.2.2⟩
              (fun k' hk' => by cases hk'; exact ⟨rfl, by simp; exact (h.own l b _ k hk rfl).2.1⟩)
              (fun k' hk' o v hm => absurd rfl (hnot hm))
            exact ⟨_, _, hrun, hupd.1, hupd.2⟩
          · cases hs
        · cases hs
      · rename_i l b i o
        split at hs
        · rename_i sz0 xs x' hb hd
          split at hs
          · rename_i r hr
            split at hs
            · rename_i ho
              cases hs
              obtain ⟨sz, k, m, cc, hk, rfl⟩ := hv.rptr_inv
              obtain ⟨hh, hh1, hh2⟩ := h.box l b _ hb
              rw [hk] at hh1
              cases hh1
              obtain ⟨rfl, e1, e2, c, e, h1, h2⟩ := hh2
              have hx' : VR g u x' := co_ok (h.fz_rd (Sub.refl _)) hu hd
              obtain ⟨ho1, hpure⟩ := ho
              have hxl : x'.cs.length = n := by
                cases x <;> simp only [V.co] at hd <;> (try split at hd) <;> cases hd <;> first | exact hn | (rename_i hq; simpa [V.cs, (coL_some hq).1] using hn)
              have hpw' : PW g u.cells.toList x'.cs := PW.of_cells hx' (by intro e; rw [e] at hxl; simp at hxl; omega)
              have hi := (List.getElem?_eq_some_iff.1 hr).1
              have hrl : r.length = sz0 := h2.2.1 r (List.mem_of_getElem? hr)
              have hfit : i * sz0 + o + n ≤ c.size := by
                have : (i + 1) * sz0 ≤ xs.length * sz0 := Nat.mul_le_mul_right _ hi
                rw [Nat.add_mul, Nat.one_mul] at this
                have := h2.1
                omega
              have hrun := storeVar_row (P := P) (w := w) ht (o := i * sz0 + o) h1 hun hfit (pw_one hpw)
              have hnot := fun {a : Addr} {v : Value} => h.M_not (a := a) (v := v) hk rfl hb (fun o hf => hf)
              have hnew := rowAt_store (M := g.M) h2 hr (o := o) (us := u.cells.toList) (ys := x'.cs) hpw'.1 (by omega) (fun j u y hu hy => pure_rd (hpw'.2.1 j u y hu hy) (List.all_eq_true.1 hpure y (List.mem_of_getElem? hy)))
              have hupd := h.upd (g' := g) (stk' := setB stk l b (.row sz0 (xs.set i (spl r o x'.cs)))) (w' := w.setRow k (spl c.toList (i * sz0 + o) u.cells.toList).toArray) l b (.row sz0 (xs.set i (spl r o x'.cs))) (.row sz0 k m cc) k rfl rfl rfl (by simp)
                (fun i hi _ => setRow_other w k i _ hi) (h.own l b _ k hk rfl).1 (.inl ⟨_, hk, rfl⟩) (fun _ _ h => h)
                (fun a v hm => by rw [cell_setRow_other w k _ a (hnot hm)]; exact h.mem _ _ hm) (fun _ _ hm _ => hm) (fun _ _ _ => rfl) hk (fun h0 hb0 => by rw [hk] at hb0; cases hb0; exact Hle.refl _)
                (fun l' t' => lookB_setB hb l' t')
                ⟨rfl, by simpa using e1, e2, _, e, setRow_heap w k c _ e _ h1, hnew⟩
                (fun k' hk' => by cases hk'; exact ⟨rfl, by simp; exact (h.own l b _ k hk rfl).2.1⟩)
                (fun k' hk' o v hm => absurd rfl (hnot hm))
              exact ⟨_, _, hrun, hupd.1, hupd.2⟩
            · cases hs
          · cases hs
        · cases hs
      · cases hs
    · cases hs
  · cases hs
end
end Go.Shade
