/-
  The operations, one by one: append.
-/
import Derived.Test.YtcecleclipcheaaSh11
set_option linter.unusedVariables false
set_option linter.unusedSimpArgs false
namespace Go.Shade
open Go Go.RowKit

/-- The rows' cells in a list. -/
def RowsL (M : Mem) (us : List Value) (sz : Nat) (rows : List (List V)) : Prop :=
  us.length = rows.length * sz ∧ (∀ r ∈ rows, r.length = sz) ∧ ∀ i r j x, rows[i]? = some r → r[j]? = some x → ∃ v, us[i * sz + j]? = some v ∧ Rd M v x

theorem RowsL.append {M : Mem} {us vs : List Value} {sz : Nat} {xs ys : List (List V)} (h : RowsL M us sz xs) (k : RowsL M vs sz ys) : RowsL M (us ++ vs) sz (xs ++ ys) := by
  refine ⟨by rw [List.length_append, List.length_append, h.1, k.1, Nat.add_mul], fun r hr => ?_, fun i r j x hi hj => ?_⟩
  · rcases List.mem_append.1 hr with hr | hr
    · exact h.2.1 r hr
    · exact k.2.1 r hr
  · by_cases hlt : i < xs.length
    · rw [List.getElem?_append_left hlt] at hi
      have := row_lt h.2.1 hi hj
      rw [List.getElem?_append_left (by rw [h.1]; exact this)]
      exact h.2.2 i r j x hi hj
    · rw [List.getElem?_append_right (by omega)] at hi
      have e : i * sz + j - us.length = (i - xs.length) * sz + j := by
        rw [h.1, Nat.sub_mul]
        have : xs.length * sz ≤ i * sz := Nat.mul_le_mul_right _ (by omega)
        omega
      rw [List.getElem?_append_right (by rw [h.1]; have : xs.length * sz ≤ i * sz := Nat.mul_le_mul_right _ (by omega); omega), e]
      exact k.2.2 _ r j x hi hj
theorem RowsL.nil (M : Mem) (sz : Nat) : RowsL M [] sz [] := ⟨by simp, by simp, fun i r j x h => by simp at h⟩
theorem RowsL.at {M : Mem} {us : List Value} {sz : Nat} {rows : List (List V)} (h : RowsL M us sz rows) {c : Array Value} (hc : c.toList.take (rows.length * sz) = us) : RowsAt M c sz rows := by
  refine ⟨?_, h.2.1, fun i r j x hi hj => ?_⟩
  · have : us.length = rows.length * sz := h.1
    rw [← hc, List.length_take] at this
    simp at this
    omega
  · obtain ⟨v, hv, hx⟩ := h.2.2 i r j x hi hj
    rw [← hc, List.getElem?_take, if_pos (row_lt h.2.1 hi hj)] at hv
    exact ⟨v, by simpa using hv, hx⟩

section
variable {P : Program} {W0 : World} {Φ : Held} {g : G} {rd stk : Stk} {w : World}

theorem Now.list {M : Mem} {a : Addr} {n c sz : Nat} {rows : List (List V)} (h : Now M w (.slice (some a) n c) sz rows) (hsz : 0 < sz) :
    n = rows.length ∧ rows.length ≤ c ∧ ∃ us, RowsL M us sz rows ∧ (∀ j u, us[j]? = some u → w.cell? (a.add j) = some u) ∧ ∀ u ∈ us, one u = true := by
  rcases h with ⟨e, _⟩ | ⟨a', c', vs, e, hc, hz, hM, hR⟩
  · cases e
  · cases e
    have key : ∀ k, k < rows.length * sz → ∃ r x, rows[k / sz]? = some r ∧ r[k % sz]? = some x := by
      intro k hk
      have h1 : k / sz < rows.length := (Nat.div_lt_iff_lt_mul hsz).2 hk
      have h2 := Nat.mod_lt k hsz
      refine ⟨_, _, List.getElem?_eq_getElem h1, List.getElem?_eq_getElem ?_⟩
      rw [hz _ (List.getElem_mem h1)]
      exact h2
    have get : ∀ (k : Nat) u, ((List.range (rows.length * sz)).map fun k => vs (k / sz) (k % sz))[k]? = some u → k < rows.length * sz ∧ u = vs (k / sz) (k % sz) := by
      intro k u hu
      rw [List.getElem?_map] at hu
      obtain ⟨k', hk', rfl⟩ := Option.map_eq_some_iff.1 hu
      obtain ⟨h1, h2⟩ := List.getElem?_eq_some_iff.1 hk'
      simp at h1 h2
      subst h2
      exact ⟨h1, rfl⟩
    refine ⟨rfl, hc, (List.range (rows.length * sz)).map fun k => vs (k / sz) (k % sz), ⟨by simp, hz, fun i r j x hi hj => ?_⟩, fun k u hu => ?_, fun u hu => ?_⟩
    · have hlt := row_lt hz hi hj
      have hj' := (List.getElem?_eq_some_iff.1 hj).1
      rw [hz r (List.mem_of_getElem? hi)] at hj'
      have e1 : (i * sz + j) / sz = i := by
        rw [Nat.mul_comm, Nat.mul_add_div hsz, Nat.div_eq_of_lt hj', Nat.add_zero]
      have e2 : (i * sz + j) % sz = j := by
        rw [Nat.mul_comm, Nat.mul_add_mod, Nat.mod_eq_of_lt hj']
      exact ⟨vs i j, by simp [hlt, e1, e2], hR i r j x hi hj⟩
    · obtain ⟨hk, rfl⟩ := get k u hu
      obtain ⟨r, x, h1, h2⟩ := key k hk
      have := hM _ r _ x h1 h2
      rw [show k / sz * sz + k % sz = k by rw [Nat.mul_comm]; exact Nat.div_add_mod k sz] at this
      exact this
    · obtain ⟨k, hk⟩ := List.mem_iff_getElem?.1 hu
      obtain ⟨hk', rfl⟩ := get k u hk
      obtain ⟨r, x, h1, h2⟩ := key k hk'
      exact (hR _ r _ x h1 h2).oneC

theorem WR.drew (h : WR W0 Φ g stk w) : WR W0 Φ g stk w.drew :=
  (h.more (g' := g) (w' := w.drew) rfl rfl rfl (Nat.le_refl _) (fun _ _ => rfl) rfl (fun _ _ h => h) (fun a v hx => h.mem a v hx) (fun _ _ h _ => h)).1

/-- A box that may be appended to moves into a new block. -/
theorem grow_ap (h : WR W0 Φ g stk w) {l b sz n0 : Nat} {e0 e : TypeId} {h0 : Value} (hl : lookB stk l b = some (.tok e0 sz n0)) (hb : g.β l b = some (.tok h0)) (c : Array Value) (rows : List (List V)) (cap : Nat)
    (hcap : rows.length ≤ cap) (hmax : cap ≤ maxLen) (hr : RowsAt g.M c sz rows) (hc : c.size = cap * sz) (hlt : slen h0 < rows.length) :
    OK W0 Φ g (.ap l b sz rows, setB stk l b (.tok e sz rows.length)) (.ok (.slice (some ⟨w.heap.size, 0, none⟩) rows.length cap) (w.alloc (.cells c e))) := by
  have hle : rows.length * sz ≤ c.size := hr.1
  have hu := h.upd (g' := (g.add w.heap.size c (rows.length * sz)).set l b (.tok (.slice (some ⟨w.heap.size, 0, none⟩) rows.length cap))) (stk' := setB stk l b (.tok e sz rows.length)) (w' := w.alloc (.cells c e)) l b (.tok e sz rows.length)
    (.tok (.slice (some ⟨w.heap.size, 0, none⟩) rows.length cap)) w.heap.size rfl rfl rfl (by simp)
    (fun i _ hi => heap_alloc_lt w _ i hi) h.below.size (.inr (Nat.le_refl _)) (fun a v hx => h.add_M hx) (fun a v hx => h.add_M' hx)
    (fun a v hx hb => by simp only [G.set] at hx; rw [g.add_ne _ _ _ hb] at hx; exact hx)
    (fun l' t' e => G.set_ne _ _ _ _ e) (G.set_same _ _ _ _) (fun h1 hb1 => by rw [hb] at hb1; cases hb1; exact .inr hlt) (fun l' t' => lookB_setB hl l' t')
    ⟨c.toList.take (rows.length * sz), by simp; omega, .inr ⟨w.heap.size, cap, c, rfl, Nat.zero_le _, heap_alloc_new w _, hcap, hmax, hc, rfl⟩⟩
    (fun k' hk => by simp only [H.blk, Value.ownBlock, Option.some.injEq] at hk; exact ⟨hk.symm, by simp⟩)
    (fun k' hk o v hm => by
      simp only [G.set, G.add] at hm
      split at hm
      · rename_i hx; exact hx.2.2
      · exact absurd (h.M_lt hm) (by simp))
  refine ⟨_, _, _, rfl, .ap l b sz rows _ _ (Rd.of_rows hu.2.mem hr hcap fun o ho => ?_) (G.set_same _ _ _ _) (Nat.le_refl _) (fun _ => rfl), hu.1, hu.2⟩
  exact g.add_at _ _ _ ho

theorem cell_spot {a : Addr} {v : Value} (h : w.cell? a = some v) : a = ⟨a.block, a.off, none⟩ := by
  cases hsp : a.spot with
  | none => cases a; simp_all
  | some q =>
    exfalso
    unfold World.cell? at h
    split at h
    · simp [hsp] at h
    · cases h

/-- A box that may be appended to has room. -/
theorem room_ap (h : WR W0 Φ g stk w) {l b sz n k cap : Nat} {e : TypeId} (hl : lookB stk l b = some (.tok e sz n)) (hb : g.β l b = some (.tok (.slice (some ⟨k, 0, none⟩) n cap))) {cur : Array Value} (hk : w.heap[k]? = some (.cells cur e (0, 0)))
    (hmax : cap ≤ maxLen) (hcs : cur.size = cap * sz) {us news : List Value} {xs ys : List (List V)} (hxs : RowsL g.M us sz xs) (hys : RowsL g.M news sz ys) (hn : n = xs.length) (htake : cur.toList.take (n * sz) = us) (hroom : n + ys.length ≤ cap) :
    OK W0 Φ g (.ap l b sz (xs ++ ys), setB stk l b (.tok e sz (xs.length + ys.length))) (.ok (.slice (some ⟨k, 0, none⟩) (n + ys.length) cap) (w.setRow k (cur.toList.take (n * sz) ++ news ++ cur.toList.drop (n * sz + news.length)).toArray)) := by
  have hrows := hxs.append hys
  have hnl : news.length = ys.length * sz := hys.1
  have hfit : (n + ys.length) * sz ≤ cap * sz := Nat.mul_le_mul_right _ hroom
  rw [Nat.add_mul] at hfit
  have htl : us.length = n * sz := by rw [hn]; exact hxs.1
  generalize hc' : (cur.toList.take (n * sz) ++ news ++ cur.toList.drop (n * sz + news.length)).toArray = c'
  have hcsz : c'.size = cap * sz := by
    rw [← hc', ← hcs]
    simp
    omega
  have htake' : c'.toList.take ((xs ++ ys).length * sz) = us ++ news := by
    rw [← hc', htake, List.length_append, Nat.add_mul, ← hxs.1, ← hys.1, ← List.length_append]
    exact List.take_left
  have hr := hrows.at htake'
  have hold : ∀ o, o < n * sz → c'[o]? = cur[o]? := by
    intro o ho
    rw [← hc']
    simp only [List.getElem?_toArray, List.append_assoc]
    rw [List.getElem?_append_left (by simp; omega), List.getElem?_take, if_pos ho]
    simp
  have hfz : ∀ {a : Addr} {v : Value}, g.M a = some v → a.block = k → a = ⟨k, a.off, none⟩ ∧ a.off < n * sz := by
    intro a v hm hab
    have hs := cell_spot (h.mem _ _ hm)
    rw [hab] at hs
    refine ⟨hs, ?_⟩
    rw [hs] at hm
    exact h.free l b _ k _ hb rfl hl _ _ hm
  have hM : ∀ a v, g.M a = some v → (g.add k c' ((xs ++ ys).length * sz)).M a = some v := by
    intro a v hm
    by_cases hab : a.block = k
    · obtain ⟨e1, e2⟩ := hfz hm hab
      have hc := h.mem _ _ hm
      rw [e1] at hc ⊢
      rw [cell_of_row w k _ cur e (0, 0) hk] at hc
      rw [g.add_at _ _ _ (by rw [List.length_append, Nat.add_mul, ← hn]; omega), hold _ e2]
      exact hc
    · rw [g.add_ne _ _ _ hab]
      exact hm
  have hsr := setRow_heap w k cur c' e (0, 0) hk
  have hM' : ∀ a v, (g.add k c' ((xs ++ ys).length * sz)).M a = some v → (w.setRow k c').cell? a = some v := by
    intro a v hm
    by_cases hab : a.block = k
    · simp only [G.add] at hm
      split at hm
      · rename_i hx
        have : a = ⟨k, a.off, none⟩ := by cases a; simp_all
        rw [this, cell_of_row _ k _ c' e (0, 0) hsr]
        exact hm
      · rename_i hx
        obtain ⟨e1, e2⟩ := hfz hm hab
        exact absurd ⟨hab, by rw [e1], by rw [List.length_append, Nat.add_mul, ← hn]; omega⟩ hx
    · rw [g.add_ne _ _ _ hab] at hm
      rw [cell_setRow_other w k _ a hab]
      exact h.mem _ _ hm
  have hk9 : (c'.toList.take ((n + ys.length) * sz)).length = (xs.length + ys.length) * sz := by
    have e9 : c'.toList.length = cap * sz := by simpa using hcsz
    rw [List.length_take, e9, hn]
    exact Nat.min_eq_left (Nat.mul_le_mul_right _ (by omega))
  have hu := h.upd (g' := (g.add k c' ((xs ++ ys).length * sz)).set l b (.tok (.slice (some ⟨k, 0, none⟩) (n + ys.length) cap))) (stk' := setB stk l b (.tok e sz (xs.length + ys.length))) (w' := w.setRow k c') l b (.tok e sz (xs.length + ys.length))
    (.tok (.slice (some ⟨k, 0, none⟩) (n + ys.length) cap)) k rfl rfl rfl (by simp)
    (fun i hi _ => setRow_other w k i _ hi) (h.own l b _ k hb rfl).1 (.inl ⟨_, hb, rfl⟩) hM hM'
    (fun a v hx hb => by simp only [G.set] at hx; rw [g.add_ne _ _ _ hb] at hx; exact hx)
    (fun l' t' e => G.set_ne _ _ _ _ e) (G.set_same _ _ _ _) (fun h1 hb1 => by
      rw [hb] at hb1
      cases hb1
      by_cases hy : ys.length = 0
      · exact .inl (by rw [hy, Nat.add_zero])
      · exact .inr (by simp only [slen]; omega)) (fun l' t' => lookB_setB hl l' t')
    ⟨c'.toList.take ((n + ys.length) * sz), hk9, .inr ⟨k, cap, c', by rw [hn], Nat.zero_le _, hsr, by omega, hmax, hcsz, by rw [hn]⟩⟩
    (fun k' hk' => by cases hk'; exact ⟨rfl, by simp; exact (h.own l b _ k hb rfl).2.1⟩)
    (fun k' hk' o v hm => by
      simp only [G.set, G.add] at hm
      split at hm
      · rename_i hx
        have := hx.2.2
        simpa [B.frz] using this
      · rename_i hx
        have := (hfz hm rfl).2
        exact absurd ⟨trivial, trivial, by rw [List.length_append, Nat.add_mul, ← hn]; exact Nat.lt_of_lt_of_le this (Nat.le_add_right _ _)⟩ hx)
  have hlen : n + ys.length = (xs ++ ys).length := by simp [hn]
  refine ⟨_, _, _, rfl, .ap l b sz (xs ++ ys) _ _ ?_ (G.set_same _ _ _ _) (by simp [slen, hn]) (fun _ => rfl), hu.1, hu.2⟩
  rw [hlen]
  exact Rd.of_rows hu.2.mem hr (by omega) fun o ho => g.add_at _ _ _ ho

theorem WR.restk (h : WR W0 Φ g stk w) {stk' : Stk} (e : ∀ l t, lookB stk' l t = lookB stk l t) : WR W0 Φ g stk' w :=
  ⟨h.below, h.mem, h.phi, fun l t b hb => h.box l t b (by rw [← e]; exact hb), fun l t x hb => by obtain ⟨b, hb'⟩ := h.has l t x hb; exact ⟨b, by rw [e]; exact hb'⟩, h.own, h.sep,
    fun l t x k b hb hk hl => h.free l t x k b hb hk (by rw [← e]; exact hl)⟩
theorem OK.restk {x : V} {s s' : Stk} {res : Result Value} (h : OK W0 Φ g (x, s) res) (e : ∀ l t, lookB s' l t = lookB s l t) : OK W0 Φ g (x, s') res := by
  obtain ⟨v, w', g', h1, h2, h3, h4⟩ := h
  exact ⟨v, w', g', h1, h2, h3.restk e, h4⟩
theorem slTy_ok {t e : TypeId} {sz : Nat} (h : slTy P t = some (e, sz)) : ∃ i z, P.underlying t = some (.slice e) ∧ P.info? e = some i ∧ i.zero = some z ∧ i.size = sz ∧ z.cells.size = sz ∧ 0 < sz ∧ i.bytes ≤ 32768 ∧ sz ≤ 64 := by
  unfold slTy at h
  split at h
  · rename_i e' hu
    split at h
    · rename_i i hi
      split at h
      · rename_i z hz
        split at h
        · rename_i hc
          cases h
          exact ⟨i, z, hu, hi, hz, rfl, hc.1, hc.2.1, hc.2.2.1, hc.2.2.2⟩
        · cases h
      · cases h
    · cases h
  · cases h

theorem app_ok (h : WR W0 Φ g stk w) (hs : Sub rd stk) {t ty : TypeId} {v u : Value} {s x : V} (hv : VR g v s) (hu : VR g u x) {d : Option Nat} {r : V × Stk} (hr : appV P rd stk d t s x = some r) :
    OK W0 Φ g r ((Builtin.append_ #[t, t] ty #[v, u]).run P w) := by
  unfold appV at hr
  split at hr
  · rename_i e sz szx ys ht hx
    obtain ⟨i, z, h1, h2, h3, rfl, h5, h6, h7, h8⟩ := slTy_ok ht
    split at hr
    · rename_i hc
      obtain ⟨rfl, hm⟩ := hc
      have hnow := asSl_ok h hs hu hx
      have hmax : most ≤ maxLen := by decide
      have bytes : ∀ n, n ≤ most → n * i.bytes ≤ 140737488355328 := fun n hn => by
        have := Nat.mul_le_mul hn h7
        simp only [most] at this
        omega
      have zc : ∀ n, (Builtin.zeroCells z.cells n).size = n * i.size := fun n => by rw [size_zeroCells, h5]
      split at hr
      · rename_i l b sz' xs
        split at hr
        · rename_i e' sz'' n hl
          split at hr
          · rename_i hcond
            cases hr
            obtain ⟨rfl, rfl, he, rfl, hsum⟩ := hcond
            have he := he.symm
            subst he
            obtain ⟨hrd, hd, hb, hle, heq⟩ := hv.ap_inv
            obtain ⟨h0, hb', hbox⟩ := h.box l b _ hl
            rw [hb] at hb'
            cases hb'
            obtain ⟨us0, hown⟩ := hbox
            have hslen : slen hd = xs.length := by rcases hown.2 with ⟨rfl, hn⟩ | ⟨_, _, _, rfl, _⟩ <;> simp_all [slen]
            obtain rfl := heq hslen
            rcases hnow with ⟨rfl, rfl⟩ | hnow
            · have e1 : (Builtin.append_ #[t, t] ty #[v, .slice none 0 0]).run P w = .ok v w := by
                rcases hown.2 with ⟨rfl, hn⟩ | ⟨k, cap, cur, rfl, _, _, hcap, _⟩
                · simp [Builtin.append_, run_underlying h1, sizeOf, typeInfo, h2, Builtin.lenOf, Builtin.firstCells]
                · simp [Builtin.append_, run_underlying h1, sizeOf, typeInfo, h2, Builtin.lenOf, Builtin.firstCells, hcap, storeCells, storeCells]
              rw [e1]
              refine OK.restk (s := stk) ?_ fun l' t' => ?_
              · rw [List.append_nil]
                exact .same hv h
              · rw [lookB_setB hl]
                split
                · rename_i hx
                  rw [hx.1, hx.2, hl]
                  rfl
                · rfl
            · obtain ⟨a, cc, vs, rfl, rest⟩ := hnow
              obtain ⟨_, hcc, news, hnews, hcell, hone⟩ := Now.list (.inr ⟨a, cc, vs, rfl, rest⟩) h6
              rcases hown.2 with ⟨rfl, hn⟩ | ⟨k, cap, cur, rfl, _, hk, hcap, hcm, hcs, htake⟩
              · have hxs : xs = [] := List.eq_nil_of_length_eq_zero hn
                subst hxs
                by_cases hy : ys.length = 0
                · have hy' : ys = [] := List.eq_nil_of_length_eq_zero hy
                  subst hy'
                  have e1 : (Builtin.append_ #[t, t] ty #[.slice none 0 0, .slice (some a) ([] : List (List V)).length cc]).run P w = .ok (.slice none 0 0) w := by
                    simp [Builtin.append_, run_underlying h1, sizeOf, typeInfo, h2, Builtin.lenOf, Builtin.firstCells, loadCells, loadCellsFrom]
                  rw [e1]
                  refine OK.restk (s := stk) (.same hv h) fun l' t' => ?_
                  rw [lookB_setB hl]
                  split
                  · rename_i hx
                    rw [hx.1, hx.2, hl]
                    rfl
                  · rfl
                · rw [run_append_nil (P := P) w t ty e i z h1 h2 h3 a ys.length cc news (by rw [hnews.1]) hcell (by omega) (by simp only [most] at hm; omega) (by have := bytes _ hm; omega)]
                  have hge := grownCap_ge w ys.length 0 e
                  have := grow_ap h.drew (c := news.toArray ++ Builtin.zeroCells z.cells (grownCap w ys.length 0 e - ys.length)) (e := e) (rows := ys) (cap := grownCap w ys.length 0 e) hl hb hge (grownCap_le_maxLen w _ 0 e (by omega))
                    (hnews.at (by simp [← hnews.1])) (by simp only [Array.size_append, List.size_toArray, zc, hnews.1, ← Nat.add_mul]; congr 1; omega) (by simp [slen]; omega)
                  simpa using this
              · have hxr : RowsL g.M us0 i.size xs := by
                  rcases (hrd.now h) with ⟨e0, _⟩ | hnow'
                  · cases e0
                  · obtain ⟨_, _, us1, hr1, hc1, _⟩ := Now.list (.inr hnow') h6
                    have : us0 = us1 := by
                      apply List.ext_getElem?
                      intro j
                      by_cases hj : j < xs.length * i.size
                      · obtain ⟨u1, hu1⟩ : ∃ u, us1[j]? = some u := ⟨_, List.getElem?_eq_getElem (by rw [hr1.1]; exact hj)⟩
                        have := hc1 j u1 hu1
                        rw [add_lit, Nat.zero_add, cell_of_row w k _ cur e (0, 0) hk] at this
                        rw [hu1, ← htake, List.getElem?_take, if_pos hj]
                        simpa using this
                      · rw [List.getElem?_eq_none (by rw [hown.1]; omega), List.getElem?_eq_none (by rw [hr1.1]; omega)]
                    rw [this]
                    exact hr1
                by_cases hroom : xs.length + ys.length ≤ cap
                · have hfit : xs.length * i.size + news.length ≤ cur.size := by rw [hnews.1, hcs, ← Nat.add_mul]; exact Nat.mul_le_mul_right _ hroom
                  rw [run_append_room (P := P) w t ty e i h1 h2 k xs.length cap cur hk a ys.length cc news hnews.1 hcell (fun u hu => by rw [one_eq]; exact hone u hu) hroom hfit]
                  exact room_ap h hl hb hk hcm hcs hxr hnews rfl htake hroom
                · have holds : ∀ j u, us0[j]? = some u → w.cell? ((⟨k, 0, none⟩ : Addr).add j) = some u := hown.cells (g := k) rfl
                  rw [run_append_grow (P := P) w t ty e i z h1 h2 h3 ⟨k, 0, none⟩ xs.length cap us0 hown.1 holds a ys.length cc news hnews.1 hcell (by omega) (by simp only [most] at hsum; omega) (growslice_fits (by omega) (bytes _ hsum))]
                  have hge := grownCap_ge w (xs.length + ys.length) cap e
                  have := grow_ap h.drew (c := us0.toArray ++ news.toArray ++ Builtin.zeroCells z.cells (grownCap w (xs.length + ys.length) cap e - (xs.length + ys.length))) (e := e) (rows := xs ++ ys) (cap := grownCap w (xs.length + ys.length) cap e) hl hb
                    (by rw [List.length_append]; exact hge) (grownCap_le_maxLen w _ cap e (by omega))
                    ((hxr.append hnews).at (by
                      rw [List.length_append, Nat.add_mul, ← hown.1, ← hnews.1, ← List.length_append]
                      simp only [Array.toList_append]
                      exact List.take_left)) (by simp only [Array.size_append, List.size_toArray, zc, hown.1, hnews.1, ← Nat.add_mul]; congr 1; omega) (by simp [slen]; omega)
                  simpa using this
          · cases hr
        · cases hr
      · split at hr
        · cases hr
        · rename_i hne
          obtain ⟨d', f, q, rfl, rfl, hd, rfl⟩ := mkV_some_inv hr
          obtain rfl := hv.nl_inv
          rcases hnow with ⟨_, rfl⟩ | hnow
          · exact absurd rfl hne
          · obtain ⟨a, cc, vs, rfl, rest⟩ := hnow
            obtain ⟨_, hcc, news, hnews, hcell, hone⟩ := Now.list (.inr ⟨a, cc, vs, rfl, rest⟩) h6
            have hy : ys.length ≠ 0 := fun e => hne (List.eq_nil_of_length_eq_zero e)
            rw [run_append_nil (P := P) w t ty e i z h1 h2 h3 a ys.length cc news (by rw [hnews.1]) hcell (by omega) (by simp only [most] at hm; omega) (by have := bytes _ hm; omega)]
            exact new_ap h.drew hd (c := news.toArray ++ Builtin.zeroCells z.cells (grownCap w ys.length 0 e - ys.length)) (e := e) (rows := ys) (cap := grownCap w ys.length 0 e) (sz := i.size) (grownCap_ge w ys.length 0 e) (grownCap_le_maxLen w _ 0 e (by omega))
              (hnews.at (by simp [← hnews.1])) (by have := grownCap_ge w ys.length 0 e; simp only [Array.size_append, List.size_toArray, zc, hnews.1, ← Nat.add_mul]; congr 1; omega)
      · cases hr
    · cases hr
  · cases hr
end
end Go.Shade
