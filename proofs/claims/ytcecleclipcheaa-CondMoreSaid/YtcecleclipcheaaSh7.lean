/-
  What the model's operations do, as the shadow has it: values, new blocks, loads, stores.
-/
import Derived.Test.YtcecleclipcheaaSh6
import Derived.Laws.Entries
import Derived.Laws.Tables
import Derived.Laws.Cells
import Derived.Laws.CopyRow
import Derived.Laws.AppendOwn
import Derived.Great.BuildSlice
set_option linter.unusedVariables false
set_option linter.unusedSimpArgs false
namespace Go.Shade
open Go Go.RowKit

/-- What an operation comes to. -/
def OK (W0 : World) (Φ : Held) (g : G) (r : V × Stk) (res : Result Value) : Prop :=
  ∃ v w' g', res = .ok v w' ∧ VR g' v r.1 ∧ WR W0 Φ g' r.2 w' ∧ Ext 0 g g'

section
variable {P : Program} {W0 : World} {Φ : Held} {g : G} {stk : Stk} {w : World}

theorem OK.same {v : Value} {x : V} (hv : VR g v x) (h : WR W0 Φ g stk w) : OK W0 Φ g (x, stk) (.ok v w) := ⟨v, w, g, rfl, hv, h, Ext.refl 0 g⟩

/-! ### values -/
theorem cells_one {v : Value} (h : one v = true) : v.cells = #[v] := by cases v <;> first | rfl | cases h
theorem cs_atom {x : V} (h : x.atom = true) : x.cs = [x] := by cases x <;> first | rfl | cases h
theorem cells_ok {v : Value} {x : V} (h : VR g v x) (hx : x.cs ≠ []) : v.cells.size = x.cs.length ∧ (∀ (i : Nat) u y, v.cells[i]? = some u → x.cs[i]? = some y → VR g u y) ∧ ∀ y ∈ x.cs, y.atom = true := by
  by_cases ha : x.atom = true
  · rw [cells_one (h.one ha), cs_atom ha]
    refine ⟨rfl, fun i u y hu hy => ?_, fun y hy => ?_⟩
    · cases i with
      | zero => simp at hu hy; subst hu; subst hy; exact h
      | succ i => simp at hy
    · simp at hy; subst hy; exact ha
  · cases x <;> simp only [V.atom, Bool.true_eq_false, not_true_eq_false] at ha
    · obtain ⟨vs, rfl, h1, h2, h3⟩ := h.agg_inv
      exact ⟨by simpa [Value.cells, V.cs] using h1, fun i u y hu hy => h2 i u y (by simpa [Value.cells] using hu) hy, h3⟩
    · exact absurd rfl hx
    · exact absurd rfl hx

/-! ### operands -/
theorem ofConst_ok {v : Value} {x : V} (h : ofConst v = some x) : VR g v x := by
  unfold ofConst at h
  split at h <;> cases h <;> first
    | exact .rd (.int _ _)
    | exact .rd (.bool _)
    | exact .rd (.str _)
    | exact .nl _
    | exact .nili
    | exact .nilf
    | exact .nilp
    | exact .nilm

/-- The frame's slots. -/
def TmR (g : G) (tm : List (Nat × V)) (a : Act) : Prop := ∀ t x, look tm t = some x → VR g (a.eval (.tmp t)) x
theorem TmR.mono {g g' : G} {tm : List (Nat × V)} {a : Act} (h : TmR g tm a) (he : Ext 0 g g') : TmR g' tm a := fun t x hx => (h t x hx).mono he
variable {tm : List (Nat × V)} {a : Act}
theorem opd_ok (h : TmR g tm a) {o : Operand} {x : V} (ho : opd tm o = some x) : VR g (a.eval o) x := by
  cases o with
  | tmp t => exact h t x ho
  | const v => exact ofConst_ok ho
  | global n => cases ho
  | func f =>
    cases ho
    exact .fn f [] [] [] [] rfl rfl (fun i v x hv _ => by simp at hv) (fun i v x hv _ => by simp at hv)
theorem opds_ok (h : TmR g tm a) : ∀ {l : List Operand} {xs : List V}, opds tm l = some xs → l.length = xs.length ∧ ∀ (i : Nat) o x, l[i]? = some o → xs[i]? = some x → VR g (a.eval o) x
  | [], xs, ho => by cases ho; exact ⟨rfl, fun i o x h _ => by simp at h⟩
  | o :: r, xs, ho => by
    simp only [opds] at ho
    split at ho
    · rename_i v vs h1 h2
      cases ho
      obtain ⟨e, hr⟩ := opds_ok h h2
      refine ⟨by simp [e], fun i o' x h3 h4 => ?_⟩
      cases i with
      | zero => simp at h3 h4; subst h3; subst h4; exact opd_ok h h1
      | succ i => exact hr i o' x (by simpa using h3) (by simpa using h4)
    · cases ho
theorem fixNl_ok {t : TypeId} {v : Value} {x : V} (h : VR g v x) : VR g v (fixNl P t x) := by
  cases x <;> try exact h
  rw [h.nl_inv]
  exact .nl _

/-! ### new blocks -/
def G.set (g : G) (l t : Nat) (h : H) : G := { M := g.M, β := fun l' t' => if l' = l ∧ t' = t then some h else g.β l' t' }
theorem G.set_same (g : G) (l t : Nat) (h : H) : (g.set l t h).β l t = some h := by simp [G.set]
theorem G.set_ne (g : G) (l t : Nat) (h : H) {l' t' : Nat} (e : ¬ (l' = l ∧ t' = t)) : (g.set l t h).β l' t' = g.β l' t' := by simp only [G.set, if_neg e]
theorem WR.none_of (h : WR W0 Φ g stk w) {l t : Nat} (hd : lookB stk l t = none) : g.β l t = none := by
  cases hb : g.β l t with
  | none => rfl
  | some x =>
    obtain ⟨b, hb'⟩ := h.has l t x hb
    rw [hd] at hb'
    cases hb'
theorem Ext.set_new {l t : Nat} {h : H} (hn : g.β l t = none) : Ext 0 g (g.set l t h) :=
  ⟨fun _ _ h => h, fun l1 t1 h1 _ hb => ⟨h1, by rw [g.set_ne l t h (by rintro ⟨rfl, rfl⟩; rw [hn] at hb; cases hb)]; exact hb, Hle.refl _⟩⟩
theorem WR.M_lt (h : WR W0 Φ g stk w) {a : Addr} {v : Value} (hm : g.M a = some v) : a.block < w.heap.size := World.block_lt_of_cell? w a (h.mem _ _ hm)
theorem heap_alloc_lt (w : World) (o : Obj) (i : Nat) (h : i < w.heap.size) : (w.alloc o).heap[i]? = w.heap[i]? := heap_alloc_old w o i h

theorem new_box {f : Fr} {r : Stk} (h : WR W0 Φ g (f :: r) w) {d : Nat} (hd : lookB (f :: r) 0 d = none) (c : Array Value) (e : TypeId) (cs : List V) (hsz : c.size = cs.length)
    (hv : ∀ (i : Nat) u y, c[i]? = some u → cs[i]? = some y → VR g u y) (ha : ∀ y ∈ cs, y.atom = true) :
    OK W0 Φ g (.ptr 0 d 0, newB (f :: r) d (.cells cs)) (.ok (.pointer (some ⟨w.heap.size, 0, none⟩)) (w.alloc (.cells c e))) := by
  have hn := h.none_of hd
  have he : Ext 0 g (g.set 0 d (.box w.heap.size)) := Ext.set_new hn
  have hu := h.upd (g' := g.set 0 d (.box w.heap.size)) (stk' := newB (f :: r) d (.cells cs)) (w' := w.alloc (.cells c e)) 0 d (.cells cs) (.box w.heap.size) w.heap.size rfl rfl rfl (by simp)
    (fun i _ hi => heap_alloc_lt w _ i hi) (by have := h.below.size; exact this) (.inr (Nat.le_refl _)) (fun _ _ h => h)
    (fun x v hx => by rw [World.cell?_alloc_lt _ _ _ (h.M_lt hx)]; exact h.mem _ _ hx) (fun _ _ h _ => h)
    (fun l' t' e => g.set_ne _ _ _ e) (g.set_same _ _ _) (fun h0 hb => by rw [hn] at hb; cases hb)
    (fun l' t' => lookB_newB l' t')
    ⟨c, e, heap_alloc_new w _, hsz, fun j v x h1 h2 => (hv j v x h1 h2).mono he, ha⟩
    (fun k' hk => by cases hk; exact ⟨rfl, by simp⟩)
    (fun k' hk o v hm => absurd (h.M_lt hm) (by simp))
  exact ⟨_, _, _, rfl, .ptr 0 d 0 _ (g.set_same _ _ _), hu.1, hu.2⟩

/-- Cells that are read alone from now on. -/
def G.add (g : G) (b : Nat) (c : Array Value) (n : Nat) : G := { M := fun a => if a.block = b ∧ a.spot = none ∧ a.off < n then c[a.off]? else g.M a, β := g.β }
theorem G.add_at (g : G) (b : Nat) (c : Array Value) (n : Nat) {o : Nat} (h : o < n) : (g.add b c n).M ⟨b, o, none⟩ = c[o]? := by simp [G.add, h]
theorem G.add_ne (g : G) (b : Nat) (c : Array Value) (n : Nat) {a : Addr} (h : a.block ≠ b) : (g.add b c n).M a = g.M a := by simp [G.add, h]
theorem WR.add_M (h : WR W0 Φ g stk w) {c : Array Value} {n : Nat} {a : Addr} {v : Value} (hm : g.M a = some v) : (g.add w.heap.size c n).M a = some v := by
  rw [g.add_ne _ _ _ (by have := h.M_lt hm; omega)]; exact hm
theorem WR.add_M' (h : WR W0 Φ g stk w) {c : Array Value} {n : Nat} {e : TypeId} {fr : Nat × Nat} {a : Addr} {v : Value} (hm : (g.add w.heap.size c n).M a = some v) : (w.alloc (.cells c e fr)).cell? a = some v := by
  by_cases hb : a.block = w.heap.size
  · simp only [G.add] at hm
    split at hm
    · rename_i hc
      have : a = ⟨w.heap.size, a.off, none⟩ := by cases a; simp_all
      rw [this]
      simp only [World.cell?, World.alloc, Array.getElem?_push, if_true]
      simpa using hm
    · exact absurd (h.M_lt hm) (by omega)
  · rw [g.add_ne _ _ _ hb] at hm
    rw [World.cell?_alloc_lt _ _ _ (h.M_lt hm)]
    exact h.mem _ _ hm

/-- The rows of a block. -/
def RowsAt (M : Mem) (c : Array Value) (sz : Nat) (rows : List (List V)) : Prop :=
  rows.length * sz ≤ c.size ∧ (∀ r ∈ rows, r.length = sz) ∧ ∀ i r j x, rows[i]? = some r → r[j]? = some x → ∃ v, c[i * sz + j]? = some v ∧ Rd M v x

theorem add_lit (b o n : Nat) : (⟨b, o, none⟩ : Addr).add n = ⟨b, o + n, none⟩ := by unfold Addr.add; split <;> simp_all

theorem row_lt {sz : Nat} {rows : List (List V)} (hz : ∀ r ∈ rows, r.length = sz) {i j : Nat} {r : List V} {x : V} (h1 : rows[i]? = some r) (h2 : r[j]? = some x) : i * sz + j < rows.length * sz := by
  have hi := (List.getElem?_eq_some_iff.1 h1).1
  have hj := (List.getElem?_eq_some_iff.1 h2).1
  rw [hz r (List.mem_of_getElem? h1)] at hj
  calc i * sz + j < i * sz + sz := by omega
    _ = (i + 1) * sz := by rw [Nat.add_mul, Nat.one_mul]
    _ ≤ rows.length * sz := Nat.mul_le_mul_right _ hi

theorem Rd.of_rows {M M' : Mem} (hM : ∀ a v, M a = some v → M' a = some v) {b cap : Nat} {c : Array Value} {sz : Nat} {rows : List (List V)} (hr : RowsAt M c sz rows) (hc : rows.length ≤ cap)
    (hb : ∀ o, o < rows.length * sz → M' ⟨b, o, none⟩ = c[o]?) : Rd M' (.slice (some ⟨b, 0, none⟩) rows.length cap) (.sl sz rows) := by
  obtain ⟨h1, h2, h3⟩ := hr
  refine .sl ⟨b, 0, none⟩ cap sz rows (fun i j => c.getD (i * sz + j) undef) hc h2 (fun i r j x hi hj => ?_) (fun i r j x hi hj => ?_)
  · obtain ⟨v, hv, _⟩ := h3 i r j x hi hj
    have hlt := row_lt h2 hi hj
    rw [add_lit, Nat.zero_add, hb _ hlt, hv]
    simp [hv]
  · obtain ⟨v, hv, hx⟩ := h3 i r j x hi hj
    have : c.getD (i * sz + j) undef = v := by simp [hv]
    rw [this]
    exact hx.mono hM

/-- A block whose rows are read alone. -/
theorem new_sl (h : WR W0 Φ g stk w) (c : Array Value) (e : TypeId) (sz : Nat) (rows : List (List V)) (cap : Nat) (hcap : rows.length ≤ cap) (hr : RowsAt g.M c sz rows) :
    OK W0 Φ g (.sl sz rows, stk) (.ok (.slice (some ⟨w.heap.size, 0, none⟩) rows.length cap) (w.alloc (.cells c e))) := by
  have hm := h.more (g' := g.add w.heap.size c (rows.length * sz)) (w' := w.alloc (.cells c e)) rfl rfl rfl (by simp) (fun i hi => heap_alloc_lt w _ i hi) rfl
    (fun a v hx => h.add_M hx) (fun a v hx => h.add_M' hx) (fun a v hx hb => by rw [g.add_ne _ _ _ (by omega)] at hx; exact hx)
  exact ⟨_, _, _, rfl, .rd (Rd.of_rows hm.2.mem hr hcap fun o ho => g.add_at _ _ _ ho), hm.1, hm.2⟩

/-- A block that may be appended to. -/
theorem new_ap {f : Fr} {r : Stk} (h : WR W0 Φ g (f :: r) w) {d : Nat} (hd : lookB (f :: r) 0 d = none) (c : Array Value) (e : TypeId) (sz : Nat) (rows : List (List V)) (cap : Nat) (hcap : rows.length ≤ cap) (hmax : cap ≤ maxLen)
    (hr : RowsAt g.M c sz rows) (hc : c.size = cap * sz) :
    OK W0 Φ g (.ap 0 d sz rows, newB (f :: r) d (.tok e sz rows.length)) (.ok (.slice (some ⟨w.heap.size, 0, none⟩) rows.length cap) (w.alloc (.cells c e))) := by
  have hn := h.none_of hd
  have hle : rows.length * sz ≤ c.size := hr.1
  have hlook : ∀ l' t', lookB (newB (f :: r) d (.tok e sz rows.length)) l' t' = if l' = 0 ∧ t' = d then some (.tok e sz rows.length) else lookB (f :: r) l' t' := fun l' t' => lookB_newB l' t'
  have hu := h.upd (g' := (g.add w.heap.size c (rows.length * sz)).set 0 d (.tok (.slice (some ⟨w.heap.size, 0, none⟩) rows.length cap))) (stk' := newB (f :: r) d (.tok e sz rows.length)) (w' := w.alloc (.cells c e)) 0 d (.tok e sz rows.length)
    (.tok (.slice (some ⟨w.heap.size, 0, none⟩) rows.length cap)) w.heap.size rfl rfl rfl (by simp)
    (fun i _ hi => heap_alloc_lt w _ i hi) h.below.size (.inr (Nat.le_refl _)) (fun a v hx => h.add_M hx) (fun a v hx => h.add_M' hx)
    (fun a v hx hb => by simp only [G.set] at hx; rw [g.add_ne _ _ _ hb] at hx; exact hx)
    (fun l' t' e => G.set_ne _ _ _ _ e) (G.set_same _ _ _ _) (fun h0 hb => by rw [hn] at hb; cases hb) hlook
    ⟨c.toList.take (rows.length * sz), by simp; omega, .inr ⟨w.heap.size, cap, c, rfl, Nat.zero_le _, heap_alloc_new w _, hcap, hmax, hc, rfl⟩⟩
    (fun k' hk => by simp only [H.blk, Value.ownBlock, Option.some.injEq] at hk; exact ⟨hk.symm, by simp⟩)
    (fun k' hk o v hm => by
      simp only [G.set, G.add] at hm
      split at hm
      · rename_i hx; exact hx.2.2
      · exact absurd (h.M_lt hm) (by simp))
  refine ⟨_, _, _, rfl, .ap 0 d sz rows _ _ (Rd.of_rows hu.2.mem hr hcap fun o ho => ?_) (G.set_same _ _ _ _) (Nat.le_refl _) (fun _ => rfl), hu.1, hu.2⟩
  exact g.add_at _ _ _ ho

/-- A block whose elements may be written. -/
theorem new_row {f : Fr} {r : Stk} (h : WR W0 Φ g (f :: r) w) {d : Nat} (hd : lookB (f :: r) 0 d = none) (c : Array Value) (e : TypeId) (sz : Nat) (rows : List (List V)) (cap : Nat) (hcap : rows.length ≤ cap)
    (hr : RowsAt g.M c sz rows) :
    OK W0 Φ g (.row 0 d, newB (f :: r) d (.row sz rows)) (.ok (.slice (some ⟨w.heap.size, 0, none⟩) rows.length cap) (w.alloc (.cells c e))) := by
  have hn := h.none_of hd
  have hu := h.upd (g' := g.set 0 d (.row sz w.heap.size rows.length cap)) (stk' := newB (f :: r) d (.row sz rows)) (w' := w.alloc (.cells c e)) 0 d (.row sz rows) (.row sz w.heap.size rows.length cap) w.heap.size rfl rfl rfl (by simp)
    (fun i _ hi => heap_alloc_lt w _ i hi) h.below.size (.inr (Nat.le_refl _)) (fun _ _ h => h)
    (fun x v hx => by rw [World.cell?_alloc_lt _ _ _ (h.M_lt hx)]; exact h.mem _ _ hx) (fun _ _ h _ => h)
    (fun l' t' e => g.set_ne _ _ _ e) (g.set_same _ _ _) (fun h0 hb => by rw [hn] at hb; cases hb)
    (fun l' t' => lookB_newB l' t')
    ⟨rfl, rfl, hcap, c, e, heap_alloc_new w _, hr⟩
    (fun k' hk => by cases hk; exact ⟨rfl, by simp⟩)
    (fun k' hk o v hm => absurd (h.M_lt hm) (by simp))
  exact ⟨_, _, _, rfl, .row 0 d sz _ _ _ (g.set_same _ _ _), hu.1, hu.2⟩

/-- A map. -/
theorem new_map {f : Fr} {r : Stk} (h : WR W0 Φ g (f :: r) w) {d : Nat} (hd : lookB (f :: r) 0 d = none) (b : B) (hb : b = .smap [] ∨ b = .imap []) :
    OK W0 Φ g (.mp 0 d, newB (f :: r) d b) (.ok (.map (some w.heap.size)) (w.alloc (.map #[] 0))) := by
  have hn := h.none_of hd
  have hu := h.upd (g' := g.set 0 d (.mp w.heap.size)) (stk' := newB (f :: r) d b) (w' := w.alloc (.map #[] 0)) 0 d b (.mp w.heap.size) w.heap.size rfl rfl rfl (by simp)
    (fun i _ hi => heap_alloc_lt w _ i hi) h.below.size (.inr (Nat.le_refl _)) (fun _ _ h => h)
    (fun x v hx => by rw [World.cell?_alloc_lt _ _ _ (h.M_lt hx)]; exact h.mem _ _ hx) (fun _ _ h _ => h)
    (fun l' t' e => g.set_ne _ _ _ e) (g.set_same _ _ _) (fun h0 hb => by rw [hn] at hb; cases hb)
    (fun l' t' => lookB_newB l' t')
    (by rcases hb with rfl | rfl <;> exact ⟨#[], 0, ⟨heap_alloc_new w _, MapKept.stamped_empty 0⟩, rfl, fun i e k x he => by simp at he⟩)
    (fun k' hk => by cases hk; exact ⟨rfl, by simp⟩)
    (fun k' hk o v hm => absurd (h.M_lt hm) (by simp))
  exact ⟨_, _, _, rfl, .mp 0 d _ (g.set_same _ _ _), hu.1, hu.2⟩

/-- A box without a block: what may be appended to, and is nil. -/
theorem new_nil {f : Fr} {r : Stk} (h : WR W0 Φ g (f :: r) w) {d : Nat} (hd : lookB (f :: r) 0 d = none) (e sz : Nat) :
    OK W0 Φ g (.ap 0 d sz [], newB (f :: r) d (.tok e sz 0)) (.ok (.slice none 0 0) w) := by
  have hn := h.none_of hd
  have hu := h.upd (g' := g.set 0 d (.tok (.slice none 0 0))) (stk' := newB (f :: r) d (.tok e sz 0)) (w' := w) 0 d (.tok e sz 0) (.tok (.slice none 0 0)) w.heap.size rfl rfl rfl (Nat.le_refl _)
    (fun i _ _ => rfl) h.below.size (.inr (Nat.le_refl _)) (fun _ _ h => h) h.mem (fun _ _ h _ => h)
    (fun l' t' e => g.set_ne _ _ _ e) (g.set_same _ _ _) (fun h0 hb => by rw [hn] at hb; cases hb)
    (fun l' t' => lookB_newB l' t') ⟨[], World.ownsRow_nil w 0 e sz⟩ (fun k' hk => by cases hk) (fun k' hk => by cases hk)
  exact ⟨_, _, _, rfl, .ap 0 d sz [] _ _ (.nil sz) (g.set_same _ _ _) (Nat.le_refl _) (fun _ => rfl), hu.1, hu.2⟩

theorem mkV_some_inv {d : Option Nat} {b : B} {v : Nat → V} {r : V × Stk} (h : mkV stk d b v = some r) : ∃ d' f q, d = some d' ∧ stk = f :: q ∧ lookB stk 0 d' = none ∧ r = (v d', newB stk d' b) := by
  unfold mkV at h
  split at h
  · rename_i d'
    split at h
    · rename_i f q hl
      cases h
      exact ⟨d', f, q, rfl, rfl, hl, rfl⟩
    · cases h
  · cases h
end
end Go.Shade
