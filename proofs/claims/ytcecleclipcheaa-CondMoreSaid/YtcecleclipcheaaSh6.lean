/-
  The world that a shadow speaks of: its boxes lie apart; what is read alone stays.
-/
import Derived.Test.YtcecleclipcheaaSh5
import Derived.MapKept
set_option linter.unusedVariables false
namespace Go.Shade
open Go Go.RowKit

/-- What may be appended to. -/
def TokR (w : World) (h : Value) (e sz n : Nat) : Prop := ∃ xs, w.ownsRow 0 e sz h n xs

/-- The rows of a row that may be written. -/
def RowAt (M : Mem) (c : Array Value) (sz : Nat) (xs : List (List V)) : Prop :=
  xs.length * sz ≤ c.size ∧ (∀ r ∈ xs, r.length = sz) ∧ ∀ i r j x, xs[i]? = some r → r[j]? = some x → ∃ v, c[i * sz + j]? = some v ∧ Rd M v x

def BoxR (g : G) (w : World) : H → B → Prop
  | .box b, .cells cs => ∃ c e, w.heap[b]? = some (.cells c e (0, 0)) ∧ c.size = cs.length ∧ (∀ (j : Nat) v x, c[j]? = some v → cs[j]? = some x → VR g v x) ∧ ∀ x ∈ cs, x.atom = true
  | .tok h, .tok e sz n => TokR w h e sz n
  | .row sz b n c, .row sz' xs => sz' = sz ∧ n = xs.length ∧ n ≤ c ∧ ∃ cs e, w.heap[b]? = some (.cells cs e (0, 0)) ∧ RowAt g.M cs sz xs
  | .row sz b n c, .fz sz' xs => sz' = sz ∧ n = xs.length ∧ n ≤ c ∧ Rd g.M (.slice (some ⟨b, 0, none⟩) n c) (.sl sz xs)
  | .mp r, .smap es => ∃ en clock, (w.heap[r]? = some (.map en clock) ∧ MapKept.Stamped en clock) ∧ en.size = es.length ∧ ∀ (i : Nat) e k x, en[i]? = some e → es[i]? = some (k, x) → e.key = .string k ∧ VR g e.val x ∧ x.atom = true
  | .mp r, .imap es => ∃ en clock, (w.heap[r]? = some (.map en clock) ∧ MapKept.Stamped en clock) ∧ en.size = es.length ∧ ∀ (i : Nat) e k x, en[i]? = some e → es[i]? = some (k, x) → e.key = .int .i64 k ∧ VR g e.val x ∧ x.atom = true
  | _, _ => False

/-- The cells of a box's block that are read alone. -/
def B.frz : B → Nat → Prop
  | .tok _ sz n, o => o < n * sz
  | .fz _ _, _ => True
  | _, _ => False

theorem RowAt.mono {M M' : Mem} (h : ∀ a v, M a = some v → M' a = some v) {c : Array Value} {sz : Nat} {xs : List (List V)} (hr : RowAt M c sz xs) : RowAt M' c sz xs :=
  ⟨hr.1, hr.2.1, fun i r j x h1 h2 => by
    obtain ⟨v, hv, hx⟩ := hr.2.2 i r j x h1 h2
    exact ⟨v, hv, hx.mono h⟩⟩

theorem BoxR.mono {g g' : G} (hg : Ext 0 g g') {w w' : World} {h : H} {b : B} (hh : ∀ k, h.blk = some k → w'.heap[k]? = w.heap[k]?) (hb : BoxR g w h b) : BoxR g' w' h b := by
  cases h <;> cases b <;> simp only [BoxR] at hb ⊢
  case box.cells k cs =>
    obtain ⟨c, e, h1, h2, h3, h4⟩ := hb
    exact ⟨c, e, (hh k rfl).trans h1, h2, fun j v x hv hx => (h3 j v x hv hx).mono hg, h4⟩
  case tok.tok hd e sz n =>
    obtain ⟨xs, h1, h2⟩ := hb
    refine ⟨xs, h1, ?_⟩
    rcases h2 with h2 | ⟨b, cap, c, h2, h3, h4, h5⟩
    · exact .inl h2
    · exact .inr ⟨b, cap, c, h2, h3, (hh b (by subst h2; rfl)).trans h4, h5⟩
  case row.row sz b n c sz' xs =>
    obtain ⟨h1, h2, h3, cs, e, h4, h5⟩ := hb
    exact ⟨h1, h2, h3, cs, e, (hh b rfl).trans h4, h5.mono hg.mem⟩
  case row.fz sz b n c sz' xs => exact ⟨hb.1, hb.2.1, hb.2.2.1, hb.2.2.2.mono hg.mem⟩
  case mp.smap r es =>
    obtain ⟨en, clock, h1, h2, h3⟩ := hb
    exact ⟨en, clock, ⟨(hh r rfl).trans h1.1, h1.2⟩, h2, fun i e k x he hx => ⟨(h3 i e k x he hx).1, (h3 i e k x he hx).2.1.mono hg, (h3 i e k x he hx).2.2⟩⟩
  case mp.imap r es =>
    obtain ⟨en, clock, h1, h2, h3⟩ := hb
    exact ⟨en, clock, ⟨(hh r rfl).trans h1.1, h1.2⟩, h2, fun i e k x he hx => ⟨(h3 i e k x he hx).1, (h3 i e k x he hx).2.1.mono hg, (h3 i e k x he hx).2.2⟩⟩

/-- What others own: their blocks, and where these are read alone. -/
abbrev Held := Nat → Option (Obj × (Nat → Prop))

structure WR (W0 : World) (Φ : Held) (g : G) (stk : Stk) (w : World) : Prop where
  below : Below W0.heap.size W0 w
  mem : ∀ a v, g.M a = some v → w.cell? a = some v
  phi : ∀ b p, Φ b = some p → w.heap[b]? = some p.1 ∧ ∀ o v, g.M ⟨b, o, none⟩ = some v → p.2 o
  box : ∀ l t b, lookB stk l t = some b → ∃ h, g.β l t = some h ∧ BoxR (g.up l) w h b
  has : ∀ l t h, g.β l t = some h → ∃ b, lookB stk l t = some b
  own : ∀ l t h k, g.β l t = some h → h.blk = some k → W0.heap.size ≤ k ∧ k < w.heap.size ∧ Φ k = none
  sep : ∀ l t l' t' h h' k, g.β l t = some h → g.β l' t' = some h' → h.blk = some k → h'.blk = some k → l = l' ∧ t = t'
  free : ∀ l t h k b, g.β l t = some h → h.blk = some k → lookB stk l t = some b → ∀ o v, g.M ⟨k, o, none⟩ = some v → b.frz o

/-! ### the lists -/
theorem look_ins_same {α : Type} {d : Nat} {v : α} : ∀ {l : List (Nat × α)}, look (ins d v l) d = some v
  | [] => by simp [ins, look]
  | (a, x) :: r => by
    unfold ins
    split
    · simp [look]
    · split
      · simp [look]
      · rename_i h1 h2
        simp only [look, if_neg h2]
        exact look_ins_same
theorem look_ins_ne {α : Type} {d e : Nat} {v : α} (h : e ≠ d) : ∀ {l : List (Nat × α)}, look (ins d v l) e = look l e
  | [] => by simp [ins, look, Ne.symm h]
  | (a, x) :: r => by
    unfold ins
    split
    · simp [look, Ne.symm h]
    · split
      · rename_i h1 h2
        simp only [look]
        subst h2
        simp [Ne.symm h]
      · simp only [look]
        rw [look_ins_ne h]
theorem lookB_setB {stk : Stk} {l t : Nat} {b b0 : B} (h0 : lookB stk l t = some b0) (l' t' : Nat) : lookB (setB stk l t b) l' t' = if l' = l ∧ t' = t then some b else lookB stk l' t' := by
  induction stk generalizing l l' with
  | nil => simp [lookB] at h0
  | cons f r ih =>
    cases l with
    | zero =>
      cases l' with
      | zero =>
        simp only [setB, lookB, true_and]
        by_cases ht : t' = t
        · subst ht; simp [look_ins_same]
        · simp [ht, look_ins_ne ht]
      | succ l' => simp [setB, lookB]
    | succ l =>
      cases l' with
      | zero => simp [setB, lookB]
      | succ l' =>
        simp only [lookB] at h0
        simp only [setB, lookB, Nat.add_right_cancel_iff]
        exact ih h0 l'
theorem lookB_newB {f : Fr} {r : Stk} {t : Nat} {b : B} (l' t' : Nat) : lookB (newB (f :: r) t b) l' t' = if l' = 0 ∧ t' = t then some b else lookB (f :: r) l' t' := by
  cases l' with
  | zero =>
    simp only [newB, lookB, true_and]
    by_cases ht : t' = t
    · subst ht; simp [look_ins_same]
    · simp [ht, look_ins_ne ht]
  | succ l' => simp [newB, lookB]

/-! ### one box turns, or is new -/
section
variable {W0 : World} {Φ : Held} {g g' : G} {stk stk' : Stk} {w w' : World}

/-- A step of memory that touches block k alone, box (l, t)'s own or a new one. -/
theorem WR.upd (h : WR W0 Φ g stk w) (l t : Nat) (b' : B) (h' : H) (k : Nat)
    (hos : w'.os = w.os) (htape : w'.tape = w.tape) (hout : w'.output = w.output) (hsize : w.heap.size ≤ w'.heap.size)
    (hheap : ∀ i, i ≠ k → i < w.heap.size → w'.heap[i]? = w.heap[i]?)
    (hbase : W0.heap.size ≤ k) (hk : (∃ h0, g.β l t = some h0 ∧ h0.blk = some k) ∨ w.heap.size ≤ k)
    (hM : ∀ a v, g.M a = some v → g'.M a = some v) (hM' : ∀ a v, g'.M a = some v → w'.cell? a = some v)
    (hMk : ∀ a v, g'.M a = some v → a.block ≠ k → g.M a = some v)
    (hβ : ∀ l' t', ¬ (l' = l ∧ t' = t) → g'.β l' t' = g.β l' t') (hβt : g'.β l t = some h')
    (hold : ∀ h0, g.β l t = some h0 → Hle h0 h')
    (hlook : ∀ l' t', lookB stk' l' t' = if l' = l ∧ t' = t then some b' else lookB stk l' t')
    (hbox : BoxR (g'.up l) w' h' b') (hblk : ∀ k', h'.blk = some k' → k' = k ∧ k < w'.heap.size)
    (hfree : ∀ k', h'.blk = some k' → ∀ o v, g'.M ⟨k, o, none⟩ = some v → b'.frz o) : WR W0 Φ g' stk' w' ∧ Ext 0 g g' := by
  have hext : Ext 0 g g' := ⟨hM, fun l1 t1 h1 _ hb => by
    by_cases e : l1 = l ∧ t1 = t
    · obtain ⟨rfl, rfl⟩ := e
      exact ⟨h', hβt, hold _ hb⟩
    · exact ⟨h1, (hβ _ _ e).trans hb, Hle.refl _⟩⟩
  have other : ∀ l1 t1 h1 k1, ¬ (l1 = l ∧ t1 = t) → g.β l1 t1 = some h1 → h1.blk = some k1 → k1 ≠ k := by
    intro l1 t1 h1 k1 e hb hk1 ek
    subst ek
    rcases hk with ⟨h0, hb0, hk0⟩ | hk
    · exact e (h.sep l1 t1 l t h1 h0 k1 hb hb0 hk1 hk0)
    · have := (h.own l1 t1 h1 k1 hb hk1).2.1
      omega
  have phik : Φ k = none := by
    rcases hk with ⟨h0, hb0, hk0⟩ | hk
    · exact (h.own l t h0 k hb0 hk0).2.2
    · cases hp : Φ k with
      | none => rfl
      | some o =>
        have := (h.phi k o hp).1
        have := (Array.getElem?_eq_some_iff.1 this).1
        omega
  refine ⟨⟨?_, hM', ?_, ?_, ?_, ?_, ?_, ?_⟩, hext⟩
  · exact h.below.trans ⟨hos, htape, hout, hsize, fun i hi => hheap i (by omega) (by have := h.below.size; omega)⟩
  · intro b o hp
    have hb := (h.phi b o hp).1
    have hlt := (Array.getElem?_eq_some_iff.1 hb).1
    have hne : b ≠ k := fun e => by subst e; rw [phik] at hp; cases hp
    rw [hheap b hne hlt]
    exact ⟨hb, fun o v hm => (h.phi b _ hp).2 o v (hMk _ v hm hne)⟩
  · intro l1 t1 b1 hb1
    rw [hlook] at hb1
    split at hb1
    · rename_i e
      obtain ⟨rfl, rfl⟩ := e
      cases hb1
      exact ⟨h', hβt, hbox⟩
    · rename_i e
      obtain ⟨h1, hb, hr⟩ := h.box l1 t1 b1 hb1
      refine ⟨h1, (hβ _ _ e).trans hb, hr.mono (hext.mono (Nat.zero_le l1)).up fun k1 hk1 => ?_⟩
      exact hheap k1 (other l1 t1 h1 k1 e hb hk1) (h.own l1 t1 h1 k1 hb hk1).2.1
  · intro l1 t1 h1 hb
    by_cases e : l1 = l ∧ t1 = t
    · exact ⟨b', by rw [hlook, if_pos e]⟩
    · rw [hβ _ _ e] at hb
      obtain ⟨b1, hb1⟩ := h.has l1 t1 h1 hb
      exact ⟨b1, by rw [hlook, if_neg e]; exact hb1⟩
  · intro l1 t1 h1 k1 hb hk1
    by_cases e : l1 = l ∧ t1 = t
    · obtain ⟨rfl, rfl⟩ := e
      rw [hβt] at hb
      cases hb
      obtain ⟨rfl, hlt⟩ := hblk k1 hk1
      exact ⟨hbase, hlt, phik⟩
    · rw [hβ _ _ e] at hb
      obtain ⟨a1, a2, a3⟩ := h.own l1 t1 h1 k1 hb hk1
      exact ⟨a1, by omega, a3⟩
  · intro l1 t1 l2 t2 h1 h2 k1 hb1 hb2 hk1 hk2
    by_cases e1 : l1 = l ∧ t1 = t
    · by_cases e2 : l2 = l ∧ t2 = t
      · exact ⟨e1.1.trans e2.1.symm, e1.2.trans e2.2.symm⟩
      · obtain ⟨rfl, rfl⟩ := e1
        rw [hβt] at hb1
        cases hb1
        obtain ⟨rfl, _⟩ := hblk k1 hk1
        rw [hβ _ _ e2] at hb2
        exact absurd rfl (other l2 t2 h2 k1 e2 hb2 hk2)
    · by_cases e2 : l2 = l ∧ t2 = t
      · obtain ⟨rfl, rfl⟩ := e2
        rw [hβt] at hb2
        cases hb2
        obtain ⟨rfl, _⟩ := hblk k1 hk2
        rw [hβ _ _ e1] at hb1
        exact absurd rfl (other l1 t1 h1 k1 e1 hb1 hk1)
      · rw [hβ _ _ e1] at hb1
        rw [hβ _ _ e2] at hb2
        exact h.sep l1 t1 l2 t2 h1 h2 k1 hb1 hb2 hk1 hk2
  · intro l1 t1 h1 k1 b1 hb hk1 hb1 o v hv
    by_cases e : l1 = l ∧ t1 = t
    · obtain ⟨rfl, rfl⟩ := e
      rw [hβt] at hb
      cases hb
      obtain ⟨rfl, _⟩ := hblk k1 hk1
      rw [hlook, if_pos ⟨rfl, rfl⟩] at hb1
      cases hb1
      exact hfree k1 hk1 o v hv
    · rw [hβ _ _ e] at hb
      rw [hlook, if_neg e] at hb1
      exact h.free l1 t1 h1 k1 b1 hb hk1 hb1 o v (hMk _ v hv (other l1 t1 h1 k1 e hb hk1))

/-- A step of memory that touches no block of a box: new blocks, all of them read alone from now on; draws. -/
theorem WR.more (h : WR W0 Φ g stk w) (hos : w'.os = w.os) (htape : w'.tape = w.tape) (hout : w'.output = w.output) (hsize : w.heap.size ≤ w'.heap.size)
    (hheap : ∀ i, i < w.heap.size → w'.heap[i]? = w.heap[i]?) (hβ : g'.β = g.β)
    (hM : ∀ a v, g.M a = some v → g'.M a = some v) (hM' : ∀ a v, g'.M a = some v → w'.cell? a = some v)
    (hMk : ∀ a v, g'.M a = some v → a.block < w.heap.size → g.M a = some v) : WR W0 Φ g' stk w' ∧ Ext 0 g g' := by
  have hext : Ext 0 g g' := ⟨hM, fun l1 t1 h1 _ hb => ⟨h1, by rw [hβ]; exact hb, Hle.refl _⟩⟩
  refine ⟨⟨?_, hM', ?_, ?_, ?_, ?_, ?_, ?_⟩, hext⟩
  · exact h.below.trans ⟨hos, htape, hout, hsize, fun i hi => hheap i (by have := h.below.size; omega)⟩
  · intro b o hp
    have hb := (h.phi b o hp).1
    have hlt := (Array.getElem?_eq_some_iff.1 hb).1
    rw [hheap b hlt]
    exact ⟨hb, fun o v hm => (h.phi b _ hp).2 o v (hMk _ v hm hlt)⟩
  · intro l t b hb
    obtain ⟨h1, hb1, hr⟩ := h.box l t b hb
    exact ⟨h1, by rw [hβ]; exact hb1, hr.mono (hext.mono (Nat.zero_le l)).up fun k hk => hheap k (h.own l t h1 k hb1 hk).2.1⟩
  · intro l t h1 hb; rw [hβ] at hb; exact h.has l t h1 hb
  · intro l t h1 k hb hk
    rw [hβ] at hb
    obtain ⟨a1, a2, a3⟩ := h.own l t h1 k hb hk
    exact ⟨a1, by omega, a3⟩
  · intro l t l' t' h1 h2 k hb hb' hk hk'
    rw [hβ] at hb hb'
    exact h.sep l t l' t' h1 h2 k hb hb' hk hk'
  · intro l t h1 k b hb hk hb1 o v hv
    rw [hβ] at hb
    exact h.free l t h1 k b hb hk hb1 o v (hMk _ v hv (h.own l t h1 k hb hk).2.1)
end
end Go.Shade
