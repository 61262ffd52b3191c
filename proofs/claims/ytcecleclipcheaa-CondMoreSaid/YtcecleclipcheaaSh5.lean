/-
  What a shadow says of the world: values, boxes, memory.
-/
import Derived.Test.YtcecleclipcheaaSh3
set_option linter.unusedVariables false
namespace Go.Shade
open Go Go.RowKit

abbrev Mem := Addr → Option Value

/-- Where a box lies. -/
inductive H where
  | box (b : Nat)
  | tok (v : Value)
  | row (sz b n c : Nat)
  | mp (r : Nat)

structure G where
  M : Mem
  β : Nat → Nat → Option H

def G.up (g : G) (k : Nat) : G := { M := g.M, β := fun l t => g.β (l + k) t }
theorem G.up_zero (g : G) : g.up 0 = g := rfl
theorem G.up_up (g : G) (a b : Nat) : (g.up a).up b = g.up (a + b) := by
  unfold G.up
  simp only [G.mk.injEq, true_and]
  funext l t
  rw [show l + b + a = l + (a + b) by omega]

def slen : Value → Nat
  | .slice _ n _ => n
  | _ => 0
def H.blk : H → Option Nat
  | .box b => some b
  | .tok v => v.ownBlock
  | .row _ b _ _ => some b
  | .mp r => some r

/-- A value in memory that never turns. -/
inductive Rd (M : Mem) : Value → V → Prop
  | int (k : IntKind) (n : Int) : Rd M (.int k n) (.int k n)
  | bool (b : Bool) : Rd M (.bool b) (.bool b)
  | str (s : ByteArray) : Rd M (.string s) (.str s)
  | nil (sz : Nat) : Rd M (.slice none 0 0) (.sl sz [])
  | sl (a : Addr) (c sz : Nat) (rows : List (List V)) (vs : Nat → Nat → Value) (hc : rows.length ≤ c) (hz : ∀ r ∈ rows, r.length = sz)
      (hM : ∀ i r j x, rows[i]? = some r → r[j]? = some x → M (a.add (i * sz + j)) = some (vs i j))
      (hR : ∀ i r j x, rows[i]? = some r → r[j]? = some x → Rd M (vs i j) x) : Rd M (.slice (some a) rows.length c) (.sl sz rows)
  | eptr (a : Addr) (cells : List V) (o : Nat) (vs : Nat → Value)
      (hM : ∀ j x, cells[j]? = some x → M (a.add j) = some (vs j))
      (hR : ∀ j x, cells[j]? = some x → Rd M (vs j) x) : Rd M (.pointer (some (a.add o))) (.eptr cells o)

theorem Rd.mono {M M' : Mem} (h : ∀ a v, M a = some v → M' a = some v) {v : Value} {x : V} (hr : Rd M v x) : Rd M' v x := by
  induction hr with
  | int k n => exact .int k n
  | bool b => exact .bool b
  | str s => exact .str s
  | nil sz => exact .nil sz
  | sl a c sz rows vs hc hz hM hR ih => exact .sl a c sz rows vs hc hz (fun i r j x h1 h2 => h _ _ (hM i r j x h1 h2)) ih
  | eptr a cells o vs hM hR ih => exact .eptr a cells o vs (fun j x h1 => h _ _ (hM j x h1)) ih

inductive VR (g : G) : Value → V → Prop
  | rd {v : Value} {x : V} (h : Rd g.M v x) : VR g v x
  | nl (sz : Nat) : VR g (.slice none 0 0) (.nl sz)
  | ap (l t sz : Nat) (rows : List (List V)) (v h : Value) (hr : Rd g.M v (.sl sz rows)) (hb : g.β l t = some (.tok h)) (hl : rows.length ≤ slen h) (he : slen h = rows.length → v = h) : VR g v (.ap l t sz rows)
  | row (l t sz b n c : Nat) (hb : g.β l t = some (.row sz b n c)) : VR g (.slice (some ⟨b, 0, none⟩) n c) (.row l t)
  | ptr (l t o b : Nat) (hb : g.β l t = some (.box b)) : VR g (.pointer (some ⟨b, o, none⟩)) (.ptr l t o)
  | rptr (l t i o sz b n c : Nat) (hb : g.β l t = some (.row sz b n c)) : VR g (.pointer (some ⟨b, i * sz + o, none⟩)) (.rptr l t i o)
  | mp (l t r : Nat) (hb : g.β l t = some (.mp r)) : VR g (.map (some r)) (.mp l t)
  | fn (f : FuncId) (as bs : List V) (vs ws : List Value) (h1 : vs.length = as.length) (h2 : ws.length = bs.length)
      (h3 : ∀ (i : Nat) v x, vs[i]? = some v → as[i]? = some x → VR g v x) (h4 : ∀ (i : Nat) v x, ws[i]? = some v → bs[i]? = some x → VR g v x) : VR g (.func (.func f) vs.toArray ws.toArray) (.fn f as bs)
  | ifc (T : TypeId) (v : Value) (x : V) (h : VR g v x) : VR g (.iface T v) (.ifc T x)
  | nili : VR g .nilIface .nili
  | nilp : VR g (.pointer none) .nilp
  | nilm : VR g (.map none) .nilm
  | nilf : VR g .nilFunc .nilf
  | agg (vs : List Value) (xs : List V) (h1 : vs.length = xs.length) (h2 : ∀ (i : Nat) v x, vs[i]? = some v → xs[i]? = some x → VR g v x) (h3 : ∀ x ∈ xs, x.atom = true) : VR g (.agg vs.toArray) (.agg xs)
  | tup (vs : List Value) (xs : List V) (h1 : vs.length = xs.length) (h2 : ∀ (i : Nat) v x, vs[i]? = some v → xs[i]? = some x → VR g v x) : VR g (.tuple vs.toArray) (.tup xs)
  | dead : VR g undef .dead

/-- A box may have grown. -/
def Hle : H → H → Prop
  | .tok h, .tok h' => h' = h ∨ slen h < slen h'
  | a, b => a = b
theorem Hle.refl (a : H) : Hle a a := by cases a <;> simp [Hle]
theorem Hle.trans {a b c : H} (h : Hle a b) (k : Hle b c) : Hle a c := by
  cases a <;> cases b <;> simp only [Hle, reduceCtorEq] at h <;> cases c <;> simp only [Hle, reduceCtorEq] at k ⊢ <;> try simp_all
  rcases h with rfl | h <;> rcases k with rfl | k <;> first | exact .inl rfl | exact .inr h | exact .inr k | exact .inr (Nat.lt_trans h k)

/-- What holds of all levels from k on stays. -/
structure Ext (k : Nat) (g g' : G) : Prop where
  mem : ∀ a v, g.M a = some v → g'.M a = some v
  box : ∀ l t h, k ≤ l → g.β l t = some h → ∃ h', g'.β l t = some h' ∧ Hle h h'
theorem Ext.refl (k : Nat) (g : G) : Ext k g g := ⟨fun _ _ h => h, fun _ _ h _ hb => ⟨h, hb, Hle.refl h⟩⟩
theorem Ext.trans {k : Nat} {a b c : G} (h : Ext k a b) (h' : Ext k b c) : Ext k a c :=
  ⟨fun x v hx => h'.mem _ _ (h.mem _ _ hx), fun l t x hl hx => by
    obtain ⟨y, hy, e⟩ := h.box l t x hl hx
    obtain ⟨z, hz, e'⟩ := h'.box l t y hl hy
    exact ⟨z, hz, e.trans e'⟩⟩
theorem Ext.mono {k k' : Nat} {g g' : G} (h : Ext k g g') (hk : k ≤ k') : Ext k' g g' := ⟨h.mem, fun l t x hl => h.box l t x (Nat.le_trans hk hl)⟩
theorem Ext.up {k : Nat} {g g' : G} (h : Ext k g g') : Ext 0 (g.up k) (g'.up k) :=
  ⟨h.mem, fun l t x _ hb => h.box (l + k) t x (by omega) hb⟩

theorem VR.mono {g g' : G} (h : Ext 0 g g') {v : Value} {x : V} (hv : VR g v x) : VR g' v x := by
  induction hv with
  | rd hr => exact .rd (hr.mono h.mem)
  | nl sz => exact .nl sz
  | ap l t sz rows v hd hr hb hl he =>
    obtain ⟨h', hb', hle⟩ := h.box l t _ (Nat.zero_le _) hb
    cases h' <;> simp only [Hle, reduceCtorEq] at hle
    rcases hle with rfl | hlt
    · exact .ap l t sz rows _ _ (hr.mono h.mem) hb' hl he
    · exact .ap l t sz rows _ _ (hr.mono h.mem) hb' (by omega) (fun e => by omega)
  | row l t sz b n c hb =>
    obtain ⟨h', hb', hle⟩ := h.box l t _ (Nat.zero_le _) hb
    simp only [Hle] at hle
    subst hle
    exact .row l t sz b n c hb'
  | ptr l t o b hb =>
    obtain ⟨h', hb', hle⟩ := h.box l t _ (Nat.zero_le _) hb
    simp only [Hle] at hle
    subst hle
    exact .ptr l t o b hb'
  | rptr l t i o sz b n c hb =>
    obtain ⟨h', hb', hle⟩ := h.box l t _ (Nat.zero_le _) hb
    simp only [Hle] at hle
    subst hle
    exact .rptr l t i o sz b n c hb'
  | mp l t r hb =>
    obtain ⟨h', hb', hle⟩ := h.box l t _ (Nat.zero_le _) hb
    simp only [Hle] at hle
    subst hle
    exact .mp l t r hb'
  | fn f as bs vs ws h1 h2 h3 h4 i3 i4 => exact .fn f as bs vs ws h1 h2 i3 i4
  | ifc T v x hx ih => exact .ifc T v x ih
  | nili => exact .nili
  | nilp => exact .nilp
  | nilm => exact .nilm
  | nilf => exact .nilf
  | agg vs xs h1 h2 h3 ih => exact .agg vs xs h1 ih h3
  | tup vs xs h1 h2 ih => exact .tup vs xs h1 ih
  | dead => exact .dead

/-! ### levels -/
theorem shL_length (k : Nat) : ∀ l : List V, (V.shL k l).length = l.length
  | [] => rfl
  | v :: r => by simp [V.shL, shL_length k r]
theorem shL_get (k : Nat) : ∀ (l : List V) (i : Nat), (V.shL k l)[i]? = (l[i]?).map (V.sh k)
  | [], i => by simp [V.shL]
  | v :: r, 0 => by simp [V.shL]
  | v :: r, i + 1 => by simp [V.shL, shL_get k r i]
theorem sh_atom (k : Nat) (x : V) : (x.sh k).atom = x.atom := by cases x <;> rfl

theorem Rd.sh {M : Mem} {v : Value} {x : V} (h : Rd M v x) (k : Nat) : x.sh k = x := by cases h <;> rfl

/-- A value, seen from k frames further in. -/
theorem VR.sh {g : G} {k : Nat} {v : Value} {x : V} (hv : VR (g.up k) v x) : VR g v (x.sh k) := by
  induction hv with
  | rd hr => rw [hr.sh]; exact .rd hr
  | nl sz => exact .nl sz
  | ap l t sz rows v hd hr hb hl he => exact .ap (l + k) t sz rows v hd hr hb hl he
  | row l t sz b n c hb => exact .row (l + k) t sz b n c hb
  | ptr l t o b hb => exact .ptr (l + k) t o b hb
  | rptr l t i o sz b n c hb => exact .rptr (l + k) t i o sz b n c hb
  | mp l t r hb => exact .mp (l + k) t r hb
  | fn f as bs vs ws h1 h2 h3 h4 i3 i4 =>
    refine .fn f _ _ vs ws (by rw [h1, shL_length]) (by rw [h2, shL_length]) (fun i v x hv hx => ?_) (fun i v x hv hx => ?_)
    · rw [shL_get] at hx
      obtain ⟨y, hy, rfl⟩ := Option.map_eq_some_iff.1 hx
      exact i3 i v y hv hy
    · rw [shL_get] at hx
      obtain ⟨y, hy, rfl⟩ := Option.map_eq_some_iff.1 hx
      exact i4 i v y hv hy
  | ifc T v x hx ih => exact .ifc T v _ ih
  | nili => exact .nili
  | nilp => exact .nilp
  | nilm => exact .nilm
  | nilf => exact .nilf
  | agg vs xs h1 h2 h3 ih =>
    refine .agg vs _ (by rw [h1, shL_length]) (fun i v x hv hx => ?_) (fun x hx => ?_)
    · rw [shL_get] at hx
      obtain ⟨y, hy, rfl⟩ := Option.map_eq_some_iff.1 hx
      exact ih i v y hv hy
    · obtain ⟨i, hi⟩ := List.mem_iff_getElem?.1 hx
      rw [shL_get] at hi
      obtain ⟨y, hy, rfl⟩ := Option.map_eq_some_iff.1 hi
      rw [sh_atom]
      exact h3 y (List.mem_iff_getElem?.2 ⟨i, hy⟩)
  | tup vs xs h1 h2 ih =>
    refine .tup vs _ (by rw [h1, shL_length]) (fun i v x hv hx => ?_)
    rw [shL_get] at hx
    obtain ⟨y, hy, rfl⟩ := Option.map_eq_some_iff.1 hx
    exact ih i v y hv hy
  | dead => exact .dead

theorem VR.upV {g : G} {k : Nat} {v : Value} {x : V} (hv : VR (g.up k) v x) : VR g v (x.up k) := by
  cases k with
  | zero => exact hv
  | succ k => exact hv.sh

theorem unL_some {k : Nat} : ∀ {l l' : List V}, V.unL k l = some l' → l'.length = l.length ∧ ∀ (i : Nat) x, l[i]? = some x → ∃ y, V.un k x = some y ∧ l'[i]? = some y
  | [], l', h => by simp only [V.unL, Option.some.injEq] at h; subst h; simp
  | v :: r, l', h => by
    simp only [V.unL] at h
    split at h
    · rename_i v' r' h1 h2
      simp only [Option.some.injEq] at h
      subst h
      obtain ⟨e, hg⟩ := unL_some h2
      refine ⟨by simp [e], fun i x hx => ?_⟩
      cases i with
      | zero => simp only [List.getElem?_cons_zero, Option.some.injEq] at hx; subst hx; exact ⟨v', h1, rfl⟩
      | succ i => exact hg i x hx
    · cases h
theorem un_atom {k : Nat} {x y : V} (h : V.un k x = some y) (hx : x.atom = true) : y.atom = true := by
  cases x <;> simp only [V.un, V.atom, Bool.false_eq_true] at h hx <;> (try split at h) <;> (try (cases h; rfl)) <;> cases h

theorem Rd.un {M : Mem} {v : Value} {x : V} (h : Rd M v x) (k : Nat) : V.un k x = some x := by cases h <;> rfl

/-- A value, seen from k frames further out. -/
theorem VR.un {g : G} {k : Nat} {v : Value} {x : V} (hv : VR g v x) : ∀ {y : V}, V.un k x = some y → VR (g.up k) v y := by
  have back : ∀ {l : Nat} (t : Nat), k ≤ l → (g.up k).β (l - k) t = g.β l t := fun {l} t hl => by simp only [G.up]; rw [Nat.sub_add_cancel hl]
  induction hv with
  | rd hr => intro y hy; rw [hr.un] at hy; cases hy; exact .rd hr
  | nl sz => intro y hy; cases hy; exact .nl sz
  | ap l t sz rows v hd hr hb hl he =>
    intro y hy
    simp only [V.un] at hy
    split at hy
    · rename_i hk
      cases hy
      exact .ap (l - k) t sz rows v hd hr ((back t hk).trans hb) hl he
    · cases hy
      exact .rd hr
  | row l t sz b n c hb =>
    intro y hy
    simp only [V.un] at hy
    split at hy
    · rename_i hk
      cases hy
      exact .row (l - k) t sz b n c ((back t hk).trans hb)
    · cases hy
  | ptr l t o b hb =>
    intro y hy
    simp only [V.un] at hy
    split at hy
    · rename_i hk
      cases hy
      exact .ptr (l - k) t o b ((back t hk).trans hb)
    · cases hy
  | rptr l t i o sz b n c hb =>
    intro y hy
    simp only [V.un] at hy
    split at hy
    · rename_i hk
      cases hy
      exact .rptr (l - k) t i o sz b n c ((back t hk).trans hb)
    · cases hy
  | mp l t r hb =>
    intro y hy
    simp only [V.un] at hy
    split at hy
    · rename_i hk
      cases hy
      exact .mp (l - k) t r ((back t hk).trans hb)
    · cases hy
  | fn f as bs vs ws h1 h2 h3 h4 i3 i4 =>
    intro y hy
    simp only [V.un] at hy
    split at hy
    · rename_i a' b' ha hb
      cases hy
      obtain ⟨ea, ga⟩ := unL_some ha
      obtain ⟨eb, gb⟩ := unL_some hb
      refine .fn f a' b' vs ws (by omega) (by omega) (fun i v x hv hx => ?_) (fun i v x hv hx => ?_)
      · obtain ⟨z, hz⟩ : ∃ z, as[i]? = some z := by
          have : i < as.length := by have := (List.getElem?_eq_some_iff.1 hx).1; omega
          exact ⟨_, List.getElem?_eq_getElem this⟩
        obtain ⟨y, hy, hx'⟩ := ga i z hz
        rw [hx] at hx'
        cases hx'
        exact i3 i v z hv hz hy
      · obtain ⟨z, hz⟩ : ∃ z, bs[i]? = some z := by
          have : i < bs.length := by have := (List.getElem?_eq_some_iff.1 hx).1; omega
          exact ⟨_, List.getElem?_eq_getElem this⟩
        obtain ⟨y, hy, hx'⟩ := gb i z hz
        rw [hx] at hx'
        cases hx'
        exact i4 i v z hv hz hy
    · cases hy
  | ifc T v x hx ih =>
    intro y hy
    simp only [V.un] at hy
    split at hy
    · rename_i z hz
      cases hy
      exact .ifc T v z (ih hz)
    · cases hy
  | nili => intro y hy; cases hy; exact .nili
  | nilp => intro y hy; cases hy; exact .nilp
  | nilm => intro y hy; cases hy; exact .nilm
  | nilf => intro y hy; cases hy; exact .nilf
  | agg vs xs h1 h2 h3 ih =>
    intro y hy
    simp only [V.un] at hy
    split at hy
    · rename_i a' ha
      cases hy
      obtain ⟨ea, ga⟩ := unL_some ha
      have old : ∀ i x, a'[i]? = some x → ∃ z, xs[i]? = some z ∧ V.un k z = some x := fun i x hx => by
        have : i < xs.length := by have := (List.getElem?_eq_some_iff.1 hx).1; omega
        obtain ⟨y, hy, hx'⟩ := ga i _ (List.getElem?_eq_getElem this)
        rw [hx] at hx'
        cases hx'
        exact ⟨_, List.getElem?_eq_getElem this, hy⟩
      refine .agg vs a' (by omega) (fun i v x hv hx => ?_) (fun x hx => ?_)
      · obtain ⟨z, hz, hu⟩ := old i x hx
        exact ih i v z hv hz hu
      · obtain ⟨i, hi⟩ := List.mem_iff_getElem?.1 hx
        obtain ⟨z, hz, hu⟩ := old i x hi
        exact un_atom hu (h3 z (List.mem_iff_getElem?.2 ⟨i, hz⟩))
    · cases hy
  | tup vs xs h1 h2 ih =>
    intro y hy
    simp only [V.un] at hy
    split at hy
    · rename_i a' ha
      cases hy
      obtain ⟨ea, ga⟩ := unL_some ha
      refine .tup vs a' (by omega) (fun i v x hv hx => ?_)
      have : i < xs.length := by have := (List.getElem?_eq_some_iff.1 hx).1; omega
      obtain ⟨y, hy, hx'⟩ := ga i _ (List.getElem?_eq_getElem this)
      rw [hx] at hx'
      cases hx'
      exact ih i v _ hv (List.getElem?_eq_getElem this) hy
    · cases hy
  | dead => intro y hy; cases hy; exact .dead
theorem VR.downV {g : G} {k : Nat} {v : Value} {x y : V} (hv : VR g v x) (h : V.down k x = some y) : VR (g.up k) v y := by
  cases k with
  | zero => cases h; exact hv
  | succ k => exact hv.un h

/-! ### what a shadow says of a value -/
section
variable {g : G} {v : Value}
theorem VR.int_inv {k : IntKind} {n : Int} (h : VR g v (.int k n)) : v = .int k n := by cases h with | rd h => cases h; rfl
theorem VR.bool_inv {b : Bool} (h : VR g v (.bool b)) : v = .bool b := by cases h with | rd h => cases h; rfl
theorem VR.str_inv {s : ByteArray} (h : VR g v (.str s)) : v = .string s := by cases h with | rd h => cases h; rfl
theorem VR.dead_inv (h : VR g v .dead) : v = undef := by
  cases h with
  | rd h => cases h
  | dead => rfl
theorem VR.nl_inv {sz : Nat} (h : VR g v (.nl sz)) : v = .slice none 0 0 := by
  cases h with
  | rd h => cases h
  | nl => rfl
theorem VR.nili_inv (h : VR g v .nili) : v = .nilIface := by
  cases h with
  | rd h => cases h
  | nili => rfl
theorem VR.sl_inv {sz : Nat} {rows : List (List V)} (h : VR g v (.sl sz rows)) : Rd g.M v (.sl sz rows) := by cases h with | rd h => exact h
theorem VR.ap_inv {l t sz : Nat} {rows : List (List V)} (h : VR g v (.ap l t sz rows)) : Rd g.M v (.sl sz rows) ∧ ∃ hd, g.β l t = some (.tok hd) ∧ rows.length ≤ slen hd ∧ (slen hd = rows.length → v = hd) := by
  cases h with
  | rd h => cases h
  | ap _ _ _ _ _ hd hr hb hl he => exact ⟨hr, hd, hb, hl, he⟩
theorem VR.row_inv {l t : Nat} (h : VR g v (.row l t)) : ∃ sz b n c, g.β l t = some (.row sz b n c) ∧ v = .slice (some ⟨b, 0, none⟩) n c := by
  cases h with
  | rd h => cases h
  | row _ _ sz b n c hb => exact ⟨sz, b, n, c, hb, rfl⟩
theorem VR.ptr_inv {l t o : Nat} (h : VR g v (.ptr l t o)) : ∃ b, g.β l t = some (.box b) ∧ v = .pointer (some ⟨b, o, none⟩) := by
  cases h with
  | rd h => cases h
  | ptr _ _ _ b hb => exact ⟨b, hb, rfl⟩
theorem VR.rptr_inv {l t i o : Nat} (h : VR g v (.rptr l t i o)) : ∃ sz b n c, g.β l t = some (.row sz b n c) ∧ v = .pointer (some ⟨b, i * sz + o, none⟩) := by
  cases h with
  | rd h => cases h
  | rptr _ _ _ _ sz b n c hb => exact ⟨sz, b, n, c, hb, rfl⟩
theorem VR.eptr_inv {cells : List V} {o : Nat} (h : VR g v (.eptr cells o)) : ∃ (a : Addr) (vs : Nat → Value), v = .pointer (some (a.add o)) ∧ (∀ j x, cells[j]? = some x → g.M (a.add j) = some (vs j)) ∧ (∀ j x, cells[j]? = some x → Rd g.M (vs j) x) := by
  cases h with | rd h => cases h with | eptr a _ _ vs hM hR => exact ⟨a, vs, rfl, hM, hR⟩
theorem VR.mp_inv {l t : Nat} (h : VR g v (.mp l t)) : ∃ r, g.β l t = some (.mp r) ∧ v = .map (some r) := by
  cases h with
  | rd h => cases h
  | mp _ _ r hb => exact ⟨r, hb, rfl⟩
theorem VR.fn_inv {f : FuncId} {as bs : List V} (h : VR g v (.fn f as bs)) : ∃ vs ws : List Value, v = .func (.func f) vs.toArray ws.toArray ∧ vs.length = as.length ∧ ws.length = bs.length ∧ (∀ (i : Nat) v x, vs[i]? = some v → as[i]? = some x → VR g v x) ∧ (∀ (i : Nat) v x, ws[i]? = some v → bs[i]? = some x → VR g v x) := by
  cases h with
  | rd h => cases h
  | fn _ _ _ vs ws h1 h2 h3 h4 => exact ⟨vs, ws, rfl, h1, h2, h3, h4⟩
theorem VR.ifc_inv {T : TypeId} {x : V} (h : VR g v (.ifc T x)) : ∃ u, v = .iface T u ∧ VR g u x := by
  cases h with
  | rd h => cases h
  | ifc _ u _ h => exact ⟨u, rfl, h⟩
theorem VR.agg_inv {xs : List V} (h : VR g v (.agg xs)) : ∃ vs : List Value, v = .agg vs.toArray ∧ vs.length = xs.length ∧ (∀ (i : Nat) v x, vs[i]? = some v → xs[i]? = some x → VR g v x) ∧ ∀ x ∈ xs, x.atom = true := by
  cases h with
  | rd h => cases h
  | agg vs _ h1 h2 h3 => exact ⟨vs, rfl, h1, h2, h3⟩
theorem VR.tup_inv {xs : List V} (h : VR g v (.tup xs)) : ∃ vs : List Value, v = .tuple vs.toArray ∧ vs.length = xs.length ∧ (∀ (i : Nat) v x, vs[i]? = some v → xs[i]? = some x → VR g v x) := by
  cases h with
  | rd h => cases h
  | tup vs _ h1 h2 => exact ⟨vs, rfl, h1, h2⟩
end

/-- Is a value one cell's? -/
def one : Value → Bool
  | .agg _ | .tuple _ => false
  | _ => true
theorem VR.one {g : G} {v : Value} {x : V} (h : VR g v x) (hx : x.atom = true) : one v = true := by
  cases h with
  | rd h => cases h <;> rfl
  | ap _ _ _ _ _ _ hr => cases hr <;> rfl
  | agg => cases hx
  | tup => cases hx
  | dead => cases hx
  | _ => rfl
end Go.Shade
