/-
  Arguments: what is read as data, by its type.
-/
import Derived.Test.YtcecleclipcheaaSh22
import Derived.ProofKit
import Derived.OpenShut
set_option linter.unusedVariables false
set_option linter.unusedSimpArgs false
namespace Go.Shade
open Go Go.RowKit Go.ChangeShapes Go.WideShapes Go.ChangeAt

/-- Cells that say these shadows. -/
def CellsR (M : Mem) (cs : List Value) (xs : List V) : Prop := cs.length = xs.length ∧ ∀ (i : Nat) u x, cs[i]? = some u → xs[i]? = some x → Rd M u x

theorem exists_list {α : Type} {p : Nat → α → Prop} : ∀ n : Nat, (∀ i, i < n → ∃ x, p i x) → ∃ l : List α, l.length = n ∧ ∀ (i : Nat) x, l[i]? = some x → p i x
  | 0, _ => ⟨[], rfl, fun i x h => by simp at h⟩
  | n + 1, h => by
    obtain ⟨l, h1, h2⟩ := exists_list n fun i hi => h i (by omega)
    obtain ⟨x, hx⟩ := h n (by omega)
    refine ⟨l ++ [x], by simp [h1], fun i y hy => ?_⟩
    by_cases hi : i < l.length
    · rw [List.getElem?_append_left hi] at hy
      exact h2 i y hy
    · rw [List.getElem?_append_right (by omega)] at hy
      cases hk : i - l.length with
      | zero =>
        rw [hk] at hy
        simp at hy
        subst hy
        rw [show i = n by omega]
        exact hx
      | succ k => rw [hk] at hy; simp at hy

/-- A type whose data are read as e says. -/
structure Reads (P : Program) (t : TypeId) (α : Type) (e : α → List V) (fit : α → Prop) : Prop where
  size : ∀ x, (e x).length = P.cellsOf t
  get : ∀ {H : Type} (enc : TypeId × Value → H) (W : World) (base : Nat) (spare : Nat → Bool) (held : Bool) (fuel : Nat) (cs : List Value) (y : DataW H × List MemPlace),
    DataW.trod enc P W base spare held fuel t cs = some y → ∃ x, fit x ∧ CellsR (fun a => W.cell? a) cs (e x)

section
variable {P : Program} {t : TypeId}

theorem CellsR.one {M : Mem} {u : Value} {x : V} (h : Rd M u x) : CellsR M [u] [x] :=
  ⟨rfl, fun i v y hv hy => by
    cases i with
    | zero => simp at hv hy; subst hv; subst hy; exact h
    | succ i => simp at hv⟩

theorem Reads.int {k : IntKind} (ht : P.underlying t = some (.int k)) (hc : P.cellsOf t = 1) : Reads P t Int (fun n => [.int k n]) (fun n => (Lit.int k n).wf = true) :=
  ⟨fun x => by rw [hc]; rfl, fun enc W base spare held fuel cs y h => by
    obtain ⟨n, rfl, _, hw⟩ := DataW.trod_int ht h
    exact ⟨n, hw, CellsR.one (.int _ _)⟩⟩
theorem Reads.bool (ht : P.underlying t = some .bool) (hc : P.cellsOf t = 1) : Reads P t Bool (fun b => [.bool b]) (fun _ => True) :=
  ⟨fun x => by rw [hc]; rfl, fun enc W base spare held fuel cs y h => by
    obtain ⟨n, rfl, _⟩ := DataW.trod_bool ht h
    exact ⟨n, trivial, CellsR.one (.bool _)⟩⟩
theorem Reads.str (ht : P.underlying t = some .string) (hc : P.cellsOf t = 1) : Reads P t ByteArray (fun s => [.str s]) (fun s => s.size ≤ maxLen) :=
  ⟨fun x => by rw [hc]; rfl, fun enc W base spare held fuel cs y h => by
    obtain ⟨n, rfl, _, hw⟩ := DataW.trod_string ht h
    exact ⟨n, hw, CellsR.one (.str _)⟩⟩
theorem Reads.slice {u : TypeId} {α : Type} {e : α → List V} {fit : α → Prop} {sz : Nat} (ht : P.underlying t = some (.slice u)) (hc : P.cellsOf t = 1) (hu : P.cellsOf u = sz) (he : Reads P u α e fit) :
    Reads P t (List α) (fun l => [.sl sz (l.map e)]) (fun l => l.length ≤ maxLen ∧ ∀ x ∈ l, fit x) :=
  ⟨fun x => by rw [hc]; rfl, fun enc W base spare held fuel cs y h => by
    rcases DataW.trod_slice ht h with ⟨rfl, _⟩ | ⟨a, len, cap, elems, rest, n, _, rfl, _, hb, hl, hm, hlen, hel, _, _⟩
    · exact ⟨[], ⟨Nat.zero_le _, by simp⟩, CellsR.one (.nil _)⟩
    · have each : ∀ i, i < len → ∃ x : α, fit x ∧ ∃ vs : List Value, CellsR (fun a => W.cell? a) vs (e x) ∧ ∀ j u, vs[j]? = some u → W.cell? (a.add (i * sz + j)) = some u := by
        intro i hi
        have h1 := hel i hi
        obtain ⟨z, hz⟩ : ∃ z, elems[i]? = some z := ⟨_, List.getElem?_eq_getElem (by omega)⟩
        rw [hz] at h1
        obtain ⟨cs', h2, h3⟩ := Option.bind_eq_some_iff.1 h1
        obtain ⟨x, hx1, hx2⟩ := he.get enc W base spare held n cs' z h3
        refine ⟨x, hx1, cs', hx2, fun j u hj => ?_⟩
        obtain ⟨_, hlen', hall⟩ := World.cells?_some h2
        have hjl := (List.getElem?_eq_some_iff.1 hj).1
        have := hall j (by omega)
        rw [hj, add_add, hu] at this
        exact this
      obtain ⟨l, h1, h2⟩ := exists_list len each
      refine ⟨l, ⟨by omega, fun x hx => ?_⟩, CellsR.one ?_⟩
      · obtain ⟨i, hi⟩ := List.mem_iff_getElem?.1 hx
        exact (h2 i x hi).1
      · have hlm : (l.map e).length = len := by simp [h1]
        rw [← hlm]
        refine .sl a cap sz (l.map e) (fun i j => (W.cell? (a.add (i * sz + j))).getD undef) (by omega) (fun r hr => ?_) (fun i r j x hr hx => ?_) (fun i r j x hr hx => ?_)
        · obtain ⟨q, _, rfl⟩ := List.mem_map.1 hr
          rw [he.size, hu]
        · rw [List.getElem?_map] at hr
          obtain ⟨q, hq, rfl⟩ := Option.map_eq_some_iff.1 hr
          obtain ⟨_, vs, hv1, hv2⟩ := h2 i q hq
          obtain ⟨u', hu'⟩ : ∃ u, vs[j]? = some u := ⟨_, List.getElem?_eq_getElem (by have := (List.getElem?_eq_some_iff.1 hx).1; have := hv1.1; omega)⟩
          rw [hv2 j u' hu']
          rfl
        · rw [List.getElem?_map] at hr
          obtain ⟨q, hq, rfl⟩ := Option.map_eq_some_iff.1 hr
          obtain ⟨_, vs, hv1, hv2⟩ := h2 i q hq
          obtain ⟨u', hu'⟩ : ∃ u, vs[j]? = some u := ⟨_, List.getElem?_eq_getElem (by have := (List.getElem?_eq_some_iff.1 hx).1; have := hv1.1; omega)⟩
          rw [hv2 j u' hu']
          exact hv1.2 j u' x hu' hx⟩

/-- The fields of a struct from offset o on. -/
inductive FReads (P : Program) : List Field → Nat → (α : Type) → (α → List V) → (α → Prop) → Prop
  | nil (o : Nat) : FReads P [] o Unit (fun _ => []) (fun _ => True)
  | cons {f : Field} {fs : List Field} {o : Nat} {α β : Type} {e : α → List V} {e' : β → List V} {p : α → Prop} {p' : β → Prop} (n : Nat) (ho : f.offset = o) (hn : P.cellsOf f.type = n) (h : Reads P f.type α e p) (r : FReads P fs (o + n) β e' p') :
      FReads P (f :: fs) o (α × β) (fun x => e x.1 ++ e' x.2) (fun x => p x.1 ∧ p' x.2)

theorem FReads.get {fs : List Field} {o : Nat} {α : Type} {e : α → List V} {p : α → Prop} (h : FReads P fs o α e p) : ∃ n, n = (fs.map fun f => P.cellsOf f.type).sum ∧ (∀ x, (e x).length = n) ∧
    ∀ {H : Type} (enc : TypeId × Value → H) (W : World) (base : Nat) (spare : Nat → Bool) (held : Bool) (fuel : Nat) (cs : List Value), cs.length = o + n →
      (∀ f ∈ fs, ∃ y, DataW.trod enc P W base spare held fuel f.type ((cs.drop f.offset).take (P.cellsOf f.type)) = some y) → ∃ x, p x ∧ CellsR (fun a => W.cell? a) (cs.drop o) (e x) := by
  induction h with
  | nil o => exact ⟨0, rfl, fun _ => rfl, fun enc W base spare held fuel cs hl _ => ⟨(), trivial, by simp [List.drop_eq_nil_of_le (by omega : cs.length ≤ o)], fun i u x hu hx => by simp at hx⟩⟩
  | @cons f fs o α β e e' p p' n ho hn hr _ ih =>
    obtain ⟨m, hsum, hm, hget⟩ := ih
    refine ⟨n + m, by rw [List.map_cons, List.sum_cons, hn, hsum], fun x => by rw [List.length_append, hr.size, hn, hm], fun enc W base spare held fuel cs hl hall => ?_⟩
    obtain ⟨y, hy⟩ := hall f (by simp)
    obtain ⟨x, hx1, hx2⟩ := hr.get enc W base spare held fuel _ y hy
    obtain ⟨z, hz1, hz2⟩ := hget enc W base spare held fuel cs (by omega) fun f' hf' => hall f' (by simp [hf'])
    refine ⟨(x, z), ⟨hx1, hz1⟩, ?_⟩
    rw [ho, hn] at hx2
    have hxl : (e x).length = n := by rw [hr.size, hn]
    have hsplit : cs.drop o = (cs.drop o).take n ++ cs.drop (o + n) := by rw [← List.drop_drop, List.take_append_drop]
    rw [hsplit]
    refine ⟨by rw [List.length_append, List.length_append, hx2.1, hz2.1], fun i u w hu hw => ?_⟩
    by_cases hi : i < (e x).length
    · rw [List.getElem?_append_left (by rw [hx2.1]; exact hi)] at hu
      rw [List.getElem?_append_left hi] at hw
      exact hx2.2 i u w hu hw
    · rw [List.getElem?_append_right (by rw [hx2.1]; omega), hx2.1] at hu
      rw [List.getElem?_append_right (by simp only; omega)] at hw
      exact hz2.2 _ u w hu hw

theorem Reads.struct {fs : Array Field} {α : Type} {e : α → List V} {p : α → Prop} (ht : P.underlying t = some (.struct fs)) (h : FReads P fs.toList 0 α e p) (hs : (fs.toList.map fun f => P.cellsOf f.type).sum = P.cellsOf t) : Reads P t α e p := by
  obtain ⟨n, hsum, hn, hget⟩ := h.get
  refine ⟨fun x => by rw [hn, hsum, hs], fun enc W base spare held fuel cs y hy => ?_⟩
  obtain ⟨xs, m, _, _, hl, hxl, hall⟩ := DataW.trod_struct ht hy
  obtain ⟨x, hx1, hx2⟩ := hget enc W base spare held m cs (by omega) fun f hf => by
    obtain ⟨i, hi⟩ := List.mem_iff_getElem?.1 hf
    have h1 := hall i f (by simpa using hi)
    have hil := (List.getElem?_eq_some_iff.1 hi).1
    obtain ⟨z, hz⟩ : ∃ z, xs[i]? = some z := ⟨_, List.getElem?_eq_getElem (by simp at hil; omega)⟩
    exact ⟨z, by rw [h1, hz]⟩
  exact ⟨x, hx1, by simpa using hx2⟩
/-- The same data, under another name. -/
theorem Reads.iso {α β : Type} {e : α → List V} {p : α → Prop} {e' : β → List V} {p' : β → Prop} (h : Reads P t α e p) (f : α → β) (he : ∀ x, e' (f x) = e x) (hp : ∀ x, p x → p' (f x)) (hs : ∀ x, (e' x).length = P.cellsOf t) : Reads P t β e' p' :=
  ⟨hs, fun enc W base spare held fuel cs y hy => by
    obtain ⟨x, h1, h2⟩ := h.get enc W base spare held fuel cs y hy
    exact ⟨f x, hp x h1, by rw [he]; exact h2⟩⟩

/-! ### a call's arguments -/
/-- The world that a call begins in: all that is there is read alone. -/
def G.all (W : World) : G := { M := fun a => W.cell? a, β := fun _ _ => none }
theorem wr_all (W : World) : WR W (fun _ => none) (G.all W) [] W :=
  ⟨Below.refl _ _, fun _ _ h => h, fun _ _ h => (by cases h), fun l t b h => (by cases h), fun l t x h => (by cases h), fun l t x k h => (by cases h), fun l t l' t' x x' k h => (by cases h), fun l t x k b h => (by cases h)⟩

/-- An argument's shadow: of one cell, or a struct. -/
def argV (P : Program) (t : TypeId) (cs : List V) : V :=
  match P.underlying t with
  | some (.struct _) => .agg cs
  | _ => match cs with
    | [x] => x
    | _ => .dead
theorem Rd.atoms {M : Mem} {cs : List Value} {xs : List V} (h : CellsR M cs xs) : ∀ x ∈ xs, x.atom = true := by
  intro x hx
  obtain ⟨i, hi⟩ := List.mem_iff_getElem?.1 hx
  obtain ⟨u, hu⟩ : ∃ u, cs[i]? = some u := ⟨_, List.getElem?_eq_getElem (by have := (List.getElem?_eq_some_iff.1 hi).1; have := h.1; omega)⟩
  exact (h.2 i u x hu hi).atom

theorem arg_ok {H : Type} {enc : TypeId × Value → H} {W : World} {r : Reach} {base b0 : Nat} {spare : Nat → Bool} {held : Bool} {v : Value} {d : DataW H} {ps : List MemPlace} {α : Type} {e : α → List V} {p : α → Prop} (hr : Reads P t α e p)
    (hcell : (∃ fs, P.underlying t = some (.struct fs)) ∨ (∃ u, P.underlying t = some (.slice u)) ∨ (∃ k, P.underlying t = some (.int k)) ∨ P.underlying t = some .string ∨ P.underlying t = some .bool) (hone : (∀ fs, P.underlying t ≠ some (.struct fs)) → P.cellsOf t = 1)
    (hval : Value.okWide P W r b0 t v) (h : DataW.Trod enc P W base spare held t v d ps) : ∃ x, p x ∧ VR (G.all W) v (argV P t (e x)) := by
  obtain ⟨fuel, hf⟩ := h
  obtain ⟨x, hx1, hx2⟩ := hr.get enc W base spare held fuel _ _ hf
  refine ⟨x, hx1, ?_⟩
  by_cases hs : ∃ fs, P.underlying t = some (.struct fs)
  · obtain ⟨fs, hu⟩ := hs
    obtain ⟨cs, rfl, _⟩ := okWide_struct hu hval
    unfold argV
    rw [hu]
    simp only [Value.cells] at hx2
    exact .agg cs.toList (e x) hx2.1 (fun i u y hv hy => .rd (hx2.2 i u y hv hy)) (Rd.atoms hx2)
  · have hl : (e x).length = 1 := by rw [hr.size]; exact hone fun fs hu => hs ⟨fs, hu⟩
    have he : argV P t (e x) = match e x with
      | [x] => x
      | _ => .dead := by
      unfold argV
      split
      · rename_i fs hu; exact absurd ⟨fs, hu⟩ hs
      · rfl
    rw [he]
    have hv1 : one v = true := by
      rcases hcell with ⟨fs, hu⟩ | ⟨u, hu⟩ | ⟨k, hu⟩ | hu | hu
      · exact absurd ⟨fs, hu⟩ hs
      · obtain ⟨a, l, c, rfl⟩ := okWide_slice hu hval; rfl
      · obtain ⟨n, rfl⟩ := okWide_int hu hval; rfl
      · obtain ⟨s, rfl⟩ := okWide_string hu hval; rfl
      · obtain ⟨b, rfl⟩ := okWide_bool hu hval; rfl
    rw [cells_one hv1] at hx2
    cases hex : e x with
    | nil => rw [hex] at hl; cases hl
    | cons y q =>
      cases q with
      | nil => rw [hex] at hx2; exact .rd (hx2.2 0 v y rfl rfl)
      | cons z q => rw [hex] at hl; simp at hl
end
end Go.Shade
