/-
  The operations, one by one.
-/
import Derived.Test.YtcecleclipcheaaSh7
set_option linter.unusedVariables false
set_option linter.unusedSimpArgs false
namespace Go.Shade
open Go Go.RowKit

section
variable {P : Program} {W0 : World} {Φ : Held} {g : G} {stk : Stk} {w : World}

/-! ### types -/
theorem tyAg_true {t : TypeId} {n : Nat} (h : tyAg P t = some (true, n)) : (isAgg t).run P w = .ok true w ∧ (sizeOf t).run P w = .ok n w ∧ 0 < n := by
  unfold tyAg at h
  cases hi : P.info? t with
  | none => cases hu : P.underlying t <;> simp [hi, hu] at h
  | some i =>
    cases hu : P.underlying t with
    | none => simp [hi, hu] at h
    | some d =>
      simp only [hi, hu] at h
      cases d <;> simp only at h <;> (split at h) <;> cases h <;> refine ⟨?_, ?_, by omega⟩ <;> simp [isAgg, run_underlying hu, sizeOf, typeInfo, hi]
theorem tyAg_false {t : TypeId} {n : Nat} (h : tyAg P t = some (false, n)) : (isAgg t).run P w = .ok false w ∧ (sizeOf t).run P w = .ok 1 w ∧ n = 1 := by
  unfold tyAg at h
  cases hi : P.info? t with
  | none => cases hu : P.underlying t <;> simp [hi, hu] at h
  | some i =>
    cases hu : P.underlying t with
    | none => simp [hi, hu] at h
    | some d =>
      simp only [hi, hu] at h
      cases d <;> simp only at h <;> (split at h) <;> cases h <;> rename_i he <;> refine ⟨?_, ?_, rfl⟩ <;> simp [isAgg, run_underlying hu, sizeOf, typeInfo, hi, he]
theorem tyAg_size {t : TypeId} {b : Bool} {n : Nat} (h : tyAg P t = some (b, n)) : (sizeOf t).run P w = .ok n w ∧ 0 < n := by
  cases b with
  | true => exact ⟨(tyAg_true (w := w) h).2.1, (tyAg_true (w := w) h).2.2⟩
  | false => obtain ⟨_, h2, rfl⟩ := tyAg_false (w := w) h; exact ⟨h2, by omega⟩

/-! ### zero values -/
theorem sameZ_ok {x : V} {v : Value} (h : sameZ x v = true) : VR g v x ∧ x.atom = true := by
  unfold sameZ at h
  split at h
  · simp only [Bool.and_eq_true, beq_iff_eq] at h; obtain ⟨rfl, rfl⟩ := h; exact ⟨.rd (.int _ _), rfl⟩
  · simp only [beq_iff_eq] at h; subst h; exact ⟨.rd (.bool _), rfl⟩
  · rename_i s s'
    simp only [beq_iff_eq] at h
    have : s = s' := by cases s; cases s'; simp_all
    subst this
    exact ⟨.rd (.str _), rfl⟩
  · exact ⟨.nl _, rfl⟩
  · exact ⟨.nilp, rfl⟩
  · exact ⟨.nilm, rfl⟩
  · exact ⟨.nili, rfl⟩
  · exact ⟨.nilf, rfl⟩
  · cases h
theorem sameZs_ok : ∀ {xs : List V} {vs : List Value}, sameZs xs vs = true → vs.length = xs.length ∧ (∀ (i : Nat) v x, vs[i]? = some v → xs[i]? = some x → VR g v x) ∧ ∀ x ∈ xs, x.atom = true
  | [], [], _ => ⟨rfl, fun i v x h => by simp at h, fun x h => by simp at h⟩
  | [], _ :: _, h => by simp [sameZs] at h
  | _ :: _, [], h => by simp [sameZs] at h
  | x :: xs, v :: vs, h => by
    simp only [sameZs, Bool.and_eq_true] at h
    obtain ⟨h1, h2⟩ := h
    obtain ⟨e, hr, ha⟩ := sameZs_ok h2
    obtain ⟨hv, hx⟩ := sameZ_ok (g := g) h1
    refine ⟨by simp [e], fun i u y hu hy => ?_, fun y hy => ?_⟩
    · cases i with
      | zero => simp at hu hy; subst hu; subst hy; exact hv
      | succ i => exact hr i u y (by simpa using hu) (by simpa using hy)
    · rcases List.mem_cons.1 hy with rfl | hy
      · exact hx
      · exact ha y hy
theorem zeroC_ok {t : TypeId} {cs : List V} (h : zeroC P t = some cs) : ∃ i z, P.info? t = some i ∧ i.zero = some z ∧ i.size = cs.length ∧ z.cells.size = cs.length ∧ (∀ (j : Nat) v x, z.cells[j]? = some v → cs[j]? = some x → VR g v x) ∧ ∀ x ∈ cs, x.atom = true := by
  unfold zeroC at h
  split at h
  · rename_i cs' i hz hi
    split at h
    · rename_i z hzz
      split at h
      · rename_i hc
        cases h
        simp only [Bool.and_eq_true, beq_iff_eq] at hc
        obtain ⟨e, hr, ha⟩ := sameZs_ok (g := g) hc.1
        exact ⟨i, z, hi, hzz, hc.2, by simpa using e, fun j v x hv hx => hr j v x (by simpa using hv) hx, ha⟩
      · cases h
    · cases h
  · cases h
theorem run_zero {t : TypeId} {i : TypeInfo} {z : Value} (hi : P.info? t = some i) (hz : i.zero = some z) : (zeroValue t).run P w = .ok z w := by simp [zeroValue, typeInfo, hi, hz]

/-! ### alloc, box -/
theorem alloc_ok (h : WR W0 Φ g stk w) {t : TypeId} {cs : List V} (hz : zeroC P t = some cs) {d : Option Nat} {r : V × Stk} (hr : mkV stk d (.cells cs) (fun d => .ptr 0 d 0) = some r) (old : Value) :
    OK W0 Φ g r ((Instr.alloc t true old).run P w) := by
  obtain ⟨i, z, hi, hzz, h1, h2, h3, h4⟩ := zeroC_ok (g := g) hz
  obtain ⟨d', f, q, rfl, rfl, hd, rfl⟩ := mkV_some_inv hr
  have := new_box h hd z.cells t cs h2 h3 h4
  have e : (Instr.alloc t true old).run P w = .ok (.pointer (some ⟨w.heap.size, 0, none⟩)) (w.alloc (.cells z.cells t)) := by
    simp [Instr.alloc, run_zero hi hzz, newVar, newRow]
  rw [e]
  exact this
theorem box_ok (h : WR W0 Φ g stk w) {t : TypeId} {v : Value} {x : V} (hv : VR g v x) {b : Bool} {n : Nat} (ht : tyAg P t = some (b, n)) (hn : x.cs.length = n) {d : Option Nat} {r : V × Stk} (hr : mkV stk d (.cells x.cs) (fun d => .ptr 0 d 0) = some r) :
    OK W0 Φ g r ((Instr.box t v).run P w) := by
  have hpos := (tyAg_size (w := w) ht).2
  obtain ⟨d', f, q, rfl, rfl, hd, rfl⟩ := mkV_some_inv hr
  obtain ⟨h1, h2, h3⟩ := cells_ok hv (by intro e; rw [e] at hn; simp at hn; omega)
  have e : (Instr.box t v).run P w = .ok (.pointer (some ⟨w.heap.size, 0, none⟩)) (w.alloc (.cells v.cells t)) := by simp [Instr.box, newVar, newRow]
  rw [e]
  exact new_box h hd v.cells t x.cs h1 h2 h3

/-! ### lists of cells -/
def PW (g : G) (vs : List Value) (xs : List V) : Prop := vs.length = xs.length ∧ (∀ (i : Nat) v x, vs[i]? = some v → xs[i]? = some x → VR g v x) ∧ ∀ x ∈ xs, x.atom = true
theorem PW.append {vs us : List Value} {xs ys : List V} (h : PW g vs xs) (k : PW g us ys) : PW g (vs ++ us) (xs ++ ys) := by
  refine ⟨by simp [h.1, k.1], fun i v x hv hx => ?_, fun x hx => ?_⟩
  · by_cases hi : i < vs.length
    · rw [List.getElem?_append_left hi] at hv
      rw [List.getElem?_append_left (by rw [← h.1]; exact hi)] at hx
      exact h.2.1 i v x hv hx
    · rw [List.getElem?_append_right (by omega)] at hv
      rw [List.getElem?_append_right (by rw [← h.1]; omega), ← h.1] at hx
      exact k.2.1 _ v x hv hx
  · rcases List.mem_append.1 hx with hx | hx
    · exact h.2.2 x hx
    · exact k.2.2 x hx
theorem PW.take {vs : List Value} {xs : List V} (h : PW g vs xs) (n : Nat) : PW g (vs.take n) (xs.take n) := by
  refine ⟨by simp [h.1], fun i v x hv hx => ?_, fun x hx => h.2.2 x (List.mem_of_mem_take hx)⟩
  rw [List.getElem?_take] at hv hx
  split at hv
  · rename_i hi; rw [if_pos hi] at hx; exact h.2.1 i v x hv hx
  · cases hv
theorem PW.drop {vs : List Value} {xs : List V} (h : PW g vs xs) (n : Nat) : PW g (vs.drop n) (xs.drop n) := by
  refine ⟨by simp [h.1], fun i v x hv hx => ?_, fun x hx => h.2.2 x (List.mem_of_mem_drop hx)⟩
  rw [List.getElem?_drop] at hv hx
  exact h.2.1 _ v x hv hx
theorem PW.spl {vs us : List Value} {xs ys : List V} (h : PW g vs xs) (k : PW g us ys) (o : Nat) : PW g (spl vs o us) (spl xs o ys) := by
  unfold Shade.spl
  rw [k.1]
  exact ((h.take o).append k).append (h.drop _)
theorem PW.agg {vs : List Value} {xs : List V} (h : PW g vs xs) : VR g (.agg vs.toArray) (.agg xs) := .agg vs xs h.1 h.2.1 h.2.2
theorem PW.of_cells {v : Value} {x : V} (h : VR g v x) (hx : x.cs ≠ []) : PW g v.cells.toList x.cs := by
  obtain ⟨h1, h2, h3⟩ := cells_ok h hx
  exact ⟨by simpa using h1, fun i u y hu hy => h2 i u y (by simpa using hu) hy, h3⟩
theorem spl_length {α : Type} {cs xs : List α} {o : Nat} (h : o + xs.length ≤ cs.length) : (spl cs o xs).length = cs.length := by
  simp [spl]; omega

theorem fold_spl (off : Nat) (v : Value) (cells : Array Value) (h : off + v.cells.size ≤ cells.size) :
    (v.cells.zipIdx.foldl (fun cs (x : Value × Nat) => cs.setIfInBounds (off + x.2) x.1) cells) = (spl cells.toList off v.cells.toList).toArray := by
  have hf : v.cells.zipIdx.foldl (fun cs (x : Value × Nat) => cs.setIfInBounds (off + x.2) x.1) cells = (v.cells.toList.zipIdx 0).foldl (fun cs (x : Value × Nat) => cs.setIfInBounds (off + x.2) x.1) cells := by
    rw [← Array.foldl_toList, Array.toList_zipIdx]
  rw [hf]
  obtain ⟨h1, h2⟩ := Go.Great.foldl_set off v.cells.toList 0 cells
  apply Array.ext_getElem?
  intro k
  rw [h2 k]
  simp only [Nat.add_zero, Array.length_toList, List.getElem?_toArray, spl]
  by_cases hk : off ≤ k ∧ k < off + v.cells.size ∧ k < cells.size
  · rw [if_pos hk, List.append_assoc, List.getElem?_append_right (by simp; omega)]
    rw [List.getElem?_append_left (by simp; omega)]
    congr 1
    simp
    omega
  · rw [if_neg hk]
    by_cases hlt : k < off
    · rw [List.append_assoc, List.getElem?_append_left (by simp; omega), List.getElem?_take, if_pos hlt]
      simp
    · rw [List.getElem?_append_right (by simp; omega), List.getElem?_drop]
      simp only [List.length_append, List.length_take, Array.length_toList, Array.getElem?_toList]
      congr 1
      omega

theorem fill_ok {t : TypeId} {place : Nat → Option (Nat × Nat)} (hp : ∀ i o n, fdPl P t i = some (o, n) → place i = some (o, n)) :
    ∀ (parts : List (Nat × Value)) (xs : List (Nat × V)) (cells : Array Value) (cs : List V) (r : List V), parts.length = xs.length → (∀ (i : Nat) p q, parts[i]? = some p → xs[i]? = some q → p.1 = q.1 ∧ VR g p.2 q.2) →
      PW g cells.toList cs → fillV P t cs xs = some r → ∃ c, Instr.fill place cells parts = some c ∧ PW g c.toList r
  | [], [], cells, cs, r, _, _, hc, hf => by cases hf; exact ⟨cells, rfl, hc⟩
  | [], _ :: _, _, _, _, hl, _, _, _ => by simp at hl
  | _ :: _, [], _, _, _, hl, _, _, _ => by simp at hl
  | (i, v) :: parts, (j, x) :: xs, cells, cs, r, hl, hv, hc, hf => by
    obtain ⟨rfl, hx⟩ := hv 0 (i, v) (j, x) rfl rfl
    simp only [fillV] at hf
    split at hf
    · rename_i o n hpl
      split at hf
      · rename_i hcond
        obtain ⟨h1, h2, h3⟩ := hcond
        simp only at hx
        have hpw := PW.of_cells hx (by intro e; rw [e] at h1; simp at h1; omega)
        have hsz : v.cells.size = n := by have := hpw.1; simp at this; omega
        have hcs : cells.size = cs.length := by simpa using hc.1
        obtain ⟨c, hc1, hc2⟩ := fill_ok hp parts xs (spl cells.toList o v.cells.toList).toArray (spl cs o x.cs) r (by simpa using hl) (fun k p q hp hq => hv (k + 1) p q (by simpa using hp) (by simpa using hq))
          (by simpa using hc.spl hpw o) hf
        refine ⟨c, ?_, hc2⟩
        unfold Instr.fill
        simp only [hp i o n hpl]
        rw [if_neg (by simp; omega)]
        rw [fold_spl o v cells (by omega)]
        exact hc1
      · cases hf
    · cases hf

/-! ### build -/
theorem zip_get {α β : Type} : ∀ {l : List α} {r : List β} {i : Nat} {p : α × β}, (l.zip r)[i]? = some p → l[i]? = some p.1 ∧ r[i]? = some p.2
  | [], r, i, p, h => by simp at h
  | a :: l, [], i, p, h => by simp at h
  | a :: l, b :: r, 0, p, h => by simp at h; subst h; simp
  | a :: l, b :: r, i + 1, p, h => by simpa using zip_get (l := l) (r := r) (i := i) (p := p) (by simpa using h)

variable {tm : List (Nat × V)} {a : Act}
theorem parts_ok (ht : TmR g tm a) {parts : Array (Nat × Operand)} {xs : List V} (ho : opds tm (parts.toList.map (·.2)) = some xs) :
    (parts.map fun (i, x) => (i, a.eval x)).toList.length = ((parts.toList.map (·.1)).zip xs).length ∧
    ∀ (i : Nat) p q, (parts.map fun (i, x) => (i, a.eval x)).toList[i]? = some p → ((parts.toList.map (·.1)).zip xs)[i]? = some q → p.1 = q.1 ∧ VR g p.2 q.2 := by
  obtain ⟨hl, hv⟩ := opds_ok ht ho
  simp only [List.length_map] at hl
  refine ⟨by simp [← hl], fun i p q hp hq => ?_⟩
  obtain ⟨h1, h2⟩ := zip_get hq
  simp only [Array.toList_map, List.getElem?_map] at hp h1
  obtain ⟨y, hy, rfl⟩ := Option.map_eq_some_iff.1 hp
  rw [hy] at h1
  simp only [Option.map_some, Option.some.injEq] at h1
  refine ⟨h1, ?_⟩
  exact hv i y.2 q.2 (by simp [hy]) h2

theorem places_get {fs : List Field} {places : List (Nat × Nat)} (h : fs.mapM (fun f => (P.info? f.type).map fun i => (f.offset, i.size)) = some places) (i : Nat) : places[i]? = (fs[i]?).bind fun f => (P.info? f.type).map fun j => (f.offset, j.size) := by
  induction fs generalizing places i with
  | nil => simp at h; subst h; simp
  | cons f fs ih =>
    simp only [List.mapM_cons, Option.bind_eq_bind, Option.pure_def] at h
    cases hi : P.info? f.type with
    | none => simp [hi] at h
    | some j =>
      cases hr : fs.mapM (fun f => (P.info? f.type).map fun i => (f.offset, i.size)) with
      | none => simp [hi, hr] at h
      | some rest =>
        simp [hi, hr] at h
        subst h
        cases i with
        | zero => simp [hi]
        | succ i => simpa using ih hr i
theorem places_some {fs : List Field} (h : ∀ f ∈ fs, ∃ j, P.info? f.type = some j) : ∃ places, fs.mapM (fun f => (P.info? f.type).map fun i => (f.offset, i.size)) = some places := by
  induction fs with
  | nil => exact ⟨[], rfl⟩
  | cons f fs ih =>
    obtain ⟨j, hj⟩ := h f (by simp)
    obtain ⟨r, hr⟩ := ih fun f hf => h f (by simp [hf])
    exact ⟨(f.offset, j.size) :: r, by simp [List.mapM_cons, hj, hr]⟩
theorem build_ok (h : WR W0 Φ g stk w) (ht : TmR g tm a) {t : TypeId} {parts : Array (Nat × Operand)} {xs cs r : List V} (ho : opds tm (parts.toList.map (·.2)) = some xs) (hz : zeroC P t = some cs)
    (hs : (fdPl P t 0).isSome = true) (hf : fillV P t cs ((parts.toList.map (·.1)).zip xs) = some r) : OK W0 Φ g (.agg r, stk) ((Instr.build t (parts.map fun (i, x) => (i, a.eval x))).run P w) := by
  obtain ⟨i, z, hi, hzz, h1, h2, h3, h4⟩ := zeroC_ok (g := g) hz
  have hpw : PW g z.cells.toList cs := ⟨by simpa using h2, fun j v x hv hx => h3 j v x (by simpa using hv) hx, h4⟩
  obtain ⟨hl, hv⟩ := parts_ok ht ho
  have key : ∀ place, (∀ i o n, fdPl P t i = some (o, n) → place i = some (o, n)) → ∃ c, Instr.fill place z.cells (parts.map fun (i, x) => (i, a.eval x)).toList = some c ∧ PW g c.toList r :=
    fun place hp => fill_ok hp _ _ z.cells cs r hl hv hpw hf
  have fin : ∀ c, P.built t (parts.map fun (i, x) => (i, a.eval x)).toList = some c → PW g c.toList r → OK W0 Φ g (.agg r, stk) ((Instr.build t (parts.map fun (i, x) => (i, a.eval x))).run P w) := by
    intro c hc hp
    rw [run_build w t _ c hc]
    exact .same (by simpa using hp.agg) h
  cases hu : P.underlying t with
  | none => simp [fdPl, hu] at hs
  | some d =>
    cases d <;> try (simp [fdPl, hu] at hs; done)
    case struct fs =>
      simp only [fdPl, hu] at hs
      split at hs
      · rename_i hall
        obtain ⟨places, hpl⟩ := places_some (P := P) (fs := fs.toList) fun f hf => Option.isSome_iff_exists.1 (List.all_eq_true.1 hall f hf)
        obtain ⟨c, hc, hp⟩ := key (places.toArray[·]?) (fun i o n hx => by
          simp only [fdPl, hu, if_pos hall] at hx
          simp only [List.getElem?_toArray, places_get hpl]
          split at hx
          · rename_i f hf
            simp only [Array.getElem?_toList, hf, Option.bind_some]
            exact hx
          · cases hx)
        exact fin c (by simp only [Program.built, hi, hu, hzz, hpl]; exact hc) hp
      · cases hs
    case array n e =>
      cases hie : P.info? e with
      | none => simp [fdPl, hu, hie] at hs
      | some ie =>
        obtain ⟨c, hc, hp⟩ := key (fun i => some (i * ie.size, ie.size)) (fun i o n hx => by
          simp only [fdPl, hu, hie, Option.map_some, Option.some.injEq] at hx
          simp [hx])
        exact fin c (by simp only [Program.built, hi, hu, hzz, hie]; exact hc) hp
end
end Go.Shade
