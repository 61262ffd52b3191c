/-
  maps.Keys, slices.Sorted: as the shadow takes them.
-/
import Derived.Test.YtcecleclipcheaaP2
import Derived.Test.YtcecleclipcheaaNa
set_option linter.unusedVariables false
set_option linter.unusedSimpArgs false
namespace Go.Proofs.Ytcecleclipcheaa
open Go Go.RowKit Go.Maps Go.Shade Go.Fence Go.WideElems Go.WideShapes

/-- Cells of new blocks are read alone from now on. -/
def G.tail (g : G) (w w' : World) : G := { M := fun a => if w.heap.size ≤ a.block then w'.cell? a else g.M a, β := g.β }
theorem more_tail {W0 : World} {Φ : Held} {g : G} {stk : Stk} {w w' : World} (h : WR W0 Φ g stk w) (hb : Below w.heap.size w w') : WR W0 Φ (G.tail g w w') stk w' ∧ Ext 0 g (G.tail g w w') := by
  refine h.more hb.os hb.tape hb.output hb.size (fun i hi => hb.block i hi) rfl (fun a v hm => ?_) (fun a v hm => ?_) (fun a v hm hlt => ?_)
  · simp only [G.tail]
    rw [if_neg (by have := h.M_lt hm; omega)]
    exact hm
  · simp only [G.tail] at hm
    split at hm
    · exact hm
    · rw [below_cell hb (h.M_lt hm)]
      exact h.mem a v hm
  · simp only [G.tail] at hm
    rwa [if_neg (by omega)] at hm
theorem prim_keys : PrimSnd Try.prog 148 (keysP 169) := by
  intro W0 Φ g stk w xs r us hr hw hl hv
  unfold keysP at hr
  split at hr
  · rename_i l t f q
    split at hr
    · rename_i hn
      cases hr
      match us, hl with
      | [u], _ =>
      have h1 := hv 0 u _ rfl rfl
      cases h1 with
      | rd h => cases h
      | mp _ _ b hb =>
      refine ⟨enter_ok Try.func148 (by kernel_rfl) rfl _ _, (Try.cKeys _ w).mono ?_⟩
      rintro e w' ⟨rfl, rfl⟩
      obtain ⟨_, _, g', k0, k1, k2, k3⟩ := Go.Shade.new_box hw (d := 900) hn #[.map (some b)] 88 [.mp l t] rfl (fun i v x hi hx => by
        match i with
        | 0 => simp at hi hx; subst hi; subst hx; exact .mp l t b hb
        | i + 1 => simp at hi) (by simp [V.atom])
      cases k0
      refine ⟨_, g', rfl, .fn 169 [] [.ptr 0 900 0] [] [_] rfl rfl (fun i v x hi => by simp at hi) (fun i v x hi hx => ?_), k2, k3⟩
      match i with
      | 0 => simp at hi hx; subst hi; subst hx; exact k1
      | i + 1 => simp at hi
    · cases hr
  · cases hr

theorem sort_says (b r : Nat) (en : Array MapEntry) (clock : Nat) (es : List (ByteArray × V)) (w : World) (hcell : w.cell? ⟨b, 0, none⟩ = some (.map (some r))) (f3 : w.heap[r]? = some (.map en clock)) (f4 : MapKept.Stamped en clock) (f5 : en.size = es.length)
    (f6 : ∀ (i : Nat) e k x, en[i]? = some e → es[i]? = some (k, x) → e.key = .string k) (hc1 : es.length ≤ 1000000) (hc2 : es.all (fun e => decide (e.1.size ≤ maxLen)) = true) :
    Calls Try.prog 147 #[.func (.func 169) #[] #[.pointer (some ⟨b, 0, none⟩)]] w fun e w' => ∃ v, e = .returned v ∧ (∀ M : Mem, (∀ a : Addr, w.heap.size ≤ a.block → M a = w'.cell? a) → Rd M v (strs (setL (es.map (·.1))))) ∧ Below w.heap.size w w' := by
  have hk : en.toList.map (·.key) = (es.map (·.1)).map Value.string := by
    apply List.ext_getElem?
    intro i
    rw [List.getElem?_map, List.getElem?_map, List.getElem?_map, Array.getElem?_toList]
    cases he : en[i]? with
    | none =>
      have : es[i]? = none := by
        rw [List.getElem?_eq_none_iff]
        rw [Array.getElem?_eq_none_iff] at he
        omega
      simp [this]
    | some e =>
      obtain ⟨p, hp⟩ : ∃ p, es[i]? = some p := ⟨_, List.getElem?_eq_getElem (by have := (Array.getElem?_eq_some_iff.1 he).1; omega)⟩
      obtain ⟨k, x⟩ := p
      simp [hp, f6 i e k x he hp]
  have hn : (es.map (·.1)).Nodup := by
    have := f4.2.2
    rw [hk] at this
    exact (List.pairwise_map.1 this).imp fun h e => h (by rw [e])
  have hkey : ∀ x ∈ en.toList, ∃ s : ByteArray, x.key = .string s ∧ s.size ≤ maxLen := by
    intro x hx
    have : x.key ∈ (es.map (·.1)).map Value.string := by rw [← hk]; exact List.mem_map_of_mem hx
    obtain ⟨s, hs, hs2⟩ := List.mem_map.1 this
    obtain ⟨p, hp, rfl⟩ := List.mem_map.1 hs
    exact ⟨_, hs2.symm, of_decide_eq_true (List.all_eq_true.1 hc2 p hp)⟩
  obtain ⟨R, hR⟩ : ∃ R : Value → Option (DataW Unit × List MemPlace), R = fun _ => some (.lit (.bool true), []) := ⟨_, rfl⟩
  have hread : ∀ x ∈ en.toList, ∃ s : ByteArray, x.key = .string s ∧ WideElems.rd Try.prog 9 R x = some (.string s.data.toList, .lit (.bool true)) := by
    intro x hx
    obtain ⟨s, h1, h2⟩ := hkey x hx
    refine ⟨s, h1, ?_⟩
    unfold WideElems.rd
    rw [h1, Go.WideMaps.keyOf_string_mk Try.underlying9 h2, hR]
    rfl
  have hsz : en.size ≤ maxLen := by unfold maxLen; omega
  have hown : w.ownsMap Try.prog 9 R r en.size (.map ((en.toList.map (rg Try.prog 9 R)).foldr DataW.insert [])) :=
    ⟨en, clock, f3, ⟨hsz, f4, fun x hx => by obtain ⟨s, _, h⟩ := hread x hx; exact ⟨_, h⟩⟩, Nat.le_refl _, rfl⟩
  have hD : Maps.size (DataW.map ((en.toList.map (rg Try.prog 9 R)).foldr DataW.insert [])) = en.size := by simp [Maps.size, length_sorted]
  refine (Try.cSorted b r en.size _ R w (World.block_lt_of_cell? w _ hcell) hcell hown (by rw [hD]; exact hsz) (by rw [hD]; omega)).mono ?_
  rintro e w' ⟨v, ss, rfl, hperm, hrow, _, hB⟩
  have hp2 : ss.Perm ((es.map (·.1)).map fun s => s.data.toList) := by
    refine hperm.trans ?_
    show (((en.toList.map (rg Try.prog 9 R)).foldr DataW.insert []).map fun p => strOf p.1).Perm _
    refine ((sorted_perm _).map _).trans ?_
    rw [List.map_map]
    have e1 : en.toList.map ((fun p => strOf p.1) ∘ rg Try.prog 9 R) = (en.toList.map (·.key)).map fun v => match v with | .string s => s.data.toList | _ => [] := by
      rw [List.map_map]
      refine List.map_congr_left fun x hx => ?_
      obtain ⟨s, h1, h2⟩ := hread x hx
      simp only [Function.comp, rg_of h2, h1]
      rfl
    rw [e1, hk, List.map_map]
    exact List.Perm.refl _
  rw [sorted_keys hn hp2] at hrow
  refine ⟨v, rfl, fun M hM => ?_, hB⟩
  obtain ⟨q1, q2⟩ := hrow
  have hlen : (setL (es.map (·.1))).length = ss.length := by simpa using q1
  rcases q2 with ⟨rfl, h0⟩ | ⟨gb, cap, cur, rfl, hbase, hgb, r1, r2, r3, r4⟩
  · have : setL (es.map (·.1)) = [] := List.eq_nil_of_length_eq_zero (by omega)
    rw [this]
    exact .nil 1
  · have hcells : ∀ o, M ⟨gb, o, none⟩ = cur[o]? := fun o => by
      rw [hM _ hbase]
      unfold World.cell?
      simp [hgb]
    have := Rd.of_rows (M := M) (M' := M) (fun _ _ h => h) (b := gb) (cap := cap) (c := cur) (sz := 1) (rows := (setL (es.map (·.1))).map fun s => [V.str s]) ⟨by simp; omega, by simp, fun i r j x hr hx => ?_⟩ (by simp; omega) (fun o _ => hcells o)
    · rw [List.length_map, hlen] at this
      exact this
    · rw [List.getElem?_map] at hr
      obtain ⟨s, hs, rfl⟩ := Option.map_eq_some_iff.1 hr
      match j with
      | 0 =>
        simp at hx
        subst hx
        refine ⟨.string s, ?_, .str s⟩
        have hi := (List.getElem?_eq_some_iff.1 hs).1
        have : (cur.toList.take (ss.length * 1))[i]? = some (encStr s.data.toList) := by
          rw [r4, List.getElem?_map, List.getElem?_map, hs]; rfl
        rw [List.getElem?_take_of_lt (by omega)] at this
        simpa [encStr] using this
      | j + 1 => simp at hx

theorem prim_sort : PrimSnd Try.prog 147 (sortP 169) := by
  intro W0 Φ g stk w xs r us hr hw hl hv
  unfold sortP at hr
  split at hr
  · rename_i f N
    split at hr
    · rename_i hN
      subst hN
      split at hr
      · rename_i l t hbox
        split at hr
        · rename_i es hes
          split at hr
          · rename_i hc
            cases hr
            match us, hl with
            | [u], _ =>
            have h1 := hv 0 u _ rfl rfl
            cases h1 with
            | rd h => cases h
            | fn _ _ _ vs ws k1 k2 _ k4 =>
            obtain rfl := List.eq_nil_of_length_eq_zero k1
            match ws, k2 with
            | [p], _ =>
            have h2 := k4 0 p _ rfl rfl
            cases h2 with
            | rd h => cases h
            | ptr _ _ _ b hb =>
            obtain ⟨hh, e1, e2⟩ := hw.box 0 N _ hbox
            rw [hb] at e1
            cases e1
            obtain ⟨c, ce, e2, e3, e4, e5⟩ := e2
            obtain ⟨q, hq⟩ : ∃ q, c[0]? = some q := ⟨_, Array.getElem?_eq_getElem (by rw [e3]; simp)⟩
            have h3 := e4 0 q _ hq rfl
            cases h3 with
            | rd h => cases h
            | mp _ _ r hr =>
            obtain ⟨hh2, f1, f2⟩ := hw.box l t _ hes
            rw [show g.β l t = some (.mp r) from hr] at f1
            cases f1
            obtain ⟨en, clock, ⟨f3, f4⟩, f5, f6⟩ := f2
            have hcell : w.cell? ⟨b, 0, none⟩ = some (.map (some r)) := by
              unfold World.cell?
              simp [e2, hq]
            refine ⟨enter_ok Try.func147 (by kernel_rfl) rfl _ _, (sort_says b r en clock es w hcell f3 f4 f5 (fun i e k x h1 h2 => (f6 i e k x h1 h2).1) hc.1 hc.2).mono ?_⟩
            rintro e w' ⟨v, rfl, hrow, hB⟩
            obtain ⟨m1, m2⟩ := more_tail hw hB
            exact ⟨v, _, rfl, .rd (hrow (G.tail g w w').M fun a ha => by simp only [G.tail]; rw [if_pos ha]), m1, m2⟩
          · cases hr
        · cases hr
      · cases hr
    · cases hr
  · cases hr
end Go.Proofs.Ytcecleclipcheaa
