/-
  Frames: what a loop drops; a call's start and end.
-/
import Derived.Test.YtcecleclipcheaaSh20
import Derived.LoopN
set_option linter.unusedVariables false
set_option linter.unusedSimpArgs false
namespace Go.Shade
open Go Go.RowKit

section
variable {P : Program} {W0 : World} {Φ : Held} {g : G} {n : Nat} {w : World} {a : Act}

/-! ### pruning -/
/-- The top frame's boxes alone that are in f. -/
noncomputable def G.cut (g : G) (f : Fr) : G := { M := g.M, β := fun l t => if l = 0 ∧ (look f t).isNone then none else g.β l t }
theorem cut_up {f : Fr} {l : Nat} (hl : l ≠ 0) : (g.cut f).up l = g.up l := by
  unfold G.cut G.up
  simp only [G.mk.injEq, true_and]
  funext l' t
  rw [if_neg (by omega)]
theorem cut_some {f : Fr} {t : Nat} {b : B} (h : look f t = some b) : (g.cut f).β 0 t = g.β 0 t := by
  simp [G.cut, h]
theorem cut_ne {f : Fr} {l t : Nat} (h : l ≠ 0) : (g.cut f).β l t = g.β l t := by
  simp [G.cut, h]
theorem clL_some {f : Fr} : ∀ {l l' : List V}, V.clL f l = some l' → l'.length = l.length ∧ ∀ (i : Nat) y, l'[i]? = some y → ∃ x, l[i]? = some x ∧ V.cl f x = some y
  | [], l', h => by simp only [V.clL, Option.some.injEq] at h; subst h; simp
  | v :: r, l', h => by
    simp only [V.clL] at h
    split at h
    · rename_i v' r' h1 h2
      simp only [Option.some.injEq] at h
      subst h
      obtain ⟨e, hg⟩ := clL_some h2
      refine ⟨by simp [e], fun i y hy => ?_⟩
      cases i with
      | zero => simp only [List.getElem?_cons_zero, Option.some.injEq] at hy; subst hy; exact ⟨v, rfl, h1⟩
      | succ i => exact hg i y (by simpa using hy)
    · cases h
theorem cl_atom {f : Fr} {x y : V} (h : V.cl f x = some y) (hx : x.atom = true) : y.atom = true := by
  unfold V.cl at h
  split at h <;> first
    | (cases hx; done)
    | (split at h <;> (cases h <;> rfl))
    | (cases h; exact hx)
theorem Rd.cl {M : Mem} {v : Value} {x : V} (h : Rd M v x) (f : Fr) : V.cl f x = some x := by cases h <;> rfl
theorem VR.cl {f : Fr} {v : Value} {x : V} (hv : VR g v x) : ∀ {y : V}, V.cl f x = some y → VR (g.cut f) v y := by
  induction hv with
  | rd hr => intro y hy; rw [hr.cl] at hy; cases hy; exact .rd hr
  | nl sz => intro y hy; cases hy; exact .nl sz
  | ap l t sz rows v hd hr hb hl he =>
    intro y hy
    cases l with
    | zero =>
      simp only [V.cl] at hy
      split at hy
      · rename_i hk
        cases hy
        exact .ap 0 t sz rows v hd hr ((cut_some hk).trans hb) hl he
      · cases hy; exact .rd hr
    | succ l => cases hy; exact .ap _ t sz rows v hd hr ((cut_ne (by omega)).trans hb) hl he
  | row l t sz b n c hb =>
    intro y hy
    cases l with
    | zero =>
      simp only [V.cl] at hy
      split at hy
      · rename_i hk
        cases hy
        exact .row 0 t sz b n c ((cut_some hk).trans hb)
      · cases hy
    | succ l => cases hy; exact .row _ t sz b n c ((cut_ne (by omega)).trans hb)
  | ptr l t o b hb =>
    intro y hy
    cases l with
    | zero =>
      simp only [V.cl] at hy
      split at hy
      · rename_i hk
        cases hy
        exact .ptr 0 t o b ((cut_some hk).trans hb)
      · cases hy
    | succ l => cases hy; exact .ptr _ t o b ((cut_ne (by omega)).trans hb)
  | rptr l t i o sz b n c hb =>
    intro y hy
    cases l with
    | zero =>
      simp only [V.cl] at hy
      split at hy
      · rename_i hk
        cases hy
        exact .rptr 0 t i o sz b n c ((cut_some hk).trans hb)
      · cases hy
    | succ l => cases hy; exact .rptr _ t i o sz b n c ((cut_ne (by omega)).trans hb)
  | mp l t r hb =>
    intro y hy
    cases l with
    | zero =>
      simp only [V.cl] at hy
      split at hy
      · rename_i hk
        cases hy
        exact .mp 0 t r ((cut_some hk).trans hb)
      · cases hy
    | succ l => cases hy; exact .mp _ t r ((cut_ne (by omega)).trans hb)
  | fn g' as bs vs ws h1 h2 h3 h4 i3 i4 =>
    intro y hy
    simp only [V.cl] at hy
    split at hy
    · rename_i a' b' ha hb
      cases hy
      obtain ⟨ea, ga⟩ := clL_some ha
      obtain ⟨eb, gb⟩ := clL_some hb
      refine .fn g' a' b' vs ws (by omega) (by omega) (fun i v x hv hx => ?_) (fun i v x hv hx => ?_)
      · obtain ⟨z, hz, hu⟩ := ga i x hx
        exact i3 i v z hv hz hu
      · obtain ⟨z, hz, hu⟩ := gb i x hx
        exact i4 i v z hv hz hu
    · cases hy
  | ifc T v x hx ih =>
    intro y hy
    simp only [V.cl] at hy
    split at hy
    · rename_i z hz
      cases hy
      exact .ifc T v z (ih hz)
    · cases hy
  | nili => intro y hy; cases hy; exact .nili
  | nilp => intro y hy; cases hy; exact .nilp
  | nilm => intro y hy; cases hy; exact .nilm
  | nilf => intro y hy; cases hy; exact .nilf
  | agg vs xs h1 h2 h3 ih =>
    intro y hy
    simp only [V.cl] at hy
    split at hy
    · rename_i a' ha
      cases hy
      obtain ⟨ea, ga⟩ := clL_some ha
      refine .agg vs a' (by omega) (fun i v x hv hx => ?_) (fun x hx => ?_)
      · obtain ⟨z, hz, hu⟩ := ga i x hx
        exact ih i v z hv hz hu
      · obtain ⟨i, hi⟩ := List.mem_iff_getElem?.1 hx
        obtain ⟨z, hz, hu⟩ := ga i x hi
        exact cl_atom hu (h3 z (List.mem_of_getElem? hz))
    · cases hy
  | tup vs xs h1 h2 ih =>
    intro y hy
    simp only [V.cl] at hy
    split at hy
    · rename_i a' ha
      cases hy
      obtain ⟨ea, ga⟩ := clL_some ha
      refine .tup vs a' (by omega) (fun i v x hv hx => ?_)
      obtain ⟨z, hz, hu⟩ := ga i x hx
      exact ih i v z hv hz hu
    · cases hy
  | dead => intro y hy; cases hy; exact .dead

theorem pure_atom {x : V} (h : x.pure = true) : x.atom = true := by cases x <;> first | rfl | cases h
theorem clB_ok {f : Fr} {h : H} {b b' : B} (hb : BoxR g w h b) (hc : clB f b = some b') : BoxR (g.cut f) w h b' := by
  cases b with
  | cells cs =>
    simp only [clB] at hc
    split at hc
    · rename_i cs' hcs
      cases hc
      cases h <;> simp only [BoxR] at hb ⊢
      obtain ⟨c, e, h1, h2, h3, h4⟩ := hb
      obtain ⟨el, gl⟩ := clL_some hcs
      refine ⟨c, e, h1, by rw [h2, el], fun j v x hv hx => ?_, fun x hx => ?_⟩
      · obtain ⟨z, hz, hu⟩ := gl j x hx
        exact (h3 j v z hv hz).cl hu
      · obtain ⟨i, hi⟩ := List.mem_iff_getElem?.1 hx
        obtain ⟨z, hz, hu⟩ := gl i x hi
        exact cl_atom hu (h4 z (List.mem_of_getElem? hz))
    · cases hc
  | tok e sz m => cases hc; cases h <;> exact hb
  | row sz xs => cases hc; cases h <;> exact hb
  | fz sz xs => cases hc; cases h <;> exact hb
  | smap es =>
    simp only [clB] at hc
    split at hc
    · rename_i hall
      cases hc
      cases h <;> simp only [BoxR] at hb ⊢
      obtain ⟨en, cl, h1, h2, h3⟩ := hb
      exact ⟨en, cl, h1, h2, fun i e k x he hx => ⟨(h3 i e k x he hx).1, .rd (show Rd g.M _ _ from pure_rd (h3 i e k x he hx).2.1 (List.all_eq_true.1 hall (k, x) (List.mem_of_getElem? hx))), (h3 i e k x he hx).2.2⟩⟩
    · cases hc
  | imap es =>
    simp only [clB] at hc
    split at hc
    · rename_i hall
      cases hc
      cases h <;> simp only [BoxR] at hb ⊢
      obtain ⟨en, cl, h1, h2, h3⟩ := hb
      exact ⟨en, cl, h1, h2, fun i e k x he hx => ⟨(h3 i e k x he hx).1, .rd (show Rd g.M _ _ from pure_rd (h3 i e k x he hx).2.1 (List.all_eq_true.1 hall (k, x) (List.mem_of_getElem? hx))), (h3 i e k x he hx).2.2⟩⟩
    · cases hc

theorem keepF_look {ks : List Nat} {t : Nat} : ∀ {f : Fr} {b : B}, look (keepF ks f) t = some b → look f t = some b
  | [], b, h => by cases h
  | (a, x) :: r, b, h => by
    simp only [keepF] at h
    split at h
    · simp only [look] at h ⊢
      split
      · rename_i e; simpa [e] using h
      · rename_i e; simp only [e, if_false] at h; exact keepF_look h
    · rename_i hk
      have ih := keepF_look h
      simp only [look]
      split
      · rename_i e
        subst e
        exfalso
        have : ∀ f : Fr, look (keepF ks f) a = none := by
          intro f
          induction f with
          | nil => rfl
          | cons p f ih' =>
            obtain ⟨c, y⟩ := p
            simp only [keepF]
            split
            · rename_i hc
              simp only [look]
              split
              · rename_i e; subst e; exact absurd hc hk
              · exact ih'
            · exact ih'
        rw [this] at h
        cases h
      · exact ih
theorem keepB_look {f0 : Fr} {t : Nat} : ∀ {f f' : Fr}, keepB f0 f = some f' → (look f' t = none ∧ look f t = none) ∨ ∃ b b', look f t = some b ∧ look f' t = some b' ∧ clB f0 b = some b'
  | [], f', h => by cases h; exact .inl ⟨rfl, rfl⟩
  | (a, x) :: r, f', h => by
    simp only [keepB] at h
    split at h
    · rename_i y r' h1 h2
      cases h
      simp only [look]
      split
      · exact .inr ⟨x, y, rfl, rfl, h1⟩
      · exact keepB_look h2
    · cases h
theorem keepT_look {ks : List Nat} {f : Fr} {t : Nat} {y : V} : ∀ {tm tm' : List (Nat × V)}, keepT ks f tm = some tm' → look tm' t = some y → ∃ x z, look tm t = some x ∧ V.cl f x = some z ∧ y = z.nls
  | [], tm', h, hy => by cases h; cases hy
  | (a, x) :: r, tm', h, hy => by
    simp only [keepT] at h
    split at h
    · split at h
      · rename_i z r' h1 h2
        cases h
        simp only [look] at hy ⊢
        split
        · rename_i e; simp only [e, if_true] at hy; cases hy; exact ⟨x, _, rfl, h1, rfl⟩
        · rename_i e; simp only [e, if_false] at hy; exact keepT_look h2 hy
      · cases h
    · rename_i hk
      obtain ⟨z, z', hz, hc, he⟩ := keepT_look h hy
      simp only [look]
      split
      · rename_i e
        subst e
        exfalso
        have : ∀ (tm tm' : List (Nat × V)), keepT ks f tm = some tm' → look tm' a = none := by
          intro tm
          induction tm with
          | nil => intro tm' h; cases h; rfl
          | cons p tm ih =>
            intro tm' h
            obtain ⟨c, u⟩ := p
            simp only [keepT] at h
            split at h
            · rename_i hc
              split at h
              · rename_i z r' h1 h2
                cases h
                simp only [look]
                split
                · rename_i e; subst e; exact absurd hc hk
                · exact ih _ h2
              · cases h
            · exact ih _ h
        rw [this _ _ h] at hy
        cases hy
      · exact ⟨z, z', hz, hc, he⟩

theorem VR.nls {g : G} {u : Value} {z : V} (h : VR g u z) : VR g u z.nls := by
  cases z <;> first | exact h | (cases h with
    | rd h => cases h
    | nl sz => exact .rd (.nil _))
theorem prune_ok {ks : Option (List Nat)} {S S' : St} (h : StR W0 Φ n g S a w) (hp : prune ks S = some S') : ∃ g', StR W0 Φ n g' S' a w ∧ Ext 1 g g' := by
  unfold prune at hp
  split at hp
  · cases hp; exact ⟨g, h, Ext.refl 1 g⟩
  · rename_i ks
    split at hp
    · cases hp
    · rename_i f r hst
      split at hp
      · rename_i tm f' htm hf'
        cases hp
        have hw := h.wr
        rw [hst] at hw
        have top : ∀ {t b'}, look f' t = some b' → ∃ b, look (keepF ks f) t = some b ∧ look f t = some b ∧ clB (keepF ks f) b = some b' := by
          intro t b' hb
          rcases keepB_look (t := t) hf' with ⟨h1, _⟩ | ⟨b, b2, h1, h2, h3⟩
          · rw [h1] at hb; cases hb
          · rw [h2] at hb; cases hb; exact ⟨b, h1, keepF_look h1, h3⟩
        have key : ∀ {l t x}, (g.cut (keepF ks f)).β l t = some x → g.β l t = some x ∧ (l = 0 → (look (keepF ks f) t).isSome = true) := by
          intro l t x hx
          simp only [G.cut] at hx
          split at hx
          · cases hx
          · rename_i hc
            refine ⟨hx, fun hl => ?_⟩
            cases hq : look (keepF ks f) t with
            | none => exact absurd ⟨hl, by simp [hq]⟩ hc
            | some _ => rfl
        have frz : ∀ {b b' : B}, clB (keepF ks f) b = some b' → ∀ o, b.frz o → b'.frz o := by
          intro b b' hc o hf
          cases b <;> simp only [clB] at hc <;> first | (cases hf; done) | (cases hc; exact hf)
        refine ⟨g.cut (keepF ks f), ⟨⟨hw.below, hw.mem, hw.phi, fun l t b hb => ?_, fun l t x hx => ?_, fun l t x k hx hk => hw.own l t x k (key hx).1 hk,
          fun l t l' t' x x' k hx hx' hk hk' => hw.sep l t l' t' x x' k (key hx).1 (key hx').1 hk hk', fun l t x k b hx hk hb o v hm => ?_⟩, fun t y hy => ?_, h.size, h.defers⟩, ⟨fun _ _ h => h, fun l t x hl hx => ⟨x, by rw [cut_ne (by omega)]; exact hx, Hle.refl _⟩⟩⟩
        · cases l with
          | zero =>
            obtain ⟨b0, h1, h2, h3⟩ := top hb
            obtain ⟨x, hx, hbox⟩ := hw.box 0 t b0 h2
            exact ⟨x, by rw [cut_some h1]; exact hx, clB_ok hbox h3⟩
          | succ l =>
            obtain ⟨x, hx, hbox⟩ := hw.box (l + 1) t b hb
            exact ⟨x, by rw [cut_ne (by omega)]; exact hx, by rw [cut_up (by omega)]; exact hbox⟩
        · cases l with
          | zero =>
            obtain ⟨b0, h1⟩ := Option.isSome_iff_exists.1 ((key hx).2 rfl)
            rcases keepB_look (t := t) hf' with ⟨_, h2⟩ | ⟨_, b', _, h2, _⟩
            · rw [h1] at h2; cases h2
            · exact ⟨b', h2⟩
          | succ l => exact hw.has (l + 1) t x (key hx).1
        · cases l with
          | zero =>
            obtain ⟨b0, h1, h2, h3⟩ := top hb
            exact frz h3 o (hw.free 0 t x k b0 (key hx).1 hk h2 o v hm)
          | succ l => exact hw.free (l + 1) t x k b (key hx).1 hk hb o v hm
        · obtain ⟨x, z, hx, hc, rfl⟩ := keepT_look htm hy
          exact ((h.tm t x hx).cl hc).nls
      · cases hp
end
end Go.Shade
