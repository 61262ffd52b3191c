/-
  Calls: what is handed over is frozen; a quiet call leaves the rest alone.
-/
import Derived.Test.YtcecleclipcheaaSh15
set_option linter.unusedVariables false
set_option linter.unusedSimpArgs false
namespace Go.Shade
open Go Go.RowKit

section
variable {P : Program} {W0 : World} {Φ : Held} {g : G} {rd stk : Stk} {w : World}

/-! ### freezing -/
theorem row_fz (h : WR W0 Φ g stk w) {l t sz : Nat} {xs : List (List V)} (hl : lookB stk l t = some (.row sz xs)) : ∃ g', WR W0 Φ g' (setB stk l t (.fz sz xs)) w ∧ Ext 0 g g' := by
  obtain ⟨hh, h1, h2⟩ := h.box l t _ hl
  cases hh <;> simp only [BoxR] at h2
  rename_i sz' b n c
  obtain ⟨rfl, rfl, e2, cs, e, h3, hr⟩ := h2
  have hnot := fun {a : Addr} {v : Value} => h.M_not (a := a) (v := v) h1 rfl hl (fun o hf => hf)
  have hM : ∀ a v, g.M a = some v → (g.add b cs (xs.length * sz)).M a = some v := fun a v hm => by rw [g.add_ne _ _ _ (hnot hm)]; exact hm
  have hu := h.upd (g' := g.add b cs (xs.length * sz)) (stk' := setB stk l t (.fz sz xs)) (w' := w) l t (.fz sz xs) (.row sz b xs.length c) b rfl rfl rfl (Nat.le_refl _)
    (fun _ _ _ => rfl) (h.own l t _ b h1 rfl).1 (.inl ⟨_, h1, rfl⟩) hM
    (fun a v hm => by
      by_cases hb : a.block = b
      · simp only [G.add] at hm
        split at hm
        · rename_i hc
          have : a = ⟨b, a.off, none⟩ := by cases a; simp_all
          rw [this, cell_of_row w b a.off cs e (0, 0) h3]
          exact hm
        · exact absurd hb (hnot hm)
      · rw [g.add_ne _ _ _ hb] at hm
        exact h.mem _ _ hm)
    (fun a v hm hb => by rw [g.add_ne _ _ _ hb] at hm; exact hm) (fun _ _ _ => rfl) h1 (fun h0 hb0 => by rw [h1] at hb0; cases hb0; exact Hle.refl _)
    (fun l' t' => lookB_setB hl l' t')
    ⟨rfl, rfl, e2, Rd.of_rows hM hr e2 fun o ho => g.add_at _ _ _ ho⟩
    (fun k' hk' => by cases hk'; exact ⟨rfl, (h.own l t _ b h1 rfl).2.1⟩)
    (fun k' hk' o v hm => trivial)
  exact ⟨_, hu.1, hu.2⟩

mutual
theorem fzS_ok (x : V) : ∀ {g : G} {stk : Stk}, WR W0 Φ g stk w → ∃ g', WR W0 Φ g' (V.fzS x stk) w ∧ Ext 0 g g' := by
  intro g stk h
  cases x with
  | row l t =>
    unfold V.fzS
    split
    · rename_i hl
      exact row_fz h hl
    · exact ⟨g, h, Ext.refl 0 g⟩
  | agg cs => unfold V.fzS; exact fzL_ok cs h
  | tup cs => unfold V.fzS; exact fzL_ok cs h
  | ifc T y => unfold V.fzS; exact fzS_ok y h
  | _ => unfold V.fzS; exact ⟨g, h, Ext.refl 0 g⟩
theorem fzL_ok (xs : List V) : ∀ {g : G} {stk : Stk}, WR W0 Φ g stk w → ∃ g', WR W0 Φ g' (V.fzL xs stk) w ∧ Ext 0 g g' := by
  intro g stk h
  cases xs with
  | nil => unfold V.fzL; exact ⟨g, h, Ext.refl 0 g⟩
  | cons x r =>
    unfold V.fzL
    obtain ⟨g1, h1, e1⟩ := fzS_ok x h
    obtain ⟨g2, h2, e2⟩ := fzL_ok r h1
    exact ⟨g2, h2, e1.trans e2⟩
end

theorem coL_ok (h : WR W0 Φ g stk w) (hs : Sub rd stk) {us : List Value} {xs ys : List V} (hl : us.length = xs.length) (hv : ∀ (i : Nat) u x, us[i]? = some u → xs[i]? = some x → VR g u x) (hc : V.coL rd xs = some ys) :
    us.length = ys.length ∧ ∀ (i : Nat) u y, us[i]? = some u → ys[i]? = some y → VR g u y := by
  refine ⟨by rw [hl, (coL_some hc).1], fun i u y hu hy => ?_⟩
  obtain ⟨x, hx, hco⟩ := coL_back hc i y hy
  exact co_ok (h.fz_rd hs) (hv i u x hu hx) hco

/-! ### quiet calls -/
theorem noTokG_look {f0 f : Fr} {t : Nat} : look (noTokG f0 f) t = if noTokQ (look f0 t) then look f t else none := by
  induction f with
  | nil => simp [noTokG, look]
  | cons p r ih =>
    obtain ⟨a, c⟩ := p
    simp only [noTokG]
    by_cases e : a = t
    · subst e
      split
      · simp [look]
      · rename_i hq
        rw [ih]
        simp [hq]
    · split
      · simp only [look, if_neg e, ih]
      · simp only [look, if_neg e, ih]
theorem noTok_look : ∀ {s : Stk} {l t : Nat} {b : B}, lookB (noTok s) l t = some b → lookB s l t = some b ∧ quietB b = true
  | [], _, _, _, h => by simp [noTok, lookB] at h
  | f :: r, 0, t, b, h => by
    simp only [noTok, lookB, noTokF, noTokG_look] at h ⊢
    split at h
    · rename_i hq
      rw [h] at hq
      exact ⟨h, hq⟩
    · cases h
  | f :: r, l + 1, t, b, h => noTok_look (s := r) h
theorem Sub.quiet (hs : Sub rd stk) {l t : Nat} {b : B} (h : lookB (noTok rd) l t = some b) : lookB stk l t = some b ∧ quietB b = true := by
  obtain ⟨h1, h2⟩ := noTok_look h
  exact ⟨hs l t b h1 (fun e sz n he => by subst he; cases h2), h2⟩

theorem VR.flat {g g' : G} (hM : g'.M = g.M) {v : Value} {x : V} (h : VR g v x) : x.flat = true → VR g' v x := by
  induction h with
  | rd hr =>
    intro _
    exact .rd (by rw [hM]; exact hr)
  | nl sz => intro _; exact .nl sz
  | ifc T v x hx ih => intro hf; exact .ifc T v x (ih hf)
  | nili => intro _; exact .nili
  | nilp => intro _; exact .nilp
  | nilm => intro _; exact .nilm
  | nilf => intro _; exact .nilf
  | _ => intro hf; cases hf

theorem okL_all {s : Stk} : ∀ {xs : List V}, V.okL s xs = true → ∀ x ∈ xs, V.okB s x = true
  | [], _, x, hx => by cases hx
  | y :: r, h, x, hx => by
    simp only [V.okL, Bool.and_eq_true] at h
    rcases List.mem_cons.1 hx with rfl | hx
    · exact h.1
    · exact okL_all h.2 x hx
/-- The boxes of a stack alone. -/
noncomputable def G.keep (g : G) (s : Stk) : G := { M := g.M, β := fun l t => if (lookB s l t).isSome then g.β l t else none }
theorem VR.okB {g : G} {s : Stk} {v : Value} {x : V} (h : VR g v x) : V.okB s x = true → VR (g.keep s) v x := by
  induction h with
  | rd hr => intro _; exact .rd hr
  | nl sz => intro _; exact .nl sz
  | ap => intro hf; cases hf
  | row l t sz b n c hb => intro hf; exact .row l t sz b n c ((if_pos hf).trans hb)
  | ptr l t o b hb => intro hf; exact .ptr l t o b ((if_pos hf).trans hb)
  | rptr l t i o sz b n c hb => intro hf; exact .rptr l t i o sz b n c ((if_pos hf).trans hb)
  | mp l t r hb => intro hf; exact .mp l t r ((if_pos hf).trans hb)
  | fn f as bs vs ws h1 h2 h3 h4 i3 i4 =>
    intro hf
    simp only [V.okB, Bool.and_eq_true] at hf
    exact .fn f as bs vs ws h1 h2 (fun i v x hv hx => i3 i v x hv hx (okL_all hf.1 x (List.mem_of_getElem? hx))) (fun i v x hv hx => i4 i v x hv hx (okL_all hf.2 x (List.mem_of_getElem? hx)))
  | ifc T v x hx ih => intro hf; exact .ifc T v x (ih hf)
  | nili => intro _; exact .nili
  | nilp => intro _; exact .nilp
  | nilm => intro _; exact .nilm
  | nilf => intro _; exact .nilf
  | agg vs xs h1 h2 h3 ih => intro hf; exact .agg vs xs h1 (fun i v x hv hx => ih i v x hv hx (okL_all hf x (List.mem_of_getElem? hx))) h3
  | tup vs xs h1 h2 ih => intro hf; exact .tup vs xs h1 (fun i v x hv hx => ih i v x hv hx (okL_all hf x (List.mem_of_getElem? hx)))
  | dead => intro _; exact .dead

open Classical in
/-- The other boxes' blocks stay as they are. -/
noncomputable def held (Φ : Held) (g : G) (s stk : Stk) (w : World) : Held :=
  fun k => if ∃ l t h, g.β l t = some h ∧ h.blk = some k ∧ lookB s l t = none then (w.heap[k]?).map fun o => (o, fun off => ∀ l t h b, g.β l t = some h → h.blk = some k → lookB stk l t = some b → b.frz off) else Φ k

theorem BoxR.quiet {g g' : G} (hM : g'.M = g.M) {h : H} {b : B} (hb : BoxR g w h b) (hq : quietB b = true) : BoxR g' w h b := by
  cases h <;> cases b <;> simp only [BoxR] at hb ⊢
  case box.cells k cs =>
    obtain ⟨c, e, h1, h2, h3, h4⟩ := hb
    exact ⟨c, e, h1, h2, fun j v x hv hx => (h3 j v x hv hx).flat hM (List.all_eq_true.1 hq x (List.mem_of_getElem? hx)), h4⟩
  case tok.tok => cases hq
  case row.row => rw [hM]; exact hb
  case row.fz => rw [hM]; exact hb
  case mp.smap r es =>
    obtain ⟨en, clock, h1, h2, h3⟩ := hb
    exact ⟨en, clock, h1, h2, fun i e k x he hx => ⟨(h3 i e k x he hx).1, (h3 i e k x he hx).2.1.flat hM (List.all_eq_true.1 hq (k, x) (List.mem_of_getElem? hx)), (h3 i e k x he hx).2.2⟩⟩
  case mp.imap r es =>
    obtain ⟨en, clock, h1, h2, h3⟩ := hb
    exact ⟨en, clock, h1, h2, fun i e k x he hx => ⟨(h3 i e k x he hx).1, (h3 i e k x he hx).2.1.flat hM (List.all_eq_true.1 hq (k, x) (List.mem_of_getElem? hx)), (h3 i e k x he hx).2.2⟩⟩

theorem quiet_in (h : WR W0 Φ g stk w) (hs : Sub rd stk) : WR W0 (held Φ g (noTok rd) stk w) (g.keep (noTok rd)) (noTok rd) w := by
  have key : ∀ {l t x}, (g.keep (noTok rd)).β l t = some x → (lookB (noTok rd) l t).isSome = true ∧ g.β l t = some x := by
    intro l t x hx
    simp only [G.keep] at hx
    split at hx
    · rename_i hh; exact ⟨hh, hx⟩
    · cases hx
  refine ⟨h.below, h.mem, fun k o hp => ?_, fun l t b hb => ?_, fun l t x hx => ?_, fun l t x k hx hk => ?_, fun l t l' t' x x' k hx hx' hk hk' => ?_, fun l t x k b hx hk hb o v hm => ?_⟩
  · unfold held at hp
    split at hp
    · obtain ⟨ob, h1, rfl⟩ := Option.map_eq_some_iff.1 hp
      exact ⟨h1, fun off v hm l t x b hx hk hb => h.free l t x k b hx hk hb off v hm⟩
    · exact h.phi k o hp
  · obtain ⟨h1, h2⟩ := hs.quiet hb
    obtain ⟨hh, h3, h4⟩ := h.box l t b h1
    exact ⟨hh, by simp only [G.keep]; rw [if_pos (by rw [hb]; rfl)]; exact h3, BoxR.quiet (g := g.up l) (g' := (g.keep (noTok rd)).up l) rfl h4 h2⟩
  · obtain ⟨h1, _⟩ := key hx
    exact Option.isSome_iff_exists.1 h1
  · obtain ⟨h1, h2⟩ := key hx
    obtain ⟨a1, a2, a3⟩ := h.own l t x k h2 hk
    refine ⟨a1, a2, ?_⟩
    unfold held
    rw [if_neg]
    · exact a3
    · rintro ⟨l', t', x', hx', hk', hn⟩
      obtain ⟨rfl, rfl⟩ := h.sep l t l' t' x x' k h2 hx' hk hk'
      rw [hn] at h1
      cases h1
  · exact h.sep l t l' t' x x' k (key hx).2 (key hx').2 hk hk'
  · exact h.free l t x k b (key hx).2 hk (hs.quiet hb).1 o v hm

theorem quiet_out (h : WR W0 Φ g stk w) (hs : Sub rd stk) {g2 : G} {w' : World} (h2 : WR W0 (held Φ g (noTok rd) stk w) g2 (noTok rd) w') (he : Ext 0 (g.keep (noTok rd)) g2) :
    WR W0 Φ { M := g2.M, β := g.β } stk w' ∧ Ext 0 g { M := g2.M, β := g.β } ∧ Ext 0 g2 { M := g2.M, β := g.β } := by
  have same : ∀ {l t x}, g2.β l t = some x → g.β l t = some x := by
    intro l t x hx
    obtain ⟨b, hb⟩ := h2.has l t x hx
    obtain ⟨h1, hq⟩ := hs.quiet hb
    obtain ⟨hh, h3, h4⟩ := h.box l t b h1
    have h5 : (g.keep (noTok rd)).β l t = some hh := by simp only [G.keep]; rw [if_pos (by rw [hb]; rfl)]; exact h3
    obtain ⟨h', h6, hle⟩ := he.box l t hh (Nat.zero_le _) h5
    rw [hx] at h6
    cases h6
    cases hh <;> cases x <;> simp only [Hle, reduceCtorEq] at hle
    · cases hle; exact h3
    · cases b <;> simp only [BoxR] at h4
      cases hq
    · cases hle; exact h3
    · cases hle; exact h3
  have hmem : ∀ a v, g.M a = some v → g2.M a = some v := fun a v hm => he.mem a v hm
  have heap : ∀ l t x k, g.β l t = some x → x.blk = some k → lookB (noTok rd) l t = none → w'.heap[k]? = w.heap[k]? := by
    intro l t x k hx hk hn
    have hlt := (h.own l t x k hx hk).2.1
    obtain ⟨o, ho⟩ : ∃ o, w.heap[k]? = some o := ⟨_, Array.getElem?_eq_getElem hlt⟩
    rw [ho]
    have hp : held Φ g (noTok rd) stk w k = some (o, fun off => ∀ l t h b, g.β l t = some h → h.blk = some k → lookB stk l t = some b → b.frz off) := by
      unfold held
      rw [if_pos ⟨l, t, x, hx, hk, hn⟩, ho]
      rfl
    exact (h2.phi k _ hp).1
  have hext : Ext 0 g { M := g2.M, β := g.β } := ⟨hmem, fun l t x _ hx => ⟨x, hx, Hle.refl _⟩⟩
  refine ⟨⟨h2.below, h2.mem, fun k o hp => ?_, fun l t b hb => ?_, h.has, fun l t x k hx hk => ?_, h.sep, fun l t x k b hx hk hb o v hm => ?_⟩, hext, ⟨fun _ _ h => h, fun l t x _ hx => ⟨x, same hx, Hle.refl _⟩⟩⟩
  · have hno : ¬ ∃ l t x, g.β l t = some x ∧ x.blk = some k ∧ lookB (noTok rd) l t = none := by
      rintro ⟨l, t, x, hx, hk, _⟩
      have := (h.own l t x k hx hk).2.2
      rw [hp] at this
      cases this
    refine h2.phi k o ?_
    unfold held
    rw [if_neg hno]
    exact hp
  · obtain ⟨hh, h3, h4⟩ := h.box l t b hb
    refine ⟨hh, h3, ?_⟩
    cases hn : lookB (noTok rd) l t with
    | none => exact h4.mono (g' := ({ M := g2.M, β := g.β } : G).up l) (hext.mono (Nat.zero_le l)).up fun k hk => heap l t hh k h3 hk hn
    | some b1 =>
      obtain ⟨h5, hq⟩ := hs.quiet hn
      rw [hb] at h5
      cases h5
      obtain ⟨h6, h7, h8⟩ := h2.box l t b hn
      have := same h7
      rw [h3] at this
      cases this
      exact BoxR.quiet (g := g2.up l) (g' := ({ M := g2.M, β := g.β } : G).up l) rfl h8 hq
  · obtain ⟨a1, a2, a3⟩ := h.own l t x k hx hk
    refine ⟨a1, ?_, a3⟩
    cases hn : lookB (noTok rd) l t with
    | none =>
      have := heap l t x k hx hk hn
      rw [Array.getElem?_eq_getElem a2] at this
      exact (Array.getElem?_eq_some_iff.1 this).1
    | some b1 =>
      obtain ⟨h6, h7, h8⟩ := h2.box l t b1 hn
      have := same h7
      rw [hx] at this
      cases this
      exact (h2.own l t x k h7 hk).2.1
  · cases hn : lookB (noTok rd) l t with
    | some b1 =>
      obtain ⟨h5, hq⟩ := hs.quiet hn
      rw [hb] at h5
      cases h5
      obtain ⟨h6, h7, h8⟩ := h2.box l t b hn
      have := same h7
      rw [hx] at this
      cases this
      exact h2.free l t x k b h7 hk hn o v hm
    | none =>
      have hlt := (h.own l t x k hx hk).2.1
      obtain ⟨ob, ho⟩ : ∃ o, w.heap[k]? = some o := ⟨_, Array.getElem?_eq_getElem hlt⟩
      have hp : held Φ g (noTok rd) stk w k = some (ob, fun off => ∀ l t h b, g.β l t = some h → h.blk = some k → lookB stk l t = some b → b.frz off) := by
        unfold held
        rw [if_pos ⟨l, t, x, hx, hk, hn⟩, ho]
        rfl
      exact (h2.phi k _ hp).2 o v hm l t x b hx hk hb

/-! ### calls -/
/-- What a call says of the world. -/
def CallSnd (P : Program) (call : Call) : Prop :=
  ∀ (W0 : World) (Φ : Held) (g : G) (stk : Stk) (w : World) (f : FuncId) (xs : List V) (r : V × Stk) (us : List Value), call f xs stk = some r → WR W0 Φ g stk w → us.length = xs.length →
    (∀ (i : Nat) u x, us[i]? = some u → xs[i]? = some x → VR g u x) → (callFunc f us.toArray).run P w = .ok (.enter f us.toArray) w ∧
      Calls P f us.toArray w fun e w' => ∃ v g', e = .returned v ∧ VR g' v r.1 ∧ WR W0 Φ g' r.2 w' ∧ Ext 0 g g'

theorem calV_ok {call : Call} (hc : CallSnd P call) (h : WR W0 Φ g stk w) (hs : Sub rd stk) {q : Bool} {f : FuncId} {xs : List V} {us : List Value} {r : V × Stk} (hr : calV call q rd stk f xs = some r) (hl : us.length = xs.length)
    (hv : ∀ (i : Nat) u x, us[i]? = some u → xs[i]? = some x → VR g u x) : (callFunc f us.toArray).run P w = .ok (.enter f us.toArray) w ∧
      Calls P f us.toArray w fun e w' => ∃ v g', e = .returned v ∧ VR g' v r.1 ∧ WR W0 Φ g' r.2 w' ∧ Ext 0 g g' := by
  unfold calV at hr
  split at hr
  · split at hr
    · rename_i ys hco
      split at hr
      · rename_i hok
        split at hr
        · rename_i v s hcall
          split at hr
          · rename_i hsame
            replace hsame := stkEq_eq hsame
            cases hr
            have hs' : Sub (noTok rd) stk := fun l t b hb _ => (hs.quiet hb).1
            obtain ⟨hl', hv'⟩ := coL_ok h hs' hl hv hco
            obtain ⟨h1, h2⟩ := hc W0 _ _ _ w f ys _ us hcall (quiet_in h hs) hl' fun i u y hu hy => (hv' i u y hu hy).okB (okL_all hok y (List.mem_of_getElem? hy))
            refine ⟨h1, h2.mono ?_⟩
            rintro e w' ⟨v', g', rfl, hvr, hwr, hext⟩
            simp only [hsame] at hwr
            obtain ⟨k1, k2, k3⟩ := quiet_out h hs hwr hext
            exact ⟨v', _, rfl, hvr.mono k3, k1, k2⟩
          · cases hr
        · cases hr
      · cases hr
    · cases hr
  · split at hr
    · rename_i ys hco
      obtain ⟨g1, h1, e1⟩ := fzL_ok xs h
      obtain ⟨hl', hv'⟩ := coL_ok h1 (Sub.refl _) hl (fun i u x hu hx => (hv i u x hu hx).mono e1) hco
      obtain ⟨h2, h3⟩ := hc W0 _ _ _ w f ys _ us hr h1 hl' hv'
      refine ⟨h2, h3.mono ?_⟩
      rintro e w' ⟨v', g', rfl, hvr, hwr, hext⟩
      exact ⟨v', g', rfl, hvr, hwr, e1.trans hext⟩
    · cases hr

theorem ap3 {us vs ws : List Value} {as bs cs : List V} {g : G} (l1 : us.length = as.length) (p1 : ∀ (i : Nat) u x, us[i]? = some u → as[i]? = some x → VR g u x) (l2 : vs.length = bs.length) (p2 : ∀ (i : Nat) u x, vs[i]? = some u → bs[i]? = some x → VR g u x) :
    (us ++ vs).length = (as ++ bs).length ∧ ∀ (i : Nat) u x, (us ++ vs)[i]? = some u → (as ++ bs)[i]? = some x → VR g u x := by
  refine ⟨by simp [l1, l2], fun i u x hu hx => ?_⟩
  by_cases hi : i < us.length
  · rw [List.getElem?_append_left hi] at hu
    rw [List.getElem?_append_left (by omega)] at hx
    exact p1 i u x hu hx
  · rw [List.getElem?_append_right (by omega)] at hu
    rw [List.getElem?_append_right (by omega), ← l1] at hx
    exact p2 _ u x hu hx

variable {tm : List (Nat × V)} {a : Act}

/-- An operation runs as its shadow says, and hands over. -/
def Steps1 (W0 : World) (Φ : Held) (P : Program) (g : G) (r : V × Stk) (o : Oper) (a : Act) (w : World) : Prop :=
  ∀ (K : Act → World → Prop) (Q : Exit → Act → World → Prop), (∀ v w' g', VR g' v r.1 → WR W0 Φ g' r.2 w' → Ext 0 g g' → K (a.put o.dst v) w') → o.wp P a w K Q

theorem Steps1.of_next {o : Oper} {r : V × Stk} (h : OKN W0 Φ g r ((execOp a.eval o).run P w)) : Steps1 W0 Φ P g r o a w := by
  intro K Q hK
  obtain ⟨v, w', g', h1, h2, h3, h4⟩ := h
  unfold Oper.wp
  rcases h1 with h1 | ⟨h1, rfl⟩
  · rw [h1]; exact hK v w' g' h2 h3 h4
  · rw [h1]; exact hK undef w' g' h2 h3 h4
theorem Steps1.of_call {o : Oper} {r : V × Stk} {f : FuncId} {us : Array Value} (he : (execOp a.eval o).run P w = .ok (.enter f us) w)
    (h : Calls P f us w fun e w' => ∃ v g', e = .returned v ∧ VR g' v r.1 ∧ WR W0 Φ g' r.2 w' ∧ Ext 0 g g') : Steps1 W0 Φ P g r o a w := by
  intro K Q hK
  unfold Oper.wp
  rw [he, Oper.upon_enter]
  refine h.mono ?_
  rintro e w' ⟨v, g', rfl, h1, h2, h3⟩
  exact hK v w' g' h1 h2 h3

theorem blt_ok (h : WR W0 Φ g stk w) (hs : Sub rd stk) {b : Builtin} {ts : Array TypeId} {vs : List V} {d : Option Nat} {r : V × Stk} (hr : bltV P rd stk d b ts vs = some r) {us : List Value} (hl : us.length = vs.length)
    (hv : ∀ (i : Nat) u x, us[i]? = some u → vs[i]? = some x → VR g u x) (ty : TypeId) (cs : Array Bool) : OKN W0 Φ g r ((builtin b ts ty cs us.toArray).run P w) := by
  unfold bltV at hr
  split at hr
  · rename_i x
    split at hr
    · rename_i t htt
      obtain ⟨y, hy, rfl⟩ : ∃ y, lenV rd (kdT P t) x = some y ∧ r = (y, stk) := by
        cases hq : lenV rd (kdT P t) x with
        | none => rw [hq] at hr; cases hr
        | some y => rw [hq] at hr; cases hr; exact ⟨y, rfl, rfl⟩
      obtain ⟨u, rfl⟩ : ∃ u, us = [u] := by
        match us, hl with
        | [u], _ => exact ⟨u, rfl⟩
      have := len_ok h hs (t := t) (ty := ty) (hv 0 u x rfl rfl) hy
      refine OK.val (s := Builtin.len_ ts ty #[u]) ?_ rfl
      have e : (Builtin.len_ ts ty #[u]) = Builtin.len_ #[t] ty #[u] := by simp [Builtin.len_, htt]
      rw [e]
      exact this
    · cases hr
  · rename_i s x
    split at hr
    · rename_i t u htt
      split at hr
      · rename_i he
        subst he
        obtain ⟨p, q, rfl⟩ : ∃ p q, us = [p, q] := by
          match us, hl with
          | [p, q], _ => exact ⟨p, q, rfl⟩
        have e : ts = #[u, u] := Array.ext' (by simpa using htt)
        subst e
        exact OK.val (s := Builtin.append_ #[u, u] ty #[p, q]) (app_ok h hs (hv 0 p s rfl rfl) (hv 1 q x rfl rfl) hr) rfl
      · cases hr
    · cases hr
  · split at hr
    · rename_i he
      subst he
      cases hr
      obtain ⟨p, q, rfl⟩ : ∃ p q, us = [p, q] := by
        match us, hl with
        | [p, q], _ => exact ⟨p, q, rfl⟩
      have e1 := (hv 0 p _ rfl rfl).int_inv
      have e2 := (hv 1 q _ rfl rfl).int_inv
      subst e1 e2
      exact OK.val (s := Builtin.max_ ts ty _) (by rw [run_max_int2]; exact .same (.rd (.int _ _)) h) rfl
    · cases hr
  · split at hr
    · rename_i he
      subst he
      cases hr
      obtain ⟨p, q, rfl⟩ : ∃ p q, us = [p, q] := by
        match us, hl with
        | [p, q], _ => exact ⟨p, q, rfl⟩
      have e1 := (hv 0 p _ rfl rfl).int_inv
      have e2 := (hv 1 q _ rfl rfl).int_inv
      subst e1 e2
      exact OK.val (s := Builtin.min_ ts ty _) (by rw [run_min_int2]; exact .same (.rd (.int _ _)) h) rfl
    · cases hr
  · cases hr

theorem mth_ok {T : TypeId} {name : String} {f : FuncId} (h : mthV P T name = some f) (v : Value) (n : Nat) (hn : 0 < n) : (method n T v name).run P w = .ok (f, v) w := by
  obtain ⟨n, rfl⟩ : ∃ m, n = m + 1 := ⟨n - 1, by omega⟩
  unfold mthV at h
  split at h
  · rename_i i hi
    split at h
    · rename_i m hm
      split at h
      · rename_i f' hp hf hu
        cases h
        have hp' : m.path.toList = [] := by simpa using hp
        simp [method, typeInfo, hi, hm, hp', follow, hf, receiverAt, run_underlying hu, Place.get]
      · rename_i f' hp hf hu
        cases h
        have hp' : m.path.toList = [] := by simpa using hp
        simp [method, typeInfo, hi, hm, hp', follow, hf, receiverAt, run_underlying hu, Place.get]
      · cases h
    · cases h
  · cases h

/-- Every operation. -/
theorem evO_ok {A : An} {F : FuncId} {call : Call} (hc : CallSnd P call) (h : WR W0 Φ g stk w) (hs : Sub rd stk) (ht : TmR g tm a) {q : Bool} {o : Oper} {r : V × Stk} (hr : evO P A call F q rd o tm stk = some r) : Steps1 W0 Φ P g r o a w := by
  by_cases hop : ∃ c, o.op = .call c
  · obtain ⟨c, hop⟩ := hop
    unfold evO at hr
    rw [hop] at hr
    simp only at hr
    split at hr
    · rename_i b hb
      split at hr
      · rename_i vs hvs
        obtain ⟨us, e1, l1, p1⟩ := opds_arr ht hvs
        refine Steps1.of_next ?_
        have key := fun cs => blt_ok (P := P) h hs hr l1 p1 o.type cs
        unfold execOp
        simp only [hop, Sem.run_bind, resolve, hb, Sem.run_pure, Result.andThen_ok, invoke, e1]
        exact key _
      · cases hr
    · rename_i fo hf
      unfold calK at hr
      split at hr
      · rename_i f first caps vs hfo hvs
        obtain ⟨us, e1, l1, p1⟩ := opds_arr ht hvs
        obtain ⟨as, bs, e2, l2, l3, p2, p3⟩ := (opd_ok ht hfo).fn_inv
        have h12 := ap3 (cs := caps) (ws := bs) l2 p2 l1 p1
        have h123 := ap3 (cs := caps) (ws := bs) h12.1 h12.2 l3 p3
        obtain ⟨k1, k2⟩ := calV_ok hc h hs hr h123.1 h123.2
        refine Steps1.of_call ?_ k2
        unfold execOp
        simp only [hop, Sem.run_bind, resolve, hf, e1, e2]
        simp only [Deferred.ofValue, Sem.run_pure, Result.andThen_ok, invoke]
        have e3 : as.toArray ++ us.toArray ++ bs.toArray = (as ++ us ++ bs).toArray := by simp
        rw [e3]
        exact k1
      · cases hr
    · rename_i x name hf
      unfold calI at hr
      split at hr
      · rename_i T v vs hx hvs
        split at hr
        · rename_i f hm
          obtain ⟨us, e1, l1, p1⟩ := opds_arr ht hvs
          obtain ⟨u, e2, hu⟩ := (opd_ok ht hx).ifc_inv
          have h12 := ap3 (us := [u]) (as := [v]) (cs := vs) (ws := us) rfl (fun i p y hp hy => by
            match i with
            | 0 => simp at hp hy; subst hp; subst hy; exact hu
            | i + 1 => simp at hp) l1 p1
          obtain ⟨k1, k2⟩ := calV_ok hc h hs hr h12.1 h12.2
          refine Steps1.of_call ?_ k2
          unfold execOp
          simp only [hop, Sem.run_bind, resolve, hf, e1, e2, Sem.run_pure, Result.andThen_ok, invoke]
          have g1 : (#[Value.iface T u] ++ us.toArray)[0]? = some (.iface T u) := by simp
          have g2 : (#[Value.iface T u] ++ us.toArray).extract 1 = us.toArray := by simp
          simp only [g1, g2, callMethod, Sem.run_bind, run_program, Result.andThen_ok]
          rw [mth_ok hm u _ (by unfold Made.depth; omega)]
          simp only [Result.andThen_ok]
          have g3 : #[u] ++ us.toArray = ([u] ++ us).toArray := by simp
          rw [g3]
          exact k1
        · cases hr
      · cases hr
  · refine Steps1.of_next (evS_ok (A := A) (F := F) h hs ht o (fun c e => hop ⟨c, e⟩) ?_)
    unfold evO at hr
    split at hr
    · rename_i c hc'
      exact absurd ⟨c, hc'⟩ hop
    · exact hr
end
end Go.Shade
