/-
  The operations, one by one: maps.
-/
import Derived.Test.YtcecleclipcheaaSh13
import Derived.MapKept
set_option linter.unusedVariables false
set_option linter.unusedSimpArgs false
namespace Go.Shade
open Go Go.RowKit Go.MapKept

section
variable {P : Program} {W0 : World} {Φ : Held} {g : G} {rd stk : Stk} {w : World}

theorem bbeq (a b : ByteArray) : (a == b) = decide (a = b) := by
  obtain ⟨⟨x⟩⟩ := a
  obtain ⟨⟨y⟩⟩ := b
  show ((⟨x⟩ : Array UInt8) == ⟨y⟩) = _
  by_cases h : x = y <;> simp [h]

/-- The entries of a map, by their keys. -/
def EnR {κ : Type} (g : G) (key : κ → Value) (en : List MapEntry) (es : List (κ × V)) : Prop :=
  en.length = es.length ∧ ∀ (i : Nat) e k x, en[i]? = some e → es[i]? = some (k, x) → e.key = key k ∧ VR g e.val x ∧ x.atom = true

theorem EnR.tail {κ : Type} {g : G} {key : κ → Value} {e : MapEntry} {en : List MapEntry} {p : κ × V} {es : List (κ × V)} (h : EnR g key (e :: en) (p :: es)) : EnR g key en es :=
  ⟨by simpa using h.1, fun i e' k x h1 h2 => h.2 (i + 1) e' k x (by simpa using h1) (by simpa using h2)⟩

theorem find_ok {κ : Type} [DecidableEq κ] {g : G} {key : κ → Value} {d : TypeDesc} (hsame : ∀ a b, Instr.sameNow d (key a) (key b) = some (decide (a = b))) (k : κ) : ∀ (en : List MapEntry) (es : List (κ × V)) (i : Nat), EnR g key en es →
    (mlook es k = none ∧ Instr.findNow d (key k) en i = some none ∧ ∀ v, mput k v es = es ++ [(k, v)]) ∨
    ∃ j e x, mlook es k = some x ∧ en[j]? = some e ∧ e.key = key k ∧ VR g e.val x ∧ x.atom = true ∧ Instr.findNow d (key k) en i = some (some (i + j, e.val)) ∧ ∀ v, mput k v es = es.set j (k, v)
  | [], [], i, _ => .inl ⟨rfl, rfl, fun v => rfl⟩
  | [], _ :: _, _, h => by simp [EnR] at h
  | _ :: _, [], _, h => by simp [EnR] at h
  | e :: en, (k', x) :: es, i, h => by
    obtain ⟨h1, h2, h3⟩ := h.2 0 e k' x rfl rfl
    by_cases hk : k = k'
    · refine .inr ⟨0, e, x, by simp [mlook, hk], rfl, by rw [h1, hk], h2, h3, ?_, fun v => by simp [mput, hk]⟩
      simp [Instr.findNow, h1, hsame, hk]
    · rcases find_ok hsame k en es (i + 1) h.tail with ⟨a1, a2, a3⟩ | ⟨j, e', x', b1, b2, b3, b4, b5, b6, b7⟩
      · exact .inl ⟨by simp [mlook, hk, a1], by simp [Instr.findNow, h1, hsame, hk, a2], fun v => by simp [mput, hk, a3]⟩
      · refine .inr ⟨j + 1, e', x', by simp [mlook, hk, b1], by simpa using b2, b3, b4, b5, ?_, fun v => by simp [mput, hk, b7]⟩
        simp [Instr.findNow, h1, hsame, hk, b6]
        omega

theorem mlook_none {κ : Type} [DecidableEq κ] {c k : κ} {y : V} : ∀ {es : List (κ × V)} {i : Nat}, mlook es c = none → es[i]? = some (k, y) → k ≠ c
  | [], i, _, h => by simp at h
  | (a, x) :: r, 0, h, h2 => by
    simp at h2
    obtain ⟨rfl, rfl⟩ := h2
    intro e
    subst e
    simp [mlook] at h
  | (a, x) :: r, i + 1, h, h2 => by
    simp only [mlook] at h
    split at h
    · cases h
    · exact mlook_none h (by simpa using h2)
theorem same_str (a b : ByteArray) : Instr.sameNow .string (.string a) (.string b) = some (decide (a = b)) := by simp [Instr.sameNow, bbeq]
theorem same_int (k : IntKind) (a b : Int) : Instr.sameNow (.int k) (.int .i64 a) (.int .i64 b) = some (decide (a = b)) := by
  simp [Instr.sameNow, ibeq]

theorem check_str {kt : TypeId} (hd : P.underlying kt = some .string) (s : ByteArray) (e : Bool) : (Instr.checkKey e 10000 kt (.string s)).run P w = .ok () w := run_checkKey hd (show IsKey .string (.string s) from trivial) e 9999
theorem check_int {kt : TypeId} {k : IntKind} (hd : P.underlying kt = some (.int k)) (n : Int) (e : Bool) : (Instr.checkKey e 10000 kt (.int .i64 n)).run P w = .ok () w := by
  have : ∀ m, (Instr.checkKey e (m + 1) kt (.int .i64 n)).run P w = .ok () w := fun m => by
    unfold Instr.checkKey
    simp [run_underlying hd]
  exact this 9999

theorem mpTy_ok {t : TypeId} {s : Bool} {z : List V} (h : mpTy P t = some (s, z)) : ∃ k e, P.underlying t = some (.map k e) ∧ z = zero1 P e ∧ (s = true → P.underlying k = some .string) ∧ (s = false → ∃ κ, P.underlying k = some (.int κ)) := by
  unfold mpTy at h
  split at h
  · rename_i k e hu
    split at h
    · rename_i hk
      cases h
      exact ⟨k, e, hu, rfl, fun _ => hk, by intro h; cases h⟩
    · rename_i κ hk
      cases h
      exact ⟨k, e, hu, rfl, (fun h => by cases h), fun _ => ⟨κ, hk⟩⟩
    · cases h
  · cases h
theorem zero1_ok {t : TypeId} {z : V} (h : zero1 P t = [z]) : ∃ u, (zeroValue t).run P w = .ok u w ∧ VR g u z := by
  unfold zero1 at h
  split at h
  · rename_i n z' ht hz
    obtain ⟨i, u, h1, h2, h3, h4, h5, h6⟩ := zeroC_ok (g := g) hz
    simp only [h1, Option.bind_some, h2] at h
    have one_u : one u = true ∧ z' = z := by
      split at h
      · cases h
      · cases h
      · rename_i hn1 hn2
        cases h
        refine ⟨?_, rfl⟩
        cases u <;> first | rfl | (exact absurd rfl (hn1 _)) | (exact absurd rfl (hn2 _))
    obtain ⟨ho, rfl⟩ := one_u
    refine ⟨u, run_zero h1 h2, ?_⟩
    have := h5 0 u z' (by rw [cells_one ho]; rfl) rfl
    exact this
  · cases h

theorem lk_ok (h : WR W0 Φ g stk w) (hs : Sub rd stk) {t : TypeId} {u v : Value} {x k y : V} {ok : Bool} (hu : VR g u x) (hv : VR g v k) (hy : lkM P rd t x k ok = some y) : OK W0 Φ g (y, stk) ((Instr.lookup t u v ok).run P w) := by
  have pair : ∀ (a : Value) (b : Bool) (x : V), VR g a x → VR g (.tuple #[a, .bool b]) (.tup [x, .bool b]) := by
    intro a b x ha
    refine .tup [a, .bool b] [x, .bool b] rfl fun i v y hv hy => ?_
    match i with
    | 0 => simp at hv hy; subst hv; subst hy; exact ha
    | 1 => simp at hv hy; subst hv; subst hy; exact .rd (.bool _)
    | i + 2 => simp at hv
  have fin : ∀ (kt e : TypeId) (r : Nat) (en : Array MapEntry) (clock : Nat) (q : Option (Nat × Value)), P.underlying t = some (.map kt e) → u = .map (some r) → w.heap[r]? = some (.map en clock) →
      (∀ b, (Instr.checkKey b 10000 kt v).run P w = .ok () w) → (Instr.findKey kt v en.toList).run P w = .ok q w →
      (Instr.lookup t u v ok).run P w = match q with
        | some (_, a) => .ok (if ok then .tuple #[a, .bool true] else a) w
        | none => ((zeroValue e).run P w).andThen fun z w => .ok (if ok then .tuple #[z, .bool false] else z) w := by
    intro kt e r en clock q h1 h2 h3 h4 h5
    subst h2
    simp only [Instr.lookup, Sem.run_bind, run_underlying h1, Result.andThen_ok, Go.run_getObj_map w r en clock h3, Sem.run_pure, h4, h5]
    cases q with
    | none =>
      simp only [Sem.run_bind, Sem.run_pure]
      cases (zeroValue e).run P w <;> simp [Result.andThen]
    | some p => obtain ⟨j, a⟩ := p; simp
  unfold lkM at hy
  split at hy
  · rename_i l b s z hm
    obtain ⟨kt, e, h1, rfl, hk1, hk2⟩ := mpTy_ok hm
    obtain ⟨r, hb, rfl⟩ := hu.mp_inv
    have done : ∀ {κ : Type} [DecidableEq κ] (key : κ → Value) (d : TypeDesc) (hsame : ∀ a b, Instr.sameNow d (key a) (key b) = some (decide (a = b))) (c : κ) (es : List (κ × V)) (en : Array MapEntry) (clock : Nat), v = key c → P.underlying kt = some d →
        (∀ b, (Instr.checkKey b 10000 kt v).run P w = .ok () w) → w.heap[r]? = some (.map en clock) → EnR (g.up l) key en.toList es →
        lkR (zero1 P e) l ok (mlook es c) = some y → OK W0 Φ g (y, stk) ((Instr.lookup t (.map (some r)) v ok).run P w) := by
      intro κ _ key d hsame c es en clock hv' hd hck hheap hen hy
      have hfk : ∀ q, Instr.findNow d (key c) en.toList 0 = some q → (Instr.findKey kt v en.toList).run P w = .ok q w := fun q hq => run_findKey hd (by rw [hv']; exact hq)
      rcases find_ok hsame c en.toList es 0 hen with ⟨a1, a2, _⟩ | ⟨j, e', x', b1, b2, b3, b4, b5, b6, _⟩
      · rw [fin kt e r en clock none h1 rfl hheap hck (hfk _ a2)]
        rw [a1] at hy
        unfold lkR at hy
        simp only at hy
        split at hy
        · rename_i z hz
          obtain ⟨zu, hz1, hz2⟩ := zero1_ok (g := g) (w := w) hz
          cases hy
          simp only [hz1, Result.andThen_ok]
          refine .same ?_ h
          cases ok
          · exact hz2
          · exact pair _ _ _ hz2
        · cases hy
      · rw [fin kt e r en clock _ h1 rfl hheap hck (hfk _ b6)]
        rw [b1] at hy
        unfold lkR at hy
        simp only at hy
        cases hy
        refine .same ?_ h
        cases ok
        · exact b4.upV
        · exact pair _ _ _ b4.upV
    split at hy
    · rename_i es c hl
      obtain ⟨hh, e1, e2⟩ := h.box l b _ (hs _ _ _ hl (by intros; simp))
      rw [hb] at e1
      cases e1
      obtain ⟨en, clock, e3, e4, e5⟩ := e2
      obtain rfl := hv.str_inv
      exact done (fun s => Value.string s) .string same_str c es en clock rfl (hk1 rfl) (fun b => check_str (hk1 rfl) _ b) e3.1 ⟨by simpa using e4, fun i e k x he hx => e5 i e k x (by simpa using he) hx⟩ hy
    · rename_i es c hl
      obtain ⟨hh, e1, e2⟩ := h.box l b _ (hs _ _ _ hl (by intros; simp))
      rw [hb] at e1
      cases e1
      obtain ⟨en, clock, e3, e4, e5⟩ := e2
      obtain rfl := hv.int_inv
      obtain ⟨κ, hκ⟩ := hk2 rfl
      exact done (fun n => Value.int .i64 n) (.int κ) (same_int κ) c es en clock rfl hκ (fun b => check_int hκ _ b) e3.1 ⟨by simpa using e4, fun i e k x he hx => e5 i e k x (by simpa using he) hx⟩ hy
    · cases hy
  · cases hy

/-! ### updates -/
theorem pu_ok (h : WR W0 Φ g stk w) {t : TypeId} {u v q : Value} {x k y : V} (hu : VR g u x) (hv : VR g v k) (hq : VR g q y) {s : Stk} (hy : puM P stk t x k y = some s) :
    ∃ w' g', (Instr.mapUpdate t u v q).run P w = .ok () w' ∧ WR W0 Φ g' s w' ∧ Ext 0 g g' := by
  unfold puM at hy
  split at hy
  · rename_i l b s z hm
    obtain ⟨kt, e, h1, _, hk1, hk2⟩ := mpTy_ok hm
    obtain ⟨r, hb, rfl⟩ := hu.mp_inv
    have done : ∀ {κ : Type} [DecidableEq κ] (key : κ → Value) (d : TypeDesc) (hsame : ∀ a b, Instr.sameNow d (key a) (key b) = some (decide (a = b))) (c : κ) (es : List (κ × V)) (en : Array MapEntry) (clock : Nat) (y' : V) (mk : List (κ × V) → B), v = key c → P.underlying kt = some d →
        (∀ b, (Instr.checkKey b 10000 kt v).run P w = .ok () w) → (∀ a, Instr.sameBits 10000 (key a) (key a) = true) → (w.heap[r]? = some (.map en clock) ∧ Stamped en clock) → EnR (g.up l) key en.toList es → lookB stk l b = some (mk es) → V.down l y = some y' → y'.atom = true → (∀ o, ¬ (mk es).frz o) →
        (∀ (g : G) (w : World) (en : Array MapEntry) (clock : Nat) es, (w.heap[r]? = some (.map en clock) ∧ Stamped en clock) → EnR g key en.toList es → BoxR g w (.mp r) (mk es)) →
        ∃ w' g', (Instr.mapUpdate t (.map (some r)) v q).run P w = .ok () w' ∧ WR W0 Φ g' (setB stk l b (mk (mput c y' es))) w' ∧ Ext 0 g g' := by
      intro κ _ key d hsame c es en clock y' mk hv' hd hck hself ⟨hheap, hstm⟩ hen hl hdn hat hnf hbox
      have hfk : ∀ q, Instr.findNow d (key c) en.toList 0 = some q → (Instr.findKey kt v en.toList).run P w = .ok q w := fun q hq => run_findKey hd (by rw [hv']; exact hq)
      have hq' : VR (g.up l) q y' := hq.downV hdn
      have hlt := (Array.getElem?_eq_some_iff.1 hheap).1
      have hnot := fun {a : Addr} {v : Value} => h.M_not (a := a) (v := v) hb rfl hl hnf
      have fin : ∀ (en' : Array MapEntry) (clock' : Nat) es', Stamped en' clock' → EnR (g.up l) key en'.toList es' → mput c y' es = es' → (Instr.mapUpdate t (.map (some r)) v q).run P w = .ok () { w with heap := w.heap.setIfInBounds r (.map en' clock') } →
          ∃ w' g', (Instr.mapUpdate t (.map (some r)) v q).run P w = .ok () w' ∧ WR W0 Φ g' (setB stk l b (mk (mput c y' es))) w' ∧ Ext 0 g g' := by
        intro en' clock' es' hst' hen' he hrun
        rw [he]
        have hget : ({ w with heap := w.heap.setIfInBounds r (.map en' clock') } : World).heap[r]? = some (.map en' clock') := by simp [hlt]
        have hupd := h.upd (g' := g) (stk' := setB stk l b (mk es')) (w' := { w with heap := w.heap.setIfInBounds r (.map en' clock') }) l b (mk es') (.mp r) r rfl rfl rfl (by simp)
          (fun i hi _ => by show (w.heap.setIfInBounds r _)[i]? = _; rw [Array.getElem?_setIfInBounds_ne (Ne.symm hi)]) (h.own l b _ r hb rfl).1 (.inl ⟨_, hb, rfl⟩) (fun _ _ h => h)
          (fun a v hm => by
            have := hnot hm
            rw [World.cell?_of_block (w := w) (by show (w.heap.setIfInBounds r _)[a.block]? = _; rw [Array.getElem?_setIfInBounds_ne (Ne.symm this)])]
            exact h.mem _ _ hm) (fun _ _ hm _ => hm) (fun _ _ _ => rfl) hb (fun h0 hb0 => by rw [hb] at hb0; cases hb0; exact Hle.refl _)
          (fun l' t' => lookB_setB hl l' t') (hbox _ _ en' clock' es' ⟨hget, hst'⟩ hen')
          (fun k' hk' => by cases hk'; exact ⟨rfl, by simpa using hlt⟩)
          (fun k' hk' o v hm => absurd rfl (hnot hm))
        exact ⟨_, _, hrun, hupd.1, hupd.2⟩
      rcases find_ok hsame c en.toList es 0 hen with ⟨a1, a2, a3⟩ | ⟨j, e', x', b1, b2, b3, b4, b5, b6, b7⟩
      · refine fin (en.push { key := v, val := q, born := clock }) (clock + 1) (es ++ [(c, y')]) (stamped_push hstm fun x hx e => ?_) ⟨by simpa using hen.1, fun i e k x he hx => ?_⟩ (a3 y') ?_
        · obtain ⟨i, hi⟩ := List.mem_iff_getElem?.1 hx
          obtain ⟨p, hp⟩ : ∃ p, es[i]? = some p := ⟨_, List.getElem?_eq_getElem (by have := (List.getElem?_eq_some_iff.1 hi).1; rw [hen.1] at this; exact this)⟩
          obtain ⟨k, y⟩ := p
          have hk := (hen.2 i x k y hi hp).1
          have hsm := hsame k c
          rw [← hk, e, hv', hsame c c] at hsm
          exact mlook_none a1 hp (by simpa using hsm.symm)
        · simp only [Array.toList_push] at he
          by_cases hi : i < es.length
          · rw [List.getElem?_append_left (by rw [hen.1]; exact hi)] at he
            rw [List.getElem?_append_left hi] at hx
            exact hen.2 i e k x he hx
          · rw [List.getElem?_append_right (by omega)] at hx
            rw [List.getElem?_append_right (by rw [hen.1]; omega), hen.1] at he
            cases hi' : i - es.length with
            | zero =>
              rw [hi'] at he hx
              simp at he hx
              obtain ⟨rfl, rfl⟩ := hx
              subst he
              exact ⟨hv', hq', hat⟩
            | succ m => rw [hi'] at hx; simp at hx
        · simp only [Instr.mapUpdate, Sem.run_bind, run_underlying h1, Result.andThen_ok, Go.run_getObj_map w r en clock hheap, hck, hfk _ a2, Go.MapKept.run_setObj_map _ hheap]
      · have hjl := (List.getElem?_eq_some_iff.1 b2).1
        have hen2 : (en.modify j fun e => { e with key := v, val := q }).toList = en.toList.set j { e' with key := v, val := q } := by
          apply List.ext_getElem?
          intro i
          rw [Array.getElem?_toList, Array.getElem?_modify, List.getElem?_set]
          by_cases hi : j = i
          · subst hi
            have : en[j]? = some e' := by simpa using b2
            simp [this, hjl]
            simpa using hjl
          · simp [hi]
        refine fin (en.modify j fun e => { e with key := v, val := q }) clock (es.set j (c, y')) (stamped_modify hstm j _ (fun _ _ => rfl) fun x _ hx => ?_) ⟨by simpa using hen.1, fun i e k x he hx => ?_⟩ (b7 y') ?_
        · have : en[j]? = some e' := by simpa using b2
          rw [hx] at this
          cases this
          rw [hv', b3]
        · rw [hen2] at he
          by_cases hi : j = i
          · subst hi
            rw [List.getElem?_set_self hjl] at he
            rw [List.getElem?_set_self (by rw [← hen.1]; exact hjl)] at hx
            cases he
            cases hx
            exact ⟨hv', hq', hat⟩
          · rw [List.getElem?_set_ne hi] at he hx
            exact hen.2 i e k x he hx
        · have hkey : ((en[j]?).map (·.key)).getD v = key c := by
            have : en[j]? = some e' := by simpa using b2
            simp [this, b3]
          simp only [Nat.zero_add] at b6
          simp only [Instr.mapUpdate, Sem.run_bind, run_underlying h1, Result.andThen_ok, Go.run_getObj_map w r en clock hheap, hck, hfk _ b6, Instr.keyThatStays, hkey]
          rw [hv', hself]
          simp only [if_true, Sem.run_pure, Result.andThen_ok, Go.MapKept.run_setObj_map _ hheap]
    split at hy
    · rename_i es c y' hl hdn
      split at hy
      · rename_i hat
        cases hy
        obtain ⟨hh, e1, e2⟩ := h.box l b _ hl
        rw [hb] at e1
        cases e1
        obtain ⟨en, clock, e3, e4, e5⟩ := e2
        obtain rfl := hv.str_inv
        exact done (fun s => Value.string s) .string same_str c es en clock y' .smap rfl (hk1 rfl) (fun b => check_str (hk1 rfl) _ b) (fun a => by simp [Instr.sameBits, bbeq]) e3
          ⟨by simpa using e4, fun i e k x he hx => e5 i e k x (by simpa using he) hx⟩ hl hdn hat (fun o hf => hf)
          (fun g w en clock es hh he => ⟨en, clock, hh, by simpa using he.1, fun i e k x h1 h2 => he.2 i e k x (by simpa using h1) h2⟩)
      · cases hy
    · rename_i es c y' hl hdn
      split at hy
      · rename_i hat
        cases hy
        obtain ⟨hh, e1, e2⟩ := h.box l b _ hl
        rw [hb] at e1
        cases e1
        obtain ⟨en, clock, e3, e4, e5⟩ := e2
        obtain rfl := hv.int_inv
        obtain ⟨κ, hκ⟩ := hk2 rfl
        exact done (fun n => Value.int .i64 n) (.int κ) (same_int κ) c es en clock y' .imap rfl hκ (fun b => check_int hκ _ b) (fun a => by simp [Instr.sameBits]) e3
          ⟨by simpa using e4, fun i e k x he hx => e5 i e k x (by simpa using he) hx⟩ hl hdn hat (fun o hf => hf)
          (fun g w en clock es hh he => ⟨en, clock, hh, by simpa using he.1, fun i e k x h1 h2 => he.2 i e k x (by simpa using h1) h2⟩)
      · cases hy
    · cases hy
  · cases hy
end
end Go.Shade
