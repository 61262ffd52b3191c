/-
  Regions whose order is drawn: what each operation looks at, and which may change places.
-/
import Derived.Test.YtcecleclipcheaaSh17
set_option linter.unusedVariables false
set_option linter.unusedSimpArgs false
namespace Go.Shade
open Go Go.RowKit

section
variable {P : Program} {A : An} {F : FuncId} {call : Call} {q : Bool} {rd : Stk} {o : Oper} {tm tm' : List (Nat × V)} {stk : Stk}

theorem opds_congr : ∀ {l : List Operand}, (∀ x ∈ l, opd tm' x = opd tm x) → opds tm' l = opds tm l
  | [], _ => rfl
  | x :: r, h => by simp only [opds, h x (by simp), opds_congr (l := r) fun y hy => h y (by simp [hy])]

theorem evO_congr (h : ∀ x ∈ o.op.operands, opd tm' x = opd tm x) : evO P A call F q rd o tm' stk = evO P A call F q rd o tm stk := by
  unfold evO
  cases hop : o.op <;> rw [hop] at h <;> simp only [evS]
  case call c =>
    have hargs : opds tm' c.args.toList = opds tm c.args.toList := opds_congr fun x hx => h x (by
      simp only [Op.operands, Call.operands]
      cases c.callee <;> simp_all)
    rw [hargs]
    cases hc : c.callee with
    | builtin b => rfl
    | value f => simp only; rw [h f (by simp [Op.operands, Call.operands, hc])]
    | invoke x n => simp only; rw [h x (by simp [Op.operands, Call.operands, hc])]
  case move x => rw [h x (by simp [Op.operands])]
  case assign x => rw [h x (by simp [Op.operands])]
  case pick c x y => rw [h c (by simp [Op.operands]), h x (by simp [Op.operands]), h y (by simp [Op.operands])]
  case box t x => rw [h x (by simp [Op.operands])]
  case build t ps => rw [opds_congr (tm := tm) (tm' := tm') fun x hx => h x (by simpa [Op.operands] using hx)]
  case buildSlice t l ps => rw [opds_congr (tm := tm) (tm' := tm') fun x hx => h x (by simpa [Op.operands] using hx)]
  case load t x => rw [h x (by simp [Op.operands])]
  case store t x y => rw [h x (by simp [Op.operands]), h y (by simp [Op.operands])]
  case nilCheck x => rw [h x (by simp [Op.operands])]
  case binOp op t x y u => rw [h x (by simp [Op.operands]), h y (by simp [Op.operands])]
  case unOp op t x => rw [h x (by simp [Op.operands])]
  case convert s t x => rw [h x (by simp [Op.operands])]
  case makeInterface t x => rw [h x (by simp [Op.operands])]
  case makeFunc f as bs =>
    cases f <;> try rfl
    simp only
    rw [opds_congr (tm := tm) (tm' := tm') (l := as.toList) fun x hx => h x (by simp only [Op.operands, Array.mem_append]; exact .inl (by simpa using hx)), opds_congr (tm := tm) (tm' := tm') (l := bs.toList) fun x hx => h x (by simp only [Op.operands, Array.mem_append]; exact .inr (by simpa using hx))]
  case makeMap t r => cases r <;> rfl
  case makeSlice t l c => rw [h l (by simp [Op.operands]), h c (by simp [Op.operands])]
  case slice t x lo hi mx =>
    cases mx <;> try rfl
    simp only
    rw [h x (by simp [Op.operands])]
    have e1 : lo.map (opd tm') = lo.map (opd tm) := by cases lo with
      | none => rfl
      | some l => simp only [Option.map_some]; rw [h l (by simp [Op.operands])]
    have e2 : hi.map (opd tm') = hi.map (opd tm) := by cases hi with
      | none => rfl
      | some l => simp only [Option.map_some]; rw [h l (by simp [Op.operands])]
    rw [e1, e2]
  case fieldAddr t x f => rw [h x (by simp [Op.operands])]
  case indexAddr t x i => rw [h x (by simp [Op.operands]), h i (by simp [Op.operands])]
  case index t x i => rw [h x (by simp [Op.operands]), h i (by simp [Op.operands])]
  case lookup t x i ok => rw [h x (by simp [Op.operands]), h i (by simp [Op.operands])]
  case mapUpdate t m k x => rw [h m (by simp [Op.operands]), h k (by simp [Op.operands]), h x (by simp [Op.operands])]
  case insert t m k x => rw [h m (by simp [Op.operands]), h k (by simp [Op.operands]), h x (by simp [Op.operands])]
  case extract x i => rw [h x (by simp [Op.operands])]

/-! ### classes -/
/-- Does an operation write into the boxes? -/
def wrB (A : An) (F : FuncId) (q : Bool) (o : Oper) : Bool :=
  match o.op with
  | .alloc _ | .box _ _ | .makeSlice _ _ _ | .makeMap _ _ | .store _ _ _ | .mapUpdate _ _ _ _ | .insert _ _ _ _ => true
  | .buildSlice _ _ _ => match o.dst with
    | some d => (A.apb F).contains d || (A.rowb F).contains d
    | none => true
  | .assign _ => match o.dst with
    | some d => (A.grow F).contains d
    | none => false
  | .call c => match c.callee with
    | .builtin .append => true
    | .builtin _ => false
    | _ => !q
  | _ => false
/-- Does it read what the boxes hold? -/
def rdB (o : Oper) : Bool :=
  match o.op with
  | .load _ _ | .buildSlice _ _ _ | .convert _ _ _ | .slice _ _ _ _ _ | .indexAddr _ _ _ | .lookup _ _ _ _ => true
  | .call _ => true
  | _ => false
/-- Does it turn what others read? -/
def brB (o : Oper) : Bool :=
  match o.op with
  | .store _ _ _ | .mapUpdate _ _ _ _ | .insert _ _ _ _ => true
  | _ => false

theorem map_snd {x : Option V} {r : V × Stk} (h : (x.map fun v => (v, stk)) = some r) : r.2 = stk ∧ x = some r.1 := by
  obtain ⟨v, h1, h2⟩ := Option.map_eq_some_iff.1 h
  subst h2
  exact ⟨rfl, h1⟩

theorem calV_quiet {f : FuncId} {vs : List V} {r : V × Stk} (h : calV call true rd stk f vs = some r) : r.2 = stk := by
  simp only [calV, if_true] at h
  repeat' (split at h)
  all_goals first | (cases h; done) | (cases h; rfl)
/-- What writes not, leaves the boxes. -/
theorem evO_wr (hw : wrB A F q o = false) {r : V × Stk} (h : evO P A call F q rd o tm stk = some r) : r.2 = stk := by
  unfold evO at h
  unfold wrB at hw
  cases hop : o.op <;> rw [hop] at h hw <;> simp only [evS, reduceCtorEq] at h hw
  case call c =>
    split at h
    · rename_i b hb
      split at h
      · rename_i vs hvs
        rw [hb] at hw
        unfold bltV at h
        split at h
        · split at h
          · unfold goP at h
            split at h
            · cases h; rfl
            · cases h
          · cases h
        · cases hw
        · split at h
          · cases h; rfl
          · cases h
        · split at h
          · cases h; rfl
          · cases h
        · cases h
      · cases h
    · rename_i f hf
      rw [hf] at hw
      have hq : q = true := by cases q <;> simp at hw ⊢
      subst hq
      unfold calK at h
      split at h
      · exact calV_quiet h
      · cases h
    · rename_i x name hf
      rw [hf] at hw
      have hq : q = true := by cases q <;> simp at hw ⊢
      subst hq
      unfold calI at h
      split at h
      · split at h
        · exact calV_quiet h
        · cases h
      · cases h
  case buildSlice t len ps =>
    unfold bslV at h
    split at h
    · split at h
      · split at h
        · split at h
          · rename_i d hd
            rw [hd] at hw
            simp only [Bool.or_eq_false_iff] at hw
            rw [hw.1, hw.2] at h
            simp only [Bool.false_eq_true, if_false] at h
            cases h; rfl
          · cases h
        · cases h
      · cases h
    · cases h
  case assign x =>
    split at h
    · rename_i hd
      rw [hd] at hw
      simp only at hw
      rw [hw] at h
      simp only [Bool.false_eq_true, if_false] at h
      cases h; rfl
    · cases h; rfl
    · cases h
  case makeFunc fn as bs =>
    cases fn <;> simp only [reduceCtorEq] at h
    split at h
    · cases h; rfl
    · cases h
  case slice t x lo hi mx =>
    cases mx <;> simp only [reduceCtorEq] at h
    split at h <;> first | (cases h; done) | exact (map_snd h).1
  all_goals first
    | (cases hw; done)
    | (repeat' (split at h)
       all_goals first | (cases h; done) | (cases h; rfl) | exact (map_snd h).1)
    | exact (map_snd h).1

/-- What reads not, sees no boxes. -/
theorem evO_rd (h : rdB o = false) (rd' : Stk) : evO P A call F q rd o tm stk = evO P A call F q rd' o tm stk := by
  unfold evO
  unfold rdB at h
  cases hop : o.op <;> rw [hop] at h <;> simp only [evS, reduceCtorEq] at h ⊢
  case makeFunc fn as bs => cases fn <;> rfl
  case makeMap t r => cases r <;> rfl

theorem map_stk {x : Option V} {r : V × Stk} (h : (x.map fun v => (v, stk)) = some r) (stk' : Stk) : (x.map fun v => (v, stk')) = some (r.1, stk') := by
  rw [(map_snd h).2]
  rfl
theorem calV_stk {f : FuncId} {vs : List V} {r : V × Stk} (h : calV call true rd stk f vs = some r) (stk' : Stk) : calV call true rd stk' f vs = some (r.1, stk') := by
  simp only [calV, if_true] at h ⊢
  split at h
  · rename_i ys hy
    split at h
    · rename_i hok
      simp only [hok, if_true]
      split at h
      · rename_i v s hc
        split at h
        · rename_i hs
          simp only [hs, if_true]
          cases h
          rfl
        · cases h
      · cases h
    · cases h
  · cases h
/-- What writes not, asks nothing of the boxes but what it reads. -/
theorem evO_stk (hw : wrB A F q o = false) {r : V × Stk} (h : evO P A call F q rd o tm stk = some r) (stk' : Stk) : evO P A call F q rd o tm stk' = some (r.1, stk') := by
  unfold evO at h ⊢
  unfold wrB at hw
  cases hop : o.op <;> rw [hop] at h hw <;> simp only [evS, reduceCtorEq] at h hw ⊢
  case call c =>
    split at h
    · rename_i b hb
      rw [hb] at hw
      split at h
      · rename_i vs hvs
        unfold bltV at h ⊢
        split at h
        · split at h
          · rename_i t ht
            unfold goP at h ⊢
            split at h
            · rename_i v hv
              cases h
              rfl
            · cases h
          · cases h
        · cases hw
        · split at h
          · rename_i hk; cases h; simp [hk]
          · cases h
        · split at h
          · rename_i hk; cases h; simp [hk]
          · cases h
        · cases h
      · cases h
    · rename_i f hf
      rw [hf] at hw
      have hq : q = true := by cases q <;> simp at hw ⊢
      subst hq
      unfold calK at h ⊢
      split at h
      · exact calV_stk h stk'
      · cases h
    · rename_i x name hf
      rw [hf] at hw
      have hq : q = true := by cases q <;> simp at hw ⊢
      subst hq
      unfold calI at h ⊢
      split at h
      · rename_i T v vs e1 e2
        split at h
        · rename_i g hm
          exact calV_stk h stk'
        · cases h
      · cases h
  case buildSlice t len ps =>
    unfold bslV at h ⊢
    split at h
    · rename_i vs e sz e1 e2
      split at h
      · rename_i hc
        rw [if_pos hc]
        split at h
        · rename_i rows hrows
          split at h
          · rename_i d hd
            rw [hd] at hw
            simp only [Bool.or_eq_false_iff] at hw
            simp only [hw.1, hw.2, Bool.false_eq_true, if_false] at h ⊢
            cases h; rfl
          · cases h
        · cases h
      · cases h
    · cases h
  case assign x =>
    split at h
    · rename_i sz d hx hd
      rw [hd] at hw
      simp only at hw
      simp only [hw, Bool.false_eq_true, if_false] at h ⊢
      cases h; rfl
    · cases h; rfl
    · cases h
  case makeFunc fn as bs =>
    cases fn <;> simp only [reduceCtorEq] at h ⊢
    split at h
    · cases h; rfl
    · cases h
  case slice t x lo hi mx =>
    cases mx <;> simp only [reduceCtorEq] at h ⊢
    split at h <;> first | (cases h; done) | exact map_stk h stk'
  case nilCheck x =>
    split at h <;> first | (cases h; done) | (cases h; rfl)
  case makeInterface t x =>
    split at h <;> first | (cases h; done) | (rename_i e1 e2; cases h; simp only [e1, e2])
  all_goals first
    | (cases hw; done)
    | exact map_stk h stk'
    | (split at h <;> first | (cases h; done) | (cases h; rfl) | exact map_stk h stk')

/-! ### what is read stays, but for what breaks it -/
theorem Sub.new {d : Option Nat} {b : B} {v : Nat → V} {r : V × Stk} (hs : Sub rd stk) (h : mkV stk d b v = some r) : Sub rd r.2 := by
  obtain ⟨d', f, q, rfl, rfl, hl, rfl⟩ := mkV_some_inv h
  intro l t b0 hb hn
  have := hs l t b0 hb hn
  rw [lookB_newB]
  split
  · rename_i e
    rw [e.1, e.2, hl] at this
    cases this
  · exact this
theorem Sub.tok {l b e sz n e' sz' n' : Nat} (hs : Sub rd stk) (h : lookB stk l b = some (.tok e sz n)) : Sub rd (setB stk l b (.tok e' sz' n')) := by
  intro l' t' b0 hb hn
  have := hs l' t' b0 hb hn
  rw [lookB_setB h]
  split
  · rename_i e
    rw [e.1, e.2, h] at this
    cases this
    exact absurd rfl (hn _ _ _)
  · exact this
theorem evO_sub (hb : brB o = false) (hq : wrB A F q o = false ∨ q = true) {r : V × Stk} (h : evO P A call F q rd o tm stk = some r) (hs : Sub rd stk) : Sub rd r.2 := by
  by_cases hw : wrB A F q o = false
  · rw [evO_wr hw h]
    exact hs
  · have hq := hq.resolve_left hw
    subst hq
    unfold evO at h
    unfold brB at hb
    unfold wrB at hw
    cases hop : o.op <;> rw [hop] at h hw hb <;> simp only [evS, reduceCtorEq, not_true_eq_false] at h hw hb
    case call c =>
      cases hc : c.callee <;> rw [hc] at hw h <;> simp only [Bool.not_true, not_true_eq_false] at hw h
      rename_i b
      cases b <;> simp only [not_true_eq_false] at hw
      split at h
      · unfold bltV at h
        split at h
        · rename_i heq _; cases heq
        · split at h
          · split at h
            · unfold appV at h
              split at h
              · split at h
                · split at h
                  · split at h
                    · rename_i hl
                      split at h
                      · cases h; exact hs.tok hl
                      · cases h
                    · cases h
                  · split at h
                    · cases h
                    · exact hs.new h
                  · cases h
                · cases h
              · cases h
            · cases h
          · cases h
        · rename_i heq _; cases heq
        · rename_i heq _; cases heq
        · cases h
      · cases h
    case alloc t =>
      split at h
      · exact hs.new h
      · cases h
    case box t x =>
      split at h
      · split at h
        · exact hs.new h
        · cases h
      · cases h
    case makeMap t r' =>
      cases r' <;> simp only [reduceCtorEq] at h
      split at h
      · exact hs.new h
      · exact hs.new h
      · cases h
    case makeSlice t l c =>
      split at h
      · unfold msl2 at h
        split at h
        · split at h
          · obtain ⟨z, _, h⟩ := Option.bind_eq_some_iff.1 h
            unfold mslV at h
            split at h
            · split at h
              · simp only at h
                split at h
                · exact hs.new h
                · split at h
                  · split at h
                    · exact hs.new h
                    · cases h; exact hs
                  · cases h
              · cases h
            · cases h
          · cases h
        · cases h
      · cases h
    case buildSlice t len ps =>
      unfold bslV at h
      split at h
      · split at h
        · split at h
          · split at h
            · split at h
              · exact hs.new h
              · split at h
                · exact hs.new h
                · cases h; exact hs
            · cases h
          · cases h
        · cases h
      · cases h
    case assign x =>
      split at h
      · split at h
        · split at h
          · exact hs.new h
          · cases h
        · cases h; exact hs
      · cases h; exact hs
      · cases h
end
end Go.Shade
