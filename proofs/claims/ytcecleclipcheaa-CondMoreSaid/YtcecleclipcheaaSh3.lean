/-
  The limit of the shadow's runs, and its equations.
-/
import Derived.Test.YtcecleclipcheaaSh2
set_option linter.unusedVariables false
namespace Go.Shade
open Go

/-! ### limits -/
section
variable {α : Type}
open Classical in
noncomputable def lim (f : Nat → Option α) : Option α := if h : ∃ n r, f n = some r then f h.choose else none
def Grow (f : Nat → Option α) : Prop := ∀ n r, f n = some r → f (n + 1) = some r
theorem Grow.le {f : Nat → Option α} (h : Grow f) {n m : Nat} (hm : n ≤ m) {r : α} (hr : f n = some r) : f m = some r := by
  induction hm with
  | refl => exact hr
  | step _ ih => exact h _ _ ih
theorem lim_iff {f : Nat → Option α} (h : Grow f) (r : α) : lim f = some r ↔ ∃ n, f n = some r := by
  unfold lim
  split
  · rename_i hx
    obtain ⟨r', hr'⟩ := hx.choose_spec
    constructor
    · exact fun e => ⟨_, e⟩
    · rintro ⟨n, hn⟩
      have h1 := h.le (Nat.le_max_left hx.choose n) hr'
      have h2 := h.le (Nat.le_max_right hx.choose n) hn
      rw [h1] at h2
      rw [hr', h2]
  · rename_i hx
    exact ⟨fun e => (by cases e), fun ⟨n, hn⟩ => absurd ⟨n, r, hn⟩ hx⟩
end

def CallLe (c c' : Call) : Prop := ∀ g vs stk r, c g vs stk = some r → c' g vs stk = some r

section
variable {P : Program} {A : An} {c c' : Call} {F rid : Nat}

theorem calV_mono (h : CallLe c c') {q : Bool} {rd stk : Stk} {g : FuncId} {vs : List V} {r : V × Stk} (hr : calV c q rd stk g vs = some r) : calV c' q rd stk g vs = some r := by
  unfold calV at *
  cases q with
  | true =>
    simp only [if_true] at *
    cases hco : V.coL (noTok rd) vs with
    | none => simp [hco] at hr
    | some vs' =>
      simp only [hco] at *
      cases hc : c g vs' (noTok rd) with
      | none => simp [hc] at hr
      | some p =>
        obtain ⟨r', s⟩ := p
        rw [h _ _ _ _ hc]
        rw [hc] at hr
        exact hr
  | false =>
    simp only [Bool.false_eq_true, if_false] at *
    cases hco : V.coL (V.fzL vs stk) vs with
    | none => simp [hco] at hr
    | some vs' =>
      simp only [hco] at *
      exact h _ _ _ _ hr

theorem calK_mono (h : CallLe c c') {q : Bool} {rd stk : Stk} {x : Option V} {y : Option (List V)} {r : V × Stk} (hr : calK c q rd stk x y = some r) : calK c' q rd stk x y = some r := by
  unfold calK at *
  split at hr
  · exact calV_mono h hr
  · cases hr
theorem calI_mono (h : CallLe c c') {name : String} {q : Bool} {rd stk : Stk} {x : Option V} {y : Option (List V)} {r : V × Stk} (hr : calI P c name q rd stk x y = some r) : calI P c' name q rd stk x y = some r := by
  unfold calI at *
  split at hr
  · split at hr
    · rename_i hm
      try simp only [hm]
      exact calV_mono h hr
    · cases hr
  · cases hr
theorem evO_mono (h : CallLe c c') {q : Bool} {rd stk : Stk} {o : Oper} {tm : List (Nat × V)} {r : V × Stk} (hr : evO P A c F q rd o tm stk = some r) : evO P A c' F q rd o tm stk = some r := by
  unfold evO at *
  split at hr
  · split at hr
    · exact hr
    · exact calK_mono h hr
    · exact calI_mono h hr
  · exact hr

theorem evL_mono (h : CallLe c c') {rd : Option Stk} {q : Bool} {ops : Array Oper} : ∀ {l : List Oper} {tm : List (Nat × V)} {stk : Stk} {r : St},
    evL P A c F rd q ops l tm stk = some r → evL P A c' F rd q ops l tm stk = some r
  | [], _, _, _, hr => hr
  | o :: l, tm, stk, r, hr => by
    unfold evL at *
    split <;> rename_i hg <;> simp only [hg] at hr
    · split at hr
      · rename_i v s he
        rw [evO_mono h he]
        exact evL_mono h hr
      · cases hr
    · exact evL_mono h hr
    · cases hr

theorem evR_mono (h : CallLe c c') {ops : Array Oper} {d : Bool} {S S' : St} (hr : evR P A c F rid ops d S = some S') : evR P A c' F rid ops d S = some S' := by
  unfold evR at *
  split <;> rename_i hd <;> simp only [hd, if_true, if_false, Bool.false_eq_true] at hr
  · exact evL_mono h hr
  · exact evL_mono h hr
end

section
variable (P : Program) (A : An) (pr : FuncId → Option (List V → Stk → Option (V × Stk)))

theorem thenE_some {a : Option (Ex × St)} {k : St → Option (Ex × St)} {r : Ex × St} (h : thenE a k = some r) : (∃ S, a = some (.nm, S) ∧ k S = some r) ∨ (a = some r ∧ r.1 ≠ .nm) := by
  unfold thenE at h
  split at h
  · rename_i S
    exact .inl ⟨S, rfl, h⟩
  · rename_i hx
    refine .inr ⟨h, fun e => ?_⟩
    obtain ⟨e', S⟩ := r
    cases e
    exact hx S h

theorem blockE_mono {id : Nat} {a a' : Option (Ex × St)} {r : Ex × St} (h : ∀ r, a = some r → a' = some r) (hr : blockE id a = some r) : blockE id a' = some r := by
  cases a with
  | none => simp [blockE] at hr
  | some q => rw [h q rfl]; exact hr
theorem bodyE_mono {P : Program} {fn : Func} {a a' : Option (Ex × St)} {r : V × Stk} (h : ∀ r, a = some r → a' = some r) (hr : bodyE P fn a = some r) : bodyE P fn a' = some r := by
  cases a with
  | none => simp [bodyE] at hr
  | some q => rw [h q rfl]; exact hr

theorem grow_both : ∀ n, (∀ F c S r, evN P A pr n F c S = some r → evN P A pr (n + 1) F c S = some r) ∧ (CallLe (clN P A pr n) (clN P A pr (n + 1)))
  | 0 => ⟨fun F c S r h => by simp [evN] at h, fun g vs stk r h => by simp [clN] at h⟩
  | n + 1 => by
    obtain ⟨ih1, ih2⟩ := grow_both n
    have ht : ∀ {a a' : Option (Ex × St)} {k k' : St → Option (Ex × St)} {r}, (∀ r, a = some r → a' = some r) → (∀ S r, k S = some r → k' S = some r) → thenE a k = some r → thenE a' k' = some r := by
      intro a a' k k' r ha hk h
      rcases thenE_some h with ⟨S, h1, h2⟩ | ⟨h1, h2⟩
      · rw [ha _ h1]; exact hk _ _ h2
      · rw [ha _ h1]
        obtain ⟨e, S⟩ := r
        cases e with
        | nm => exact absurd rfl h2
        | ex i => rfl
        | rt => rfl
    refine ⟨fun F c S r h => ?_, fun g vs stk r h => ?_⟩
    · cases c <;> simp only [evN] at h ⊢ <;> try exact h
      case region id ops d =>
        obtain ⟨S', hs, he⟩ := Option.map_eq_some_iff.1 h
        rw [evR_mono ih2 hs]
        simp [he]
      case seq a b => exact ht (fun r => ih1 _ _ _ r) (fun S r => ih1 _ _ _ r) h
      case cond x a b =>
        split at h
        · exact ih1 _ _ _ _ h
        · exact ih1 _ _ _ _ h
        · cases h
      case block id b => exact blockE_mono (fun r => ih1 _ _ _ r) h
      case loop b =>
        split at h
        · exact ht (fun r => ih1 _ _ _ r) (fun S r => ih1 _ _ _ r) h
        · cases h
    · simp only [clN] at h ⊢
      split at h
      · exact h
      · split at h
        · split at h
          · split at h
            · rename_i hq
              simp only [hq, if_true]
              exact bodyE_mono (fun r => ih1 _ _ _ r) h
            · cases h
          · cases h
        · cases h

noncomputable def ev (F : FuncId) (c : Code) (S : St) : Option (Ex × St) := lim fun n => evN P A pr n F c S
noncomputable def cl : Call := fun g vs stk => lim fun n => clN P A pr n g vs stk

variable {P A pr}
theorem ev_iff {F : FuncId} {c : Code} {S : St} {r : Ex × St} : ev P A pr F c S = some r ↔ ∃ n, evN P A pr n F c S = some r := lim_iff (fun n r h => (grow_both P A pr n).1 _ _ _ _ h) r
theorem cl_iff {g : FuncId} {vs : List V} {stk : Stk} {r : V × Stk} : cl P A pr g vs stk = some r ↔ ∃ n, clN P A pr n g vs stk = some r := lim_iff (fun n r h => (grow_both P A pr n).2 _ _ _ _ h) r
theorem evN_le {n m : Nat} (h : n ≤ m) {F : FuncId} {c : Code} {S : St} {r : Ex × St} (hr : evN P A pr n F c S = some r) : evN P A pr m F c S = some r := Grow.le (f := fun n => evN P A pr n F c S) (fun n r h => (grow_both P A pr n).1 _ _ _ _ h) h hr
theorem clN_le {n m : Nat} (h : n ≤ m) : CallLe (clN P A pr n) (clN P A pr m) := fun g vs stk r hr => Grow.le (f := fun n => clN P A pr n g vs stk) (fun n r h => (grow_both P A pr n).2 _ _ _ _ h) h hr

/-! the calls of an operation are few: what comes of all numbers comes of one -/
theorem calV_cont {q : Bool} {rd stk : Stk} {g : FuncId} {vs : List V} {r : V × Stk} (h : calV (cl P A pr) q rd stk g vs = some r) : ∃ n, calV (clN P A pr n) q rd stk g vs = some r := by
  unfold calV at *
  cases q with
  | true =>
    simp only [if_true] at *
    cases hco : V.coL (noTok rd) vs with
    | none => simp [hco] at h
    | some vs' =>
      simp only [hco] at *
      cases hc : cl P A pr g vs' (noTok rd) with
      | none => simp [hc] at h
      | some p =>
        obtain ⟨n, hn⟩ := cl_iff.1 hc
        refine ⟨n, ?_⟩
        rw [hn]
        rw [hc] at h
        exact h
  | false =>
    simp only [Bool.false_eq_true, if_false] at *
    cases hco : V.coL (V.fzL vs stk) vs with
    | none => simp [hco] at h
    | some vs' =>
      simp only [hco] at *
      exact cl_iff.1 h

theorem calK_cont {q : Bool} {rd stk : Stk} {x : Option V} {y : Option (List V)} {r : V × Stk} (hr : calK (cl P A pr) q rd stk x y = some r) : ∃ n, calK (clN P A pr n) q rd stk x y = some r := by
  unfold calK at *
  split at hr
  · exact calV_cont hr
  · cases hr
theorem calI_cont {name : String} {q : Bool} {rd stk : Stk} {x : Option V} {y : Option (List V)} {r : V × Stk} (hr : calI P (cl P A pr) name q rd stk x y = some r) : ∃ n, calI P (clN P A pr n) name q rd stk x y = some r := by
  unfold calI at *
  split at hr
  · split at hr
    · rename_i hm
      try simp only [hm]
      exact calV_cont hr
    · cases hr
  · cases hr
theorem evO_cont {F : FuncId} {q : Bool} {rd stk : Stk} {o : Oper} {tm : List (Nat × V)} {r : V × Stk} (h : evO P A (cl P A pr) F q rd o tm stk = some r) : ∃ n, evO P A (clN P A pr n) F q rd o tm stk = some r := by
  unfold evO at *
  split at h
  · split at h
    · exact ⟨0, h⟩
    · exact calK_cont h
    · exact calI_cont h
  · exact ⟨0, h⟩

theorem evL_cont {F : FuncId} {rd : Option Stk} {q : Bool} {ops : Array Oper} : ∀ {l : List Oper} {tm : List (Nat × V)} {stk : Stk} {r : St},
    evL P A (cl P A pr) F rd q ops l tm stk = some r → ∃ n, evL P A (clN P A pr n) F rd q ops l tm stk = some r
  | [], _, _, _, h => ⟨0, h⟩
  | o :: l, tm, stk, r, h => by
    unfold evL at *
    split at h
    · rename_i hg
      try simp only [hg]
      split at h
      · rename_i v s he
        obtain ⟨n, hn⟩ := evO_cont he
        obtain ⟨m, hm⟩ := evL_cont h
        refine ⟨max n m, ?_⟩
        rw [evO_mono (clN_le (Nat.le_max_left n m)) hn]
        exact evL_mono (clN_le (Nat.le_max_right n m)) hm
      · cases h
    · rename_i hg
      try simp only [hg]
      exact evL_cont h
    · cases h

theorem evR_cont {F rid : FuncId} {ops : Array Oper} {d : Bool} {S S' : St} (h : evR P A (cl P A pr) F rid ops d S = some S') : ∃ n, evR P A (clN P A pr n) F rid ops d S = some S' := by
  unfold evR at *
  split <;> rename_i hd <;> simp only [hd, if_true, if_false, Bool.false_eq_true] at h
  · exact evL_cont h
  · exact evL_cont h

/-! ### the equations -/
theorem opt_ext {α : Type} {a b : Option α} (h : ∀ r, a = some r ↔ b = some r) : a = b := by
  cases a with
  | some x => exact ((h x).1 rfl).symm
  | none =>
    cases b with
    | none => rfl
    | some x => exact absurd ((h x).2 rfl) (by simp)

theorem cl_le (n : Nat) : CallLe (clN P A pr n) (cl P A pr) := fun _ _ _ _ h => cl_iff.2 ⟨n, h⟩

variable {F : FuncId} {S : St}
theorem ev_skip : ev P A pr F .skip S = some (.nm, S) := ev_iff.2 ⟨1, by simp [evN]⟩
theorem ev_label {l : Nat} : ev P A pr F (.label l) S = some (.nm, S) := ev_iff.2 ⟨1, by simp [evN]⟩
theorem ev_exit {id : Nat} : ev P A pr F (.exit id) S = some (.ex id, S) := ev_iff.2 ⟨1, by simp [evN]⟩
theorem ev_ret : ev P A pr F .ret S = some (.rt, S) := ev_iff.2 ⟨1, by simp [evN]⟩

theorem thenE_lim {a : Code} {S : St} {k : Nat → St → Option (Ex × St)} {k' : St → Option (Ex × St)} (hk : ∀ S r, k' S = some r ↔ ∃ n, k n S = some r) (hm : ∀ n m S r, n ≤ m → k n S = some r → k m S = some r) (r : Ex × St) :
    (∃ n, thenE (evN P A pr n F a S) (k n) = some r) ↔ thenE (ev P A pr F a S) k' = some r := by
  have hs : ∀ (r : Ex × St) (k : St → Option (Ex × St)), r.1 ≠ .nm → thenE (some r) k = some r := by
    rintro ⟨e, S⟩ k h
    cases e with
    | nm => exact absurd rfl h
    | ex i => rfl
    | rt => rfl
  constructor
  · rintro ⟨n, h⟩
    rcases thenE_some h with ⟨S', h1, h2⟩ | ⟨h1, h2⟩
    · rw [ev_iff.2 ⟨n, h1⟩]
      exact (hk _ _).2 ⟨n, h2⟩
    · rw [ev_iff.2 ⟨n, h1⟩]
      exact hs _ _ h2
  · intro h
    rcases thenE_some h with ⟨S', h1, h2⟩ | ⟨h1, h2⟩
    · obtain ⟨n, hn⟩ := ev_iff.1 h1
      obtain ⟨m, hm'⟩ := (hk _ _).1 h2
      refine ⟨max n m, ?_⟩
      rw [evN_le (Nat.le_max_left n m) hn]
      exact hm _ _ _ _ (Nat.le_max_right n m) hm'
    · obtain ⟨n, hn⟩ := ev_iff.1 h1
      exact ⟨n, by rw [hn]; exact hs _ _ h2⟩

theorem ev_seq {a b : Code} : ev P A pr F (.seq a b) S = thenE (ev P A pr F a S) fun S => ev P A pr F b S := by
  refine opt_ext fun r => ?_
  rw [ev_iff, ← thenE_lim (k := fun n S => evN P A pr n F b S) (fun S r => ev_iff) (fun n m S r h => evN_le h)]
  constructor
  · rintro ⟨n, h⟩
    cases n with
    | zero => simp [evN] at h
    | succ n => exact ⟨n, by simpa [evN] using h⟩
  · rintro ⟨n, h⟩
    exact ⟨n + 1, by simpa [evN] using h⟩

theorem ev_cond {x : Operand} {a b : Code} : ev P A pr F (.cond x a b) S = match opd S.tm x with
    | some (.bool true) => ev P A pr F a S
    | some (.bool false) => ev P A pr F b S
    | _ => none := by
  refine opt_ext fun r => ?_
  rw [ev_iff]
  constructor
  · rintro ⟨n, h⟩
    cases n with
    | zero => simp [evN] at h
    | succ n =>
      simp only [evN] at h
      split at h
      · rename_i hx
        simp only [hx]
        exact ev_iff.2 ⟨n, h⟩
      · rename_i hx
        simp only [hx]
        exact ev_iff.2 ⟨n, h⟩
      · cases h
  · intro h
    split at h
    · rename_i hx
      obtain ⟨n, hn⟩ := ev_iff.1 h
      exact ⟨n + 1, by simp only [evN, hx]; exact hn⟩
    · rename_i hx
      obtain ⟨n, hn⟩ := ev_iff.1 h
      exact ⟨n + 1, by simp only [evN, hx]; exact hn⟩
    · cases h

theorem ev_block {id : Nat} {b : Code} : ev P A pr F (.block id b) S = blockE id (ev P A pr F b S) := by
  refine opt_ext fun r => ?_
  rw [ev_iff]
  constructor
  · rintro ⟨n, h⟩
    cases n with
    | zero => simp [evN] at h
    | succ n =>
      simp only [evN] at h
      exact blockE_mono (fun r hr => ev_iff.2 ⟨n, hr⟩) h
  · intro h
    cases hb : ev P A pr F b S with
    | none => simp [hb, blockE] at h
    | some q =>
      obtain ⟨n, hn⟩ := ev_iff.1 hb
      exact ⟨n + 1, by simp only [evN, hn]; rw [hb] at h; exact h⟩

theorem ev_loop {b : Code} : ev P A pr F (.loop b) S = match prune (A.loop F (headR b)) S with
    | some S => thenE (ev P A pr F b S) fun S => ev P A pr F (.loop b) S
    | none => none := by
  refine opt_ext fun r => ?_
  rw [ev_iff]
  cases hp : prune (A.loop F (headR b)) S with
  | none =>
    simp only [reduceCtorEq, iff_false]
    rintro ⟨n, h⟩
    cases n with
    | zero => simp [evN] at h
    | succ n => simp [evN, hp] at h
  | some S' =>
    simp only
    rw [← thenE_lim (k := fun n S => evN P A pr n F (.loop b) S) (fun S r => ev_iff) (fun n m S r h => evN_le h)]
    constructor
    · rintro ⟨n, h⟩
      cases n with
      | zero => simp [evN] at h
      | succ n => exact ⟨n, by simpa [evN, hp] using h⟩
    · rintro ⟨n, h⟩
      exact ⟨n + 1, by simpa [evN, hp] using h⟩

theorem ev_region {id : Nat} {ops : Array Oper} {d : Bool} : ev P A pr F (.region id ops d) S = (evR P A (cl P A pr) F id ops d S).map fun S => (.nm, S) := by
  refine opt_ext fun r => ?_
  rw [ev_iff]
  constructor
  · rintro ⟨n, h⟩
    cases n with
    | zero => simp [evN] at h
    | succ n =>
      simp only [evN] at h
      obtain ⟨S', hs, he⟩ := Option.map_eq_some_iff.1 h
      rw [evR_mono (cl_le n) hs]
      simp [he]
  · intro h
    obtain ⟨S', hs, he⟩ := Option.map_eq_some_iff.1 h
    obtain ⟨n, hn⟩ := evR_cont hs
    exact ⟨n + 1, by simp [evN, hn, he]⟩

theorem cl_prim {g : FuncId} {f : List V → Stk → Option (V × Stk)} (h : pr g = some f) (vs : List V) (stk : Stk) : cl P A pr g vs stk = f vs stk := by
  refine opt_ext fun r => ?_
  rw [cl_iff]
  constructor
  · rintro ⟨n, hn⟩
    cases n with
    | zero => simp [clN] at hn
    | succ n => simpa [clN, h] using hn
  · intro hr
    exact ⟨1, by simpa [clN, h] using hr⟩

theorem cl_eq {g : FuncId} {fn : Func} {c : Code} (h : pr g = none) (hf : P.funcs[g]? = some fn) (hb : fn.body = some c) (vs : List V) (stk : Stk) (hn : vs.length ≤ fn.ntmps) :
    cl P A pr g vs stk = bodyE P fn (ev P A pr g c ⟨initT 0 vs [], [] :: stk⟩) := by
  refine opt_ext fun r => ?_
  rw [cl_iff]
  constructor
  · rintro ⟨n, h'⟩
    cases n with
    | zero => simp [clN] at h'
    | succ n =>
      simp only [clN, h, hf, hb, hn, if_true] at h'
      exact bodyE_mono (fun r hr => ev_iff.2 ⟨n, hr⟩) h'
  · intro h'
    cases hq : ev P A pr g c ⟨initT 0 vs [], [] :: stk⟩ with
    | none => simp [hq, bodyE] at h'
    | some q =>
      obtain ⟨n, hn'⟩ := ev_iff.1 hq
      exact ⟨n + 1, by simp only [clN, h, hf, hb, hn, if_true, hn']; rw [hq] at h'; exact h'⟩

/-- A loop, round by round: 'I i' is where round i begins. -/
theorem ev_rounds {b : Code} {S : St} (m : Nat) (I : Nat → St) {r : Ex × St} (h0 : prune (A.loop F (headR b)) S = some (I 0))
    (hr : ∀ i, i < m → ∃ S', ev P A pr F b (I i) = some (.nm, S') ∧ prune (A.loop F (headR b)) S' = some (I (i + 1)))
    (he : ev P A pr F b (I m) = some r) (hn : r.1 ≠ .nm) : ev P A pr F (.loop b) S = some r := by
  have key : ∀ d i S, m - i = d → i ≤ m → prune (A.loop F (headR b)) S = some (I i) → ev P A pr F (.loop b) S = some r := by
    intro d
    induction d with
    | zero =>
      intro i S hd hi h
      obtain rfl : i = m := by omega
      rw [ev_loop, h]
      simp only [he]
      obtain ⟨e, T⟩ := r
      cases e with
      | nm => exact absurd rfl hn
      | ex i => rfl
      | rt => rfl
    | succ d ih =>
      intro i S hd hi h
      obtain ⟨S', h1, h2⟩ := hr i (by omega)
      rw [ev_loop, h]
      simp only [h1]
      exact ih (i + 1) S' (by omega) (by omega) h2
  exact key m 0 S (by omega) (by omega) h0
end
end Go.Shade
