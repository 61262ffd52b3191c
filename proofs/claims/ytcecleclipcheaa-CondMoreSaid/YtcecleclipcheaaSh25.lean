/-
  Rules for loops, branches.
-/
import Derived.Test.YtcecleclipcheaaSh4
set_option linter.unusedVariables false
namespace Go.Shade
open Go

/-! ### branches -/
section
variable {c : Prop} [Decidable c] {id : Nat} {fn : Func} {P : Program} {A : An} {pr : FuncId → Option (List V → Stk → Option (V × Stk))} {F : FuncId}
theorem thenE_ite {a b : Option (Ex × St)} {k : St → Option (Ex × St)} : thenE (if c then a else b) k = if c then thenE a k else thenE b k := by split <;> rfl
theorem blockE_ite {a b : Option (Ex × St)} : blockE id (if c then a else b) = if c then blockE id a else blockE id b := by split <;> rfl
theorem bodyE_ite {a b : Option (Ex × St)} : bodyE P fn (if c then a else b) = if c then bodyE P fn a else bodyE P fn b := by split <;> rfl
theorem map_ite {α β : Type} {a b : Option α} {f : α → β} : (if c then a else b).map f = if c then a.map f else b.map f := by split <;> rfl
theorem bind_ite {α β : Type} {a b : Option α} {f : α → Option β} : (if c then a else b).bind f = if c then a.bind f else b.bind f := by split <;> rfl
theorem condE_bool {b : Bool} {x y : Code} {S : St} : condE P A pr F x y S (some (.bool b)) = if b = true then ev P A pr F x S else ev P A pr F y S := by cases b <;> rfl
theorem putD_some {d : Nat} {v : V} {tm : List (Nat × V)} : putD (some d) v tm = ins d v tm := rfl
theorem putD_none {v : V} {tm : List (Nat × V)} : putD none v tm = tm := rfl
theorem goG_bool {call : Call} {rd : Option Stk} {q : Bool} {ops : Array Oper} {r : List Oper} {tm : List (Nat × V)} {stk : Stk} {o : Oper} {b : Bool} :
    goG P A call F rd q ops r tm stk o (some b) = if b = true then evL P A call F rd q ops ({ o with guard := none } :: r) tm stk else evL P A call F rd q ops r (putD o.dst .dead tm) stk := by cases b <;> rfl
end

section
variable {P : Program} {A : An} {call : Call} {F : FuncId} {rd : Option Stk} {q : Bool} {ops : Array Oper} {r : List Oper} {tm : List (Nat × V)} {stk : Stk} {dst : Option Nat} {c : Prop} [Decidable c]
theorem goV_ite {a b : Option V} : goV P A call F rd q ops r tm stk dst (if c then a else b) = if c then goV P A call F rd q ops r tm stk dst a else goV P A call F rd q ops r tm stk dst b := by split <;> rfl
theorem goL_ite {a b : Option (V × Stk)} : goL P A call F rd q ops r tm dst (if c then a else b) = if c then goL P A call F rd q ops r tm dst a else goL P A call F rd q ops r tm dst b := by split <;> rfl
theorem pck_bool {a b : Option V} {c : Bool} : pck a b (some (.bool c)) = if c = true then a else b := by cases c <;> rfl
end

/-! ### what comes, as a statement -/
def pruP (p : St → Prop) : Option St → Prop
  | some T => p T
  | none => False
def nextE (ks : Option (List Nat)) (p : St → Prop) (q : Ex × St → Prop) : Option (Ex × St) → Prop
  | some (.nm, S) => pruP p (prune ks S)
  | some r => q r
  | none => False
section
variable {ks : Option (List Nat)} {p : St → Prop} {q : Ex × St → Prop} {S : St} {i : Nat} {c : Prop} [Decidable c]
theorem pruP_some : pruP p (some S) = p S := rfl
theorem nextE_nm : nextE ks p q (some (.nm, S)) = pruP p (prune ks S) := rfl
theorem nextE_ex : nextE ks p q (some (.ex i, S)) = q (.ex i, S) := rfl
theorem nextE_rt : nextE ks p q (some (.rt, S)) = q (.rt, S) := rfl
theorem nextE_ite {a b : Option (Ex × St)} : nextE ks p q (if c then a else b) = ((c → nextE ks p q a) ∧ (¬c → nextE ks p q b)) := by
  split <;> simp_all
end

section
variable {P : Program} {A : An} {pr : FuncId → Option (List V → Stk → Option (V × Stk))} {F : FuncId}

/-- A loop over rounds 0 .. n, something carried. -/
theorem ev_ind {σ : Type} {b : Code} {S : St} (n : Nat) (I : Nat → σ → St) (Inv : Nat → σ → Prop) (R : Nat → σ → Ex × St) (s0 : σ)
    (h0 : pruP (fun T => T = I 0 s0) (prune (A.loop F (headR b)) S)) (hi : Inv 0 s0)
    (hr : ∀ i s, i < n → Inv i s → nextE (A.loop F (headR b)) (fun T => ∃ s', T = I (i + 1) s' ∧ Inv (i + 1) s' ∧ R (i + 1) s' = R i s) (fun r => r = R i s) (ev P A pr F b (I i s)))
    (hn : ∀ s, Inv n s → nextE (A.loop F (headR b)) (fun _ => False) (fun r => r = R n s) (ev P A pr F b (I n s))) :
    ev P A pr F (.loop b) S = some (R 0 s0) := by
  have key : ∀ d i s S, n - i = d → i ≤ n → Inv i s → prune (A.loop F (headR b)) S = some (I i s) → ev P A pr F (.loop b) S = some (R i s) := by
    intro d
    induction d with
    | zero =>
      intro i s S hd hi h hp
      obtain rfl : i = n := by omega
      have := hn s h
      rw [ev_loop, hp]
      simp only
      cases he : ev P A pr F b (I i s) with
      | none => rw [he] at this; exact this.elim
      | some r =>
        rw [he] at this
        obtain ⟨e, T⟩ := r
        cases e with
        | nm =>
          simp only [nextE, pruP] at this
          split at this <;> exact this.elim
        | ex j => simp only [nextE] at this; rw [← this]; rfl
        | rt => simp only [nextE] at this; rw [← this]; rfl
    | succ d ih =>
      intro i s S hd hi h hp
      have := hr i s (by omega) h
      rw [ev_loop, hp]
      simp only
      cases he : ev P A pr F b (I i s) with
      | none => rw [he] at this; exact this.elim
      | some r =>
        rw [he] at this
        obtain ⟨e, T⟩ := r
        cases e with
        | nm =>
          simp only [nextE] at this
          cases hp2 : prune (A.loop F (headR b)) T with
          | none => rw [hp2] at this; exact this.elim
          | some T' =>
            rw [hp2] at this
            obtain ⟨s', rfl, h2, h3⟩ := this
            rw [← h3]
            exact ih (i + 1) s' T (by omega) (by omega) h2 hp2
        | ex j => simp only [nextE] at this; rw [← this]; rfl
        | rt => simp only [nextE] at this; rw [← this]; rfl
  cases hp : prune (A.loop F (headR b)) S with
  | none => rw [hp] at h0; exact h0.elim
  | some T =>
    rw [hp] at h0
    simp only [pruP] at h0
    exact key (n - 0) 0 s0 S rfl (Nat.zero_le _) hi (by rw [hp, h0])

/-- A loop over a list's elements, from the first one on. -/
theorem ev_each {α σ : Type} {b : Code} {S : St} (l : List α) (e : α → List V) (I : Nat → σ → St) (Inv : List α → σ → Prop) (R : List α → σ → Ex × St) (s0 : σ) (hl : l.length ≤ 4611686018427387904)
    (h0 : pruP (fun T => T = I 0 s0) (prune (A.loop F (headR b)) S)) (hi : Inv [] s0)
    (hr : ∀ i x s, i < l.length → l[i]? = some x → (l.map e)[i]? = some (e x) → ((i : Int) < (l.length : Int)) → ((0 : Int) ≤ (i : Int)) → IntKind.i64.wrap ((i : Int) + 1) = ((i + 1 : Nat) : Int) → Inv (l.take i) s →
      nextE (A.loop F (headR b)) (fun T => ∃ s', T = I (i + 1) s' ∧ Inv (l.take i ++ [x]) s' ∧ R (l.drop (i + 1)) s' = R (x :: l.drop (i + 1)) s) (fun r => r = R (x :: l.drop (i + 1)) s) (ev P A pr F b (I i s)))
    (hn : ∀ s, Inv l s → nextE (A.loop F (headR b)) (fun _ => False) (fun r => r = R [] s) (ev P A pr F b (I l.length s))) :
    ev P A pr F (.loop b) S = some (R l s0) := by
  have := ev_ind (P := P) (A := A) (pr := pr) (F := F) (b := b) (S := S) l.length I (fun i s => Inv (l.take i) s) (fun i s => R (l.drop i) s) s0 h0 (by simpa using hi) ?_ ?_
  · simpa using this
  · intro i s hlt h
    have hx : l[i]? = some l[i] := List.getElem?_eq_getElem hlt
    have h1 := hr i l[i] s hlt hx (by simp [hx]) (by omega) (by omega) (wrap_succ (by omega)) h
    have hd : l.drop i = l[i] :: l.drop (i + 1) := List.drop_eq_getElem_cons hlt
    rw [hd, List.take_add_one, hx]
    exact h1
  · intro s h
    have := hn s (by simpa using h)
    simpa using this
end
end Go.Shade
