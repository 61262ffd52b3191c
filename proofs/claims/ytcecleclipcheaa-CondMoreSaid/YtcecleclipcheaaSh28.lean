/-
  Guarded operations, without a parting of the road: what comes is a value with an 'if'.
-/
import Derived.Test.YtcecleclipcheaaSh27
set_option linter.unusedVariables false
namespace Go.Shade
open Go
section
variable {P : Program} {A : An} {call : Call} {F : FuncId} {q : Bool} {rd stk : Stk} {rds : Option Stk} {ops : Array Oper} {r : List Oper} {tm : List (Nat × V)} {ty : TypeId} {pos : String} {after : Array Edge} {dst : Option Nat} {c : Prop} [Decidable c]

theorem goG_mrg {o : Oper} {b : Bool} : goG P A call F rds q ops r tm stk o (some b) = goL P A call F rds q ops r tm o.dst (if b = true then evO P A call F q (rds.getD stk) { o with guard := none } tm stk else some (.dead, stk)) := by
  cases b with
  | true => simp only [goG, if_true]; rw [evL_one rfl]
  | false => simp [goG, goL]
theorem ite_mrg {v w : V} : (if c then some (v, stk) else some (w, stk)) = some (if c then v else w, stk) := by split <;> rfl
theorem v_bool {x y : Bool} : (if c then V.bool x else V.bool y) = V.bool (if c then x else y) := by split <;> rfl
theorem v_int {k : IntKind} {x y : Int} : (if c then V.int k x else V.int k y) = V.int k (if c then x else y) := by split <;> rfl
theorem v_str {x y : ByteArray} : (if c then V.str x else V.str y) = V.str (if c then x else y) := by split <;> rfl
theorem ite_or {b x : Bool} : (if b = true then true else x) = (b || x) := by cases b <;> rfl
theorem ite_and {b x : Bool} : (if b = true then x else false) = (b && x) := by cases b <;> rfl
theorem ite_orn {b x : Bool} : (if b = true then false else x) = (!b && x) := by cases b <;> rfl
theorem ite_andn {b x : Bool} : (if b = true then x else true) = (!b || x) := by cases b <;> rfl
theorem ite_or' {x : Bool} : (if c then true else x) = (decide c || x) := by split <;> simp_all
theorem ite_and' {x : Bool} : (if c then x else false) = (decide c && x) := by split <;> simp_all
theorem ite_orn' {x : Bool} : (if c then false else x) = (!decide c && x) := by split <;> simp_all
theorem ite_andn' {x : Bool} : (if c then x else true) = (!decide c || x) := by split <;> simp_all
theorem ite_someB {x y : Bool} : (if c then some x else some y) = some (if c then x else y) := by split <;> rfl
theorem gw_ite {b : Bool} {v w : V} : gw b (some (if c then v else w)) = if c then gw b (some v) else gw b (some w) := by split <;> rfl
theorem pck_mrg {v w : V} {b : Bool} : pck (some v) (some w) (some (.bool b)) = some (if b = true then v else w) := by cases b <;> rfl
theorem evO_move {x : Operand} : evO P A call F q rd { dst := dst, op := .move x, type := ty, pos := pos, after := after, guard := none } tm stk = ((opd tm x).map (fixNl P ty)).map fun v => (v, stk) := by
  simp only [evO, evS]; cases opd tm x <;> rfl
theorem evO_pick {c x y : Operand} : evO P A call F q rd { dst := dst, op := .pick c x y, type := ty, pos := pos, after := after, guard := none } tm stk = (pck (opd tm x) (opd tm y) (opd tm c)).map fun v => (v, stk) := by
  simp only [evO, evS]
  cases opd tm c with
  | none => rfl
  | some v => cases v <;> first | rfl | (rename_i b; cases b <;> rfl)
theorem evO_load {t : TypeId} {x : Operand} : evO P A call F q rd { dst := dst, op := .load t x, type := ty, pos := pos, after := after, guard := none } tm stk = ((opd tm x).bind (ldA P rd t)).map fun v => (v, stk) := by
  simp only [evO, evS]; cases opd tm x <;> rfl
theorem evO_binOp {op : BinOp} {t u : TypeId} {x y : Operand} : evO P A call F q rd { dst := dst, op := .binOp op t x y u, type := ty, pos := pos, after := after, guard := none } tm stk = ((opd tm x).bind fun a => (opd tm y).bind fun b => biN (eqK P t) (isC x || isC y) op a b).map fun v => (v, stk) := by
  simp only [evO, evS]; cases opd tm x with
  | none => rfl
  | some a => cases opd tm y <;> rfl
theorem evO_unOp {op : UnOp} {t : TypeId} {x : Operand} : evO P A call F q rd { dst := dst, op := .unOp op t x, type := ty, pos := pos, after := after, guard := none } tm stk = ((opd tm x).bind (unV op)).map fun v => (v, stk) := by
  simp only [evO, evS]; cases opd tm x <;> rfl
theorem evO_convert {s t : TypeId} {x : Operand} : evO P A call F q rd { dst := dst, op := .convert s t x, type := ty, pos := pos, after := after, guard := none } tm stk = ((opd tm x).bind (cvV P rd s t)).map fun v => (v, stk) := by
  simp only [evO, evS]; cases opd tm x <;> rfl
theorem evO_fieldAddr {t : TypeId} {x : Operand} {f : Nat} : evO P A call F q rd { dst := dst, op := .fieldAddr t x f, type := ty, pos := pos, after := after, guard := none } tm stk = ((opd tm x).bind (fdA P t f)).map fun v => (v, stk) := by
  simp only [evO, evS]; cases opd tm x <;> rfl
theorem evO_indexAddr {t : TypeId} {x i : Operand} : evO P A call F q rd { dst := dst, op := .indexAddr t x i, type := ty, pos := pos, after := after, guard := none } tm stk = ((opd tm x).bind fun x => (opd tm i).bind (ixI fun i => ixA P rd t x i)).map fun v => (v, stk) := by
  simp only [evO, evS]; cases opd tm x with
  | none => rfl
  | some a => cases opd tm i with
    | none => rfl
    | some b => cases b <;> rfl
theorem evO_index {t : TypeId} {x i : Operand} : evO P A call F q rd { dst := dst, op := .index t x i, type := ty, pos := pos, after := after, guard := none } tm stk = ((opd tm x).bind fun x => (opd tm i).bind (ixI fun i => ixV P t x i)).map fun v => (v, stk) := by
  simp only [evO, evS]; cases opd tm x with
  | none => rfl
  | some a => cases opd tm i with
    | none => rfl
    | some b => cases b <;> rfl
theorem evO_lookup {t : TypeId} {x k : Operand} {ok : Bool} : evO P A call F q rd { dst := dst, op := .lookup t x k ok, type := ty, pos := pos, after := after, guard := none } tm stk = ((opd tm x).bind fun x => (opd tm k).bind fun k => lkM P rd t x k ok).map fun v => (v, stk) := by
  simp only [evO, evS]; cases opd tm x with
  | none => rfl
  | some a => cases opd tm k <;> rfl
theorem evO_build {t : TypeId} {parts : Array (Nat × Operand)} : evO P A call F q rd { dst := dst, op := .build t parts, type := ty, pos := pos, after := after, guard := none } tm stk = (bldV P t (parts.toList.map (·.1)) (opds tm (parts.toList.map (·.2))) (zeroC P t)).map fun v => (v, stk) := by
  rfl
theorem evO_buildSlice {t : TypeId} {len : Nat} {parts : Array (Nat × Operand)} : evO P A call F q rd { dst := dst, op := .buildSlice t len parts, type := ty, pos := pos, after := after, guard := none } tm stk = bslV P A F rd stk dst len (parts.toList.map (·.1)) (opds tm (parts.toList.map (·.2))) (slTy P t) := by
  rfl
theorem evO_slice1 {t : TypeId} {x l : Operand} : evO P A call F q rd { dst := dst, op := .slice t x (some l) none none, type := ty, pos := pos, after := after, guard := none } tm stk = ((opd tm x).bind fun x => (opd tm l).bind fun l => slV P rd t x (some l) none).map fun v => (v, stk) := by
  simp only [evO, evS, Option.map_none, Option.map_some]; cases opd tm x with
  | none => rfl
  | some a => cases opd tm l <;> rfl
theorem evO_slice2 {t : TypeId} {x h : Operand} : evO P A call F q rd { dst := dst, op := .slice t x none (some h) none, type := ty, pos := pos, after := after, guard := none } tm stk = ((opd tm x).bind fun x => (opd tm h).bind fun h => slV P rd t x none (some h)).map fun v => (v, stk) := by
  simp only [evO, evS, Option.map_none, Option.map_some]; cases opd tm x with
  | none => rfl
  | some a => cases opd tm h <;> rfl
theorem evO_slice3 {t : TypeId} {x l h : Operand} : evO P A call F q rd { dst := dst, op := .slice t x (some l) (some h) none, type := ty, pos := pos, after := after, guard := none } tm stk = ((opd tm x).bind fun x => (opd tm l).bind fun l => (opd tm h).bind fun h => slV P rd t x (some l) (some h)).map fun v => (v, stk) := by
  simp only [evO, evS, Option.map_some]; cases opd tm x with
  | none => rfl
  | some a => cases opd tm l with
    | none => rfl
    | some b => cases opd tm h <;> rfl
theorem evO_builtin {b : Builtin} {args : Array Operand} {ts : Array TypeId} : evO P A call F q rd { dst := dst, op := .call { callee := .builtin b, args := args, argTypes := ts }, type := ty, pos := pos, after := after, guard := none } tm stk = (opds tm args.toList).bind (bltV P rd stk dst b ts) := by
  simp only [evO]; cases opds tm args.toList <;> rfl
theorem evO_call {f : Operand} {args : Array Operand} {ts : Array TypeId} : evO P A call F q rd { dst := dst, op := .call { callee := .value f, args := args, argTypes := ts }, type := ty, pos := pos, after := after, guard := none } tm stk = calK call q rd stk (opd tm f) (opds tm args.toList) := by
  rfl
theorem evO_extract {x : Operand} {i : Nat} : evO P A call F q rd { dst := dst, op := .extract x i, type := ty, pos := pos, after := after, guard := none } tm stk = ((opd tm x).bind (xtV i)).map fun v => (v, stk) := by
  simp only [evO, evS]; cases opd tm x with
  | none => rfl
  | some a => cases a <;> rfl
theorem map_pair {v : V} : (some v).map (fun v => (v, stk)) = some (v, stk) := rfl

end
end Go.Shade
namespace Go.Shade
open Go
section
variable {P : Program} {A : An} {pr : FuncId → Option (List V → Stk → Option (V × Stk))} {F : FuncId}
/-- A loop of at most n rounds, whatever is asked of what follows it. -/
theorem ev_phi {σ : Type} {b : Code} {S : St} {Φ : Option (Ex × St) → Prop} (n : Nat) (I : Nat → σ → St) (Inv : Nat → σ → Prop) (s0 : σ)
    (h0 : pruP (fun T => T = I 0 s0) (prune (A.loop F (headR b)) S)) (hi : Inv 0 s0)
    (hr : ∀ i s, i < n → Inv i s → nextE (A.loop F (headR b)) (fun T => ∃ s', T = I (i + 1) s' ∧ Inv (i + 1) s') (fun r => Φ (some r)) (ev P A pr F b (I i s)))
    (hn : ∀ s, Inv n s → nextE (A.loop F (headR b)) (fun _ => False) (fun r => Φ (some r)) (ev P A pr F b (I n s))) :
    ∀ E, ev P A pr F (.loop b) S = E → Φ E := by
  have key : ∀ d i s S, n - i = d → i ≤ n → Inv i s → prune (A.loop F (headR b)) S = some (I i s) → Φ (ev P A pr F (.loop b) S) := by
    intro d
    induction d with
    | zero =>
      intro i s S hd hi h hp
      obtain rfl : i = n := by omega
      have := hn s h
      rw [ev_loop, hp]
      simp only
      cases he : ev P A pr F b (I i s) with
      | none => rw [he] at this; exact this.elim
      | some r =>
        rw [he] at this
        obtain ⟨e, T⟩ := r
        cases e with
        | nm =>
          simp only [nextE, pruP] at this
          split at this <;> exact this.elim
        | ex j => exact this
        | rt => exact this
    | succ d ih =>
      intro i s S hd hi h hp
      have := hr i s (by omega) h
      rw [ev_loop, hp]
      simp only
      cases he : ev P A pr F b (I i s) with
      | none => rw [he] at this; exact this.elim
      | some r =>
        rw [he] at this
        obtain ⟨e, T⟩ := r
        cases e with
        | nm =>
          simp only [nextE] at this
          cases hp2 : prune (A.loop F (headR b)) T with
          | none => rw [hp2] at this; exact this.elim
          | some T' =>
            rw [hp2] at this
            obtain ⟨s', rfl, h2⟩ := this
            exact ih (i + 1) s' T (by omega) (by omega) h2 hp2
        | ex j => exact this
        | rt => exact this
  rintro E rfl
  cases hp : prune (A.loop F (headR b)) S with
  | none => rw [hp] at h0; exact h0.elim
  | some T =>
    rw [hp] at h0
    simp only [pruP] at h0
    exact key (n - 0) 0 s0 S rfl (Nat.zero_le _) hi (by rw [hp, h0])
/-- A loop over a list's elements. -/
theorem ev_phil {α σ : Type} {b : Code} {S : St} {Φ : Option (Ex × St) → Prop} (l : List α) (e : α → List V) (I : Nat → σ → St) (Inv : Nat → σ → Prop) (s0 : σ) (hl : l.length ≤ 9223372036854775807)
    (h0 : pruP (fun T => T = I 0 s0) (prune (A.loop F (headR b)) S)) (hi : Inv 0 s0)
    (hr : ∀ i x s, i < l.length → l[i]? = some x → (l.map e)[i]? = some (e x) → ((i : Int) < (l.length : Int)) → ((0 : Int) ≤ (i : Int)) → IntKind.i64.wrap ((i : Int) + 1) = ((i + 1 : Nat) : Int) → Inv i s →
      nextE (A.loop F (headR b)) (fun T => ∃ s', T = I (i + 1) s' ∧ Inv (i + 1) s') (fun r => Φ (some r)) (ev P A pr F b (I i s)))
    (hn : ∀ s, Inv l.length s → nextE (A.loop F (headR b)) (fun _ => False) (fun r => Φ (some r)) (ev P A pr F b (I l.length s))) :
    ∀ E, ev P A pr F (.loop b) S = E → Φ E := by
  refine ev_phi l.length I Inv s0 h0 hi (fun i s hlt h => ?_) hn
  have hx : l[i]? = some l[i] := List.getElem?_eq_getElem hlt
  exact hr i l[i] s hlt hx (by simp [hx]) (by omega) (by omega) (by rw [wrap_i64 (by omega) (by omega)]; rfl) h
/-- A loop over a text's bytes. -/
theorem ev_phis {σ : Type} {b : Code} {S : St} {Φ : Option (Ex × St) → Prop} (l : ByteArray) (I : Nat → σ → St) (Inv : Nat → σ → Prop) (s0 : σ) (hl : l.size ≤ 9223372036854775807)
    (h0 : pruP (fun T => T = I 0 s0) (prune (A.loop F (headR b)) S)) (hi : Inv 0 s0)
    (hr : ∀ i x s, i < l.size → l.data.toList[i]? = some x → l.data[i]? = some x → ((i : Int) < (l.size : Int)) → ((0 : Int) ≤ (i : Int)) → IntKind.i64.wrap ((i : Int) + 1) = ((i + 1 : Nat) : Int) → Inv i s →
      nextE (A.loop F (headR b)) (fun T => ∃ s', T = I (i + 1) s' ∧ Inv (i + 1) s') (fun r => Φ (some r)) (ev P A pr F b (I i s)))
    (hn : ∀ s, Inv l.size s → nextE (A.loop F (headR b)) (fun _ => False) (fun r => Φ (some r)) (ev P A pr F b (I l.size s))) :
    ∀ E, ev P A pr F (.loop b) S = E → Φ E := by
  refine ev_phi l.size I Inv s0 h0 hi (fun i s hlt h => ?_) hn
  have hx : l.data[i]? = some l.data[i] := Array.getElem?_eq_getElem hlt
  exact hr i l.data[i] s hlt (by rw [← hx]; simp) hx (by omega) (by omega) (by rw [wrap_i64 (by omega) (by omega)]; rfl) h
end
end Go.Shade
namespace Go.Shade
open Go
section
variable {stk : Stk} {k : IntKind} {n : Int} {b : Bool} {s : ByteArray} {sz l t o i : Nat} {rows : List (List V)} {cs vs a q : List V} {v : V} {T : TypeId} {f : FuncId}
theorem okL_nil : V.okL stk [] = true := rfl
theorem okL_cons : V.okL stk (v :: vs) = (V.okB stk v && V.okL stk vs) := rfl
theorem okB_int : V.okB stk (.int k n) = true := rfl
theorem okB_bool : V.okB stk (.bool b) = true := rfl
theorem okB_str : V.okB stk (.str s) = true := rfl
theorem okB_sl : V.okB stk (.sl sz rows) = true := rfl
theorem okB_nl : V.okB stk (.nl sz) = true := rfl
theorem okB_nili : V.okB stk .nili = true := rfl
theorem okB_nilf : V.okB stk .nilf = true := rfl
theorem okB_ptr : V.okB stk (.ptr l t o) = (lookB stk l t).isSome := rfl
theorem okB_rptr : V.okB stk (.rptr l t i o) = (lookB stk l t).isSome := rfl
theorem okB_row : V.okB stk (.row l t) = (lookB stk l t).isSome := rfl
theorem okB_mp : V.okB stk (.mp l t) = (lookB stk l t).isSome := rfl
theorem okB_fn : V.okB stk (.fn f a q) = (V.okL stk a && V.okL stk q) := rfl
theorem okB_ifc : V.okB stk (.ifc T v) = V.okB stk v := rfl
theorem okB_agg : V.okB stk (.agg cs) = V.okL stk cs := rfl
theorem okB_tup : V.okB stk (.tup cs) = V.okL stk cs := rfl
theorem quiet_cells : quietB (.cells cs) = cs.all V.flat := rfl
theorem quiet_tok {e z m : Nat} : quietB (.tok e z m) = false := rfl
theorem quiet_row : quietB (.row sz rows) = true := rfl
theorem quiet_fz : quietB (.fz sz rows) = true := rfl
theorem quiet_smap {es : List (ByteArray × V)} : quietB (.smap es) = es.all fun e => e.2.flat := rfl
theorem quiet_imap {es : List (Int × V)} : quietB (.imap es) = es.all fun e => e.2.flat := rfl
theorem flat_int : V.flat (.int k n) = true := rfl
theorem flat_bool : V.flat (.bool b) = true := rfl
theorem flat_str : V.flat (.str s) = true := rfl
theorem flat_sl : V.flat (.sl sz rows) = true := rfl
theorem flat_nl : V.flat (.nl sz) = true := rfl
theorem flat_nili : V.flat .nili = true := rfl
theorem flat_nilf : V.flat .nilf = true := rfl
theorem flat_nilm : V.flat .nilm = true := rfl
theorem flat_ptr : V.flat (.ptr l t o) = false := rfl
theorem flat_rptr : V.flat (.rptr l t i o) = false := rfl
theorem flat_row : V.flat (.row l t) = false := rfl
theorem flat_mp : V.flat (.mp l t) = false := rfl
theorem flat_fn : V.flat (.fn f a q) = false := rfl
theorem flat_ap : V.flat (.ap l t sz rows) = false := rfl
theorem flat_eptr : V.flat (.eptr cs o) = false := rfl
theorem flat_ifc : V.flat (.ifc T v) = V.flat v := rfl
end
end Go.Shade
namespace Go.Shade
open Go
section
variable {f : Fr} {r : Stk} {t : Nat} {v : V}
theorem lookB_four : lookB (f :: r) 4 t = lookB r 3 t := rfl
theorem lookB_five : lookB (f :: r) 5 t = lookB r 4 t := rfl
theorem up_three : V.up 3 v = v.sh 3 := rfl
theorem up_four : V.up 4 v = v.sh 4 := rfl
theorem up_five : V.up 5 v = v.sh 5 := rfl
theorem down_three : V.down 3 v = v.un 3 := rfl
theorem down_four : V.down 4 v = v.un 4 := rfl
end
end Go.Shade
