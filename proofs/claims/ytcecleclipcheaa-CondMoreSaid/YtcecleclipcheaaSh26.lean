/-
  More of the shadow's equations, for rewriting.
-/
import Derived.Test.YtcecleclipcheaaSh25
set_option linter.unusedVariables false
namespace Go.Shade
open Go

section
variable {P : Program} {A : An} {F : FuncId} {rd stk : Stk} {k : IntKind} {a b : Int} {s u : ByteArray} {x y : Bool} {t d l c o i e sz n : Nat} {cs : List V} {rows : List (List V)} {v w : V} {f : Fr} {r : Stk}
theorem beqb_false {b : Bool} : (b == false) = !b := by cases b <;> rfl
theorem beqb_true {b : Bool} : (b == true) = b := by cases b <;> rfl

theorem ite_nb {α : Sort _} {b : Bool} {x y : α} : (if (!b) = true then x else y) = if b = true then y else x := by cases b <;> rfl
theorem ite_bf {α : Sort _} {b : Bool} {x y : α} : (if (b == false) = true then x else y) = if b = true then y else x := by cases b <;> rfl
theorem ite_bt {α : Sort _} {b : Bool} {x y : α} : (if (b == true) = true then x else y) = if b = true then x else y := by cases b <;> rfl
section
variable {call : Call} {q : Bool} {rds : Option Stk} {ops : Array Oper} {rr : List Oper} {tm : List (Nat × V)} {dst : Option Nat} {kk : St → Option (Ex × St)} {id : Nat} {fn : Func} {pr : FuncId → Option (List V → Stk → Option (V × Stk))} {X Y : Code} {S : St}
theorem goV_none : goV P A call F rds q ops rr tm stk dst none = none := rfl
theorem goL_none : goL P A call F rds q ops rr tm dst none = none := rfl
theorem goS_none : goS P A call F rds q ops rr tm none = none := rfl
theorem bodyE_none : bodyE P fn none = none := rfl
theorem condE_dead : condE P A pr F X Y S (some .dead) = none := rfl
end

theorem wrap_u8 {n : Int} (h0 : 0 ≤ n) (h1 : n ≤ 255) : IntKind.u8.wrap n = n := by
  simp [IntKind.wrap, IntKind.bits, IntKind.signed]
  omega
theorem wrap_i32 {n : Int} (h0 : -2147483648 ≤ n) (h1 : n ≤ 2147483647) : IntKind.i32.wrap n = n := by
  simp [IntKind.wrap, IntKind.bits, IntKind.signed]
  omega
theorem bytes_nil : bytesV [] = some [] := rfl
theorem bytes_cons {q : List (List V)} : bytesV ([.int .u8 a] :: q) = (bytesV q).map (UInt8.ofNat a.toNat :: ·) := by
  simp only [bytesV]; cases bytesV q <;> rfl
theorem ba_size {x : Array UInt8} : (ByteArray.mk x).size = x.size := rfl
theorem ba_app {x y : Array UInt8} : ByteArray.mk x ++ ByteArray.mk y = ByteArray.mk (x ++ y) := by
  apply ByteArray.ext
  simp

/-! literals of slices -/
def bslD (A : An) (F : FuncId) (stk : Stk) (d e sz : Nat) (rows : List (List V)) : Option (V × Stk) :=
  if (A.apb F).contains d then mkV stk (some d) (.tok e sz rows.length) fun d => .ap 0 d sz rows
  else if (A.rowb F).contains d then mkV stk (some d) (.row sz rows) fun d => .row 0 d
  else some (.sl sz rows, stk)
theorem bsl_eq {len : Nat} {is : List Nat} {vs : List V} {e sz : Nat} : bslV P A F rd stk (some d) len is (some vs) (some (e, sz)) =
    if len = vs.length ∧ is.length = vs.length ∧ len ≤ 4096 then (elemsV rd sz 0 (is.zip vs)).bind (bslD A F stk d e sz) else none := by
  simp only [bslV]
  split
  · cases elemsV rd sz 0 (is.zip vs) <;> rfl
  · rfl
theorem bslD_eq : bslD A F stk d e sz rows = if (A.apb F).contains d then mkV stk (some d) (.tok e sz rows.length) fun d => .ap 0 d sz rows
  else if (A.rowb F).contains d then mkV stk (some d) (.row sz rows) fun d => .row 0 d
  else some (.sl sz rows, stk) := rfl
theorem elemC_eq {z : Nat} {q : List (List V)} : elemC z (some q) (some v) = if v.cs.length = z ∧ v.cs.all V.pure = true then some (v.cs :: q) else none := by
  simp [elemC]

/-! make -/
theorem msl_eq {z : List V} {lo hi : Int} : mslV P A F stk (some d) z e sz lo hi = if 0 ≤ lo ∧ lo ≤ hi ∧ hi ≤ most ∧ z.length = sz ∧ (z.map V.nls).all V.pure = true then
    (if (A.apb F).contains d then mkV stk (some d) (.tok e sz lo.toNat) fun d => .ap 0 d sz (List.replicate lo.toNat (z.map V.nls))
      else if lo = hi then
        if (A.rowb F).contains d then mkV stk (some d) (.row sz (List.replicate lo.toNat (z.map V.nls))) fun d => .row 0 d
        else some (.sl sz (List.replicate lo.toNat (z.map V.nls)), stk)
      else none)
    else none := by
  simp only [mslV, List.length_replicate]

/-! structs and arrays out of parts -/
theorem bld_eq {is : List Nat} {vs : List V} : bldV P t is (some vs) (some cs) = if (fdPl P t 0).isSome then (fillV P t cs (is.zip vs)).map .agg else none := rfl
theorem fill_nil : fillV P t cs [] = some cs := rfl
def fil2 (P : Program) (t : TypeId) (cs : List V) (v : V) (q : List (Nat × V)) : Option (Nat × Nat) → Option (List V)
  | some (o, n) => if v.cs.length = n ∧ 0 < n ∧ o + n ≤ cs.length then fillV P t (spl cs o v.cs) q else none
  | none => none
theorem fil2_some {q : List (Nat × V)} {o n : Nat} : fil2 P t cs v q (some (o, n)) = if v.cs.length = n ∧ 0 < n ∧ o + n ≤ cs.length then fillV P t (spl cs o v.cs) q else none := rfl
theorem fill_cons {q : List (Nat × V)} : fillV P t cs ((i, v) :: q) = fil2 P t cs v q (fdPl P t i) := by
  simp only [fillV, fil2]
  cases fdPl P t i <;> rfl
theorem spl_eq {α : Type} {cs xs : List α} {o : Nat} : spl cs o xs = cs.take o ++ xs ++ cs.drop (o + xs.length) := rfl
theorem isSome_some {α : Type} {x : α} : (some x).isSome = true := rfl

/-! conversions -/
inductive CvK where
  | int (k : IntKind)
  | str
  | bytes
def cvT (P : Program) (s d : TypeId) : Option CvK := match P.underlying s, P.underlying d with
  | some (.int _), some (.int k) => some (.int k)
  | some .string, some .string => some .str
  | some (.slice e), some .string => match P.underlying e with
    | some (.int .u8) => some .bytes
    | _ => none
  | _, _ => none
def cvX (rd : Stk) : V → Option CvK → Option V
  | .int _ n, some (.int k) => some (.int k (k.wrap n))
  | .str s, some .str => some (.str s)
  | x, some .bytes => match asSl rd x with
    | some (_, r) => (bytesV r).map fun l => .str ⟨l.toArray⟩
    | none => none
  | _, _ => none
theorem cvV_eq {s d : TypeId} {v : V} : cvV P rd s d v = cvX rd v (cvT P s d) := by
  unfold cvV cvT
  cases P.underlying s with
  | none => cases v <;> rfl
  | some a =>
    cases P.underlying d with
    | none => cases a <;> cases v <;> rfl
    | some b =>
      cases a <;> cases b <;> try (cases v <;> rfl)
      rename_i e
      simp only
      cases P.underlying e with
      | none => cases v <;> rfl
      | some q =>
        cases q <;> try (cases v <;> rfl)
        rename_i k
        cases k <;> cases v <;> rfl
theorem cvX_int {k' : IntKind} : cvX rd (.int k a) (some (.int k')) = some (.int k' (k'.wrap a)) := rfl
theorem cvX_str : cvX rd (.str s) (some .str) = some (.str s) := rfl
theorem cvX_sl : cvX rd (.sl sz rows) (some .bytes) = (bytesV rows).map fun l => .str ⟨l.toArray⟩ := rfl

/-! interfaces -/
def ikT (P : Program) (t : TypeId) : Bool := match P.underlying t with
  | some (.struct _) => true
  | some (.int _) => true
  | _ => false
theorem mkI_eq : mkI P t v = if ikT P t = true then some (.ifc t v) else none := by
  unfold mkI ikT
  cases P.underlying t with
  | none => rfl
  | some q => cases q <;> rfl
section
variable {call : Call} {q : Bool} {T : TypeId} {name : String} {vs : List V}
noncomputable def calM (call : Call) (q : Bool) (rd stk : Stk) (vs : List V) : Option FuncId → Option (V × Stk)
  | some g => calV call q rd stk g vs
  | none => none
theorem calI_eq : calI P call name q rd stk (some (.ifc T v)) (some vs) = calM call q rd stk (v :: vs) (mthV P T name) := by
  simp only [calI, calM]; cases mthV P T name <;> rfl
theorem calM_some {g : FuncId} : calM call q rd stk vs (some g) = calV call q rd stk g vs := rfl
end

/-! maps -/
def lk2 (ok : Bool) (l : Nat) (k : V) : Option (Bool × List V) → Option B → Option V
  | some (true, z), some (.smap es) => match k with
    | .str k => lkR z l ok (mlook es k)
    | _ => none
  | some (false, z), some (.imap es) => match k with
    | .int .i64 k => lkR z l ok (mlook es k)
    | _ => none
  | _, _ => none
theorem lkM_eq {ok : Bool} : lkM P stk t (.mp l b.toNat) v ok = lk2 ok l v (mpTy P t) (lookB stk l b.toNat) := by
  simp only [lkM, lk2]
  cases mpTy P t with
  | none => rfl
  | some p =>
    obtain ⟨s, z⟩ := p
    simp only
    cases lookB stk l b.toNat with
    | none => cases s <;> rfl
    | some q => cases q <;> cases s <;> cases v <;> first | rfl | (rename_i k n; cases k <;> rfl)
theorem lkM_mp {ok : Bool} {m : Nat} : lkM P stk t (.mp l m) v ok = lk2 ok l v (mpTy P t) (lookB stk l m) := by
  have := lkM_eq (P := P) (stk := stk) (t := t) (l := l) (b := (m : Int)) (v := v) (ok := ok)
  simpa using this
theorem lk2_s {ok : Bool} {z : List V} {es : List (ByteArray × V)} : lk2 ok l (.str s) (some (true, z)) (some (.smap es)) = lkR z l ok (mlook es s) := rfl
theorem lk2_i {ok : Bool} {z : List V} {es : List (Int × V)} : lk2 ok l (.int .i64 a) (some (false, z)) (some (.imap es)) = lkR z l ok (mlook es a) := rfl
theorem lkR_some {z : List V} {ok : Bool} : lkR z l ok (some v) = some (if ok then .tup [v.up l, .bool true] else v.up l) := rfl
theorem lkR_none {ok : Bool} : lkR [v] l ok none = some (if ok then .tup [v, .bool false] else v) := rfl
def pu2 (stk : Stk) (l m : Nat) (k : V) : Option (Bool × List V) → Option B → Option V → Option Stk
  | some (true, _), some (.smap es), some v => match k with
    | .str k => if v.atom = true then some (setB stk l m (.smap (mput k v es))) else none
    | _ => none
  | some (false, _), some (.imap es), some v => match k with
    | .int .i64 k => if v.atom = true then some (setB stk l m (.imap (mput k v es))) else none
    | _ => none
  | _, _, _ => none
theorem puM_mp {m : Nat} {k : V} : puM P stk t (.mp l m) k v = pu2 stk l m k (mpTy P t) (lookB stk l m) (V.down l v) := by
  simp only [puM, pu2]
  cases mpTy P t with
  | none => rfl
  | some p =>
    obtain ⟨s, z⟩ := p
    simp only
    cases lookB stk l m with
    | none => cases s <;> rfl
    | some q =>
      cases V.down l v with
      | none => cases q <;> cases s <;> cases k <;> first | rfl | (rename_i k n; cases k <;> rfl)
      | some w => cases q <;> cases s <;> cases k <;> first | rfl | (rename_i k n; cases k <;> rfl)
theorem pu2_s {z : List V} {es : List (ByteArray × V)} {m : Nat} : pu2 stk l m (.str s) (some (true, z)) (some (.smap es)) (some v) = if v.atom = true then some (setB stk l m (.smap (mput s v es))) else none := rfl
theorem pu2_i {z : List V} {es : List (Int × V)} {m : Nat} : pu2 stk l m (.int .i64 a) (some (false, z)) (some (.imap es)) (some v) = if v.atom = true then some (setB stk l m (.imap (mput a v es))) else none := rfl
theorem ml_nil {κ : Type} [DecidableEq κ] {k : κ} : mlook ([] : List (κ × V)) k = none := rfl
theorem ml_cons {κ : Type} [DecidableEq κ] {k k' : κ} {es : List (κ × V)} : mlook ((k', v) :: es) k = if k = k' then some v else mlook es k := rfl
theorem mp_nil {κ : Type} [DecidableEq κ] {k : κ} : mput k v ([] : List (κ × V)) = [(k, v)] := rfl
theorem mp_cons {κ : Type} [DecidableEq κ] {k k' : κ} {es : List (κ × V)} : mput k v ((k', w) :: es) = if k = k' then (k', v) :: es else (k', w) :: mput k v es := rfl
theorem clB_imap {es : List (Int × V)} : clB f (.imap es) = if es.all fun e => e.2.pure then some (.imap es) else none := rfl

/-! append -/
theorem app_ap2 {ty e : TypeId} {xs ys : List (List V)} (h : slTy P ty = some (e, sz)) (hl : lookB stk l t = some (.tok e sz xs.length)) (hm : xs.length + ys.length ≤ most) :
    appV P rd stk (some d) ty (.ap l t sz xs) (.sl sz ys) = some (.ap l t sz (xs ++ ys), setB stk l t (.tok e sz (xs.length + ys.length))) := app_ap h hl hm
def apx (P : Program) (stk : Stk) (l t e sz : Nat) (xs ys : List (List V)) : Option B → Option (V × Stk)
  | some (.tok e' sz' n) => if e' = e ∧ sz' = sz ∧ n = xs.length ∧ xs.length + ys.length ≤ most then some (.ap l t sz (xs ++ ys), setB stk l t (.tok e sz (xs.length + ys.length))) else none
  | _ => none
theorem apx_tok {n : Nat} {xs ys : List (List V)} : apx P stk l t e sz xs ys (some (.tok e sz n)) = if n = xs.length ∧ xs.length + ys.length ≤ most then some (.ap l t sz (xs ++ ys), setB stk l t (.tok e sz (xs.length + ys.length))) else none := by
  simp [apx]
def apw (P : Program) (stk : Stk) (l t : Nat) (zx : Nat) (xs : List (List V)) : Option (TypeId × Nat) → Option (Nat × List (List V)) → Option (V × Stk)
  | some (e, sz), some (szx, ys) => if szx = sz ∧ zx = sz then apx P stk l t e sz xs ys (lookB stk l t) else none
  | _, _ => none
theorem apw_some {ys xs : List (List V)} {e sz : Nat} : apw P stk l t sz xs (some (e, sz)) (some (sz, ys)) = apx P stk l t e sz xs ys (lookB stk l t) := by simp [apw]
theorem appV_eq {ty : TypeId} {zx : Nat} {xs : List (List V)} {dst : Option Nat} : appV P rd stk dst ty (.ap l t zx xs) v = apw P stk l t zx xs (slTy P ty) (asSl rd v) := by
  unfold appV apw
  cases slTy P ty with
  | none => rfl
  | some p =>
    obtain ⟨e, sz⟩ := p
    cases asSl rd v with
    | none => rfl
    | some q =>
      obtain ⟨szx, ys⟩ := q
      simp only
      by_cases h1 : szx = sz
      · subst h1
        simp only [true_and]
        cases hb : lookB stk l t with
        | none => simp [apx]
        | some b =>
          cases b with
          | tok e' sz' n =>
            simp only [apx]
            by_cases h2 : zx = szx
            · subst h2
              simp only [true_and, if_true]
              by_cases h3 : e' = e ∧ sz' = zx ∧ n = xs.length ∧ xs.length + ys.length ≤ most
              · obtain ⟨a1, a2, a3, a4⟩ := h3
                have : ys.length ≤ most := by omega
                simp [a1, a2, a3, a4, this]
              · rw [if_neg h3]
                split
                · rw [if_neg]
                  rintro ⟨b1, b2, b3, b4⟩
                  exact h3 ⟨b2, b1, b3, b4⟩
                · rfl
            · simp [h2]
          | _ => simp [apx]
      · simp [h1]
def apn (stk : Stk) (dst : Option Nat) (ty : TypeId) : Option (TypeId × Nat) → Option (Nat × List (List V)) → Option (V × Stk)
  | some (e, sz), some (szx, ys) => if szx = sz ∧ ys.length ≤ most ∧ ys ≠ [] then mkV stk dst (.tok e sz ys.length) fun d => .ap 0 d sz ys else none
  | _, _ => none
theorem appV_nl {ty : TypeId} {z : Nat} {dst : Option Nat} : appV P rd stk dst ty (.nl z) v = apn stk dst ty (slTy P ty) (asSl rd v) := by
  unfold appV apn
  cases slTy P ty with
  | none => rfl
  | some p =>
    obtain ⟨e, sz⟩ := p
    cases asSl rd v with
    | none => rfl
    | some q =>
      obtain ⟨szx, ys⟩ := q
      simp only
      by_cases h1 : szx = sz ∧ ys.length ≤ most
      · rw [if_pos h1]
        by_cases h2 : ys = [] <;> simp [h1, h2]
      · rw [if_neg h1, if_neg (fun h => h1 ⟨h.1, h.2.1⟩)]
theorem apn_some {ty : TypeId} {ys : List (List V)} {dst : Option Nat} : apn stk dst ty (some (e, sz)) (some (sz, ys)) = if ys.length ≤ most ∧ ys ≠ [] then mkV stk dst (.tok e sz ys.length) fun d => .ap 0 d sz ys else none := by simp [apn]

/-! boxes -/
def mk2 (f : Fr) (r : Stk) (d : Nat) (b : B) (v : V) : Option B → Option (V × Stk)
  | none => some (v, ins d b f :: r)
  | some _ => none
theorem mk2_none {b : B} : mk2 f r d b v none = some (v, ins d b f :: r) := rfl
theorem mkV_eq {b : B} {g : Nat → V} : mkV (f :: r) (some d) b g = mk2 f r d b (g d) (look f d) := by
  simp only [mkV, lookB, mk2, newB]; cases look f d <;> rfl
end
end Go.Shade
