/-
  The operations, one by one: literals of slices, 'make', addresses of fields, functions, conversions.
-/
import Derived.Test.YtcecleclipcheaaSh12
import Derived.Laws.MakeOwn
set_option linter.unusedVariables false
set_option linter.unusedSimpArgs false
namespace Go.Shade
open Go Go.RowKit

section
variable {P : Program} {W0 : World} {Φ : Held} {g : G} {rd stk : Stk} {w : World}

/-! ### literals of slices -/
theorem RowsL.single {M : Mem} {us : List Value} {xs : List V} (h1 : us.length = xs.length) (h2 : ∀ (i : Nat) u x, us[i]? = some u → xs[i]? = some x → Rd M u x) : RowsL M us xs.length [xs] := by
  refine ⟨by simp [h1], by simp, fun i r j x hi hj => ?_⟩
  cases i with
  | zero =>
    simp at hi
    subst hi
    obtain ⟨u, hu⟩ : ∃ u, us[j]? = some u := ⟨_, List.getElem?_eq_getElem (by have := (List.getElem?_eq_some_iff.1 hj).1; omega)⟩
    exact ⟨u, by simpa using hu, h2 j u x hu hj⟩
  | succ i => simp at hi

theorem elems_ok {sz : Nat} (hsz : 0 < sz) (hfz : ∀ l t sz xs, lookB rd l t = some (.fz sz xs) → ∃ sz' b n c, g.β l t = some (.row sz' b n c) ∧ Rd g.M (.slice (some ⟨b, 0, none⟩) n c) (.sl sz xs)) :
    ∀ (ps : List (Nat × Value)) (qs : List (Nat × V)) (i0 : Nat) (rows : List (List V)), ps.length = qs.length → (∀ (i : Nat) p q, ps[i]? = some p → qs[i]? = some q → p.1 = q.1 ∧ VR g p.2 q.2) → elemsV rd sz i0 qs = some rows →
      ps = ((ps.map (·.2)).zipIdx i0).map (fun x => (x.2, x.1)) ∧ rows.length = ps.length ∧ RowsL g.M ((ps.map (·.2)).flatMap fun v => v.cells.toList) sz rows ∧ ∀ v ∈ ps.map (·.2), v.cells.size = sz
  | [], [], i0, rows, _, _, he => by
    cases he
    exact ⟨rfl, rfl, RowsL.nil _ _, by simp⟩
  | [], _ :: _, _, _, hl, _, _ => by simp at hl
  | _ :: _, [], _, _, hl, _, _ => by simp at hl
  | (i, v) :: ps, (j, x) :: qs, i0, rows, hl, hv, he => by
    obtain ⟨e1, hx⟩ := hv 0 (i, v) (j, x) rfl rfl
    simp only at e1 hx
    subst e1
    simp only [elemsV] at he
    split at he
    · rename_i hij
      subst hij
      split at he
      · rename_i x' hco
        split at he
        · rename_i hc
          simp only [Bool.and_eq_true, decide_eq_true_eq] at hc
          split at he
          · rename_i q hq
            cases he
            obtain ⟨h1, h2, h3, h4⟩ := elems_ok hsz hfz ps qs (i0 + 1) q (by simpa using hl) (fun k p q hp hq => hv (k + 1) p q (by simpa using hp) (by simpa using hq)) hq
            have hpw := PW.of_cells (co_ok hfz hx hco) (by intro e; rw [e] at hc; simp at hc; omega)
            have hs1 : v.cells.size = sz := by have := hpw.1; simp at this; omega
            have hsg := RowsL.single (M := g.M) hpw.1 fun i u y hu hy => pure_rd (hpw.2.1 i u y hu hy) (List.all_eq_true.1 hc.2 y (List.mem_of_getElem? hy))
            rw [hc.1] at hsg
            refine ⟨?_, by simp [h2], by simpa using hsg.append h3, fun u hu => ?_⟩
            · simp only [List.map_cons, List.zipIdx_cons]
              rw [← h1]
            · rcases List.mem_cons.1 hu with rfl | hu
              · exact hs1
              · exact h4 u hu
          · cases he
        · cases he
      · cases he
    · cases he

variable {tm : List (Nat × V)} {a : Act}
theorem bsl_ok {A : An} {F : FuncId} (h : WR W0 Φ g stk w) (hs : Sub rd stk) (ht : TmR g tm a) {t : TypeId} {len : Nat} {parts : Array (Nat × Operand)} {d : Option Nat} {r : V × Stk}
    (hr : bslV P A F rd stk d len (parts.toList.map (·.1)) (opds tm (parts.toList.map (·.2))) (slTy P t) = some r) : OK W0 Φ g r ((Instr.buildSlice t len (parts.map fun (i, x) => (i, a.eval x))).run P w) := by
  unfold bslV at hr
  split at hr
  · rename_i vs e sz ho hty
    obtain ⟨i, z, h1, h2, h3, rfl, h5, h6, h7, h8⟩ := slTy_ok hty
    split at hr
    · rename_i hc
      obtain ⟨rfl, hc2, hc3⟩ := hc
      split at hr
      · rename_i rows he
        obtain ⟨hl, hv⟩ := parts_ok ht ho
        obtain ⟨p1, p2, p3, p4⟩ := elems_ok h6 (h.fz_rd hs) _ _ 0 rows hl hv he
        have hlen : rows.length = vs.length := by rw [p2, hl, List.length_zip, hc2, Nat.min_self]
        generalize hps : (parts.map fun (i, x) => (i, a.eval x)) = ps at p1 p2 p3 p4
        have hpl : (ps.toList.map (·.2)).length = vs.length := by rw [List.length_map, ← p2, hlen]
        have hsm : vs.length * i.size ≤ 4096 * 64 := Nat.mul_le_mul hc3 h8
        have key : ∃ c : Array Value, (Instr.buildSlice t vs.length ps).run P w = .ok (.slice (some ⟨w.heap.size, 0, none⟩) rows.length rows.length) (w.alloc (.cells c e)) ∧ RowsAt g.M c i.size rows ∧ c.size = rows.length * i.size := by
          refine ⟨((ps.toList.map (·.2)).flatMap fun v => v.cells.toList).toArray, ?_, p3.at (by simp only; rw [← p3.1, List.take_length]), by simp only [List.size_toArray]; exact p3.1⟩
          by_cases hz : vs.length = 0
          · have hps0 : ps = #[] := by
              have : ps.size = 0 := by simpa [hz] using hpl
              exact Array.eq_empty_of_size_eq_zero this
            rw [hlen, hz, hps0]
            have e0 : Array.range 0 = #[] := Array.eq_empty_of_size_eq_zero (by simp)
            simp [Instr.buildSlice, run_underlying h1, sizeOf, typeInfo, h2, Instr.fill, newRow, e0]
          · rw [hlen]
            refine run_buildSlice w t e vs.length ps _ i z h1 h2 h3 (by omega) (by have := Nat.mul_pos (Nat.pos_of_ne_zero hz) h6; omega) ?_
            have hfw := Go.Great.fill_whole h6 (ps.toList.map (·.2)) ((Array.range (vs.length * i.size)).map (z.cells[· % z.cells.size]!)) p4 (by rw [hpl]; simp)
            rw [← p1] at hfw
            exact hfw
        obtain ⟨c, k1, k2, k3⟩ := key
        rw [k1]
        split at hr
        · rename_i d'
          split at hr
          · obtain ⟨d2, f, q, e1, rfl, hd, rfl⟩ := mkV_some_inv hr
            cases e1
            exact new_ap h hd c e i.size rows rows.length (Nat.le_refl _) (by have : vs.length ≤ maxLen := Nat.le_trans hc3 (by decide); omega) k2 k3
          · split at hr
            · obtain ⟨d2, f, q, e1, rfl, hd, rfl⟩ := mkV_some_inv hr
              cases e1
              exact new_row h hd c e i.size rows rows.length (Nat.le_refl _) k2
            · cases hr
              exact new_sl h c e i.size rows rows.length (Nat.le_refl _) k2
        · cases hr
      · cases hr
    · cases hr
  · cases hr

/-! ### make -/
theorem msl_ok {A : An} {F : FuncId} (h : WR W0 Φ g stk w) {t : TypeId} {u v : Value} {x y : V} (hu : VR g u x) (hv : VR g v y) {d : Option Nat} {r : V × Stk} (hr : msl2 P A F stk d x y (slTy P t) = some r) :
    OK W0 Φ g r ((Instr.makeSlice t u v).run P w) := by
  unfold msl2 at hr
  split at hr
  · rename_i e sz hty
    obtain ⟨i, z, h1, h2, h3, rfl, h5, h6, h7, h8⟩ := slTy_ok hty
    split at hr
    · rename_i l c
      obtain ⟨zc, hz, hr⟩ := Option.bind_eq_some_iff.1 hr
      obtain ⟨i', z', e1, e2, e3, e4, e5, e6⟩ := zeroC_ok (g := g) hz
      rw [h2] at e1
      cases e1
      rw [h3] at e2
      cases e2
      obtain rfl := hu.int_inv
      obtain rfl := hv.int_inv
      unfold mslV at hr
      split at hr
      · rename_i hc
        obtain ⟨c1, c2, c3, c4, c5⟩ := hc
        simp only [most] at c3
        have hb : (i.bytes : Int) * c ≤ 281474976710656 := by
          have : i.bytes * c.toNat ≤ 32768 * 4294967296 := Nat.mul_le_mul h7 (by omega)
          have e0 : (c.toNat : Int) = c := Int.toNat_of_nonneg (by omega)
          rw [← e0, ← Int.natCast_mul]
          omega
        rw [run_make (P := P) w t e i z h1 h2 h3 .i64 .i64 l c c1 c2 hb (by omega)]
        generalize hrows : List.replicate l.toNat (zc.map V.nls) = rows at hr
        have hlen : rows.length = l.toNat := by rw [← hrows]; simp
        have hra : RowsAt g.M (madeCells z.cells (c.toNat * i.size)) i.size rows := by
          refine ⟨by rw [hlen, size_madeCells]; exact Nat.mul_le_mul_right _ (by omega), fun r hr => ?_, fun k r j x hk hj => ?_⟩
          · rw [← hrows] at hr
            obtain ⟨_, rfl⟩ := List.mem_replicate.1 hr
            simp [c4]
          · rw [← hrows, List.getElem?_replicate] at hk
            split at hk
            · rename_i hkl
              cases hk
              have hj' : j < i.size := by have := (List.getElem?_eq_some_iff.1 hj).1; simp [c4] at this; exact this
              have hlt : k * i.size + j < c.toNat * i.size := by
                have : (k + 1) * i.size ≤ c.toNat * i.size := Nat.mul_le_mul_right _ (by omega)
                rw [Nat.add_mul, Nat.one_mul] at this
                omega
              have hmod : (k * i.size + j) % z.cells.size = j := by rw [e4, c4, Nat.mul_comm, Nat.mul_add_mod, Nat.mod_eq_of_lt hj']
              have hjz : j < z.cells.size := by omega
              obtain ⟨q, hq⟩ : ∃ q, z.cells[j]? = some q := ⟨_, Array.getElem?_eq_getElem hjz⟩
              refine ⟨q, ?_, ?_⟩
              · simp only [madeCells, Array.getElem?_map, Array.getElem?_range, hlt, if_true, Option.map_some]
                rw [hmod, getElem!_def, hq]
              · have hpx : x.pure = true := List.all_eq_true.1 c5 x (List.mem_of_getElem? hj)
                rw [List.getElem?_map] at hj
                obtain ⟨y, hy, rfl⟩ := Option.map_eq_some_iff.1 hj
                have hvr := e5 j q y hq hy
                cases y with
                | nl s => rw [hvr.nl_inv]; exact .nil _
                | _ => first | exact pure_rd hvr hpx
            · cases hk
        split at hr
        · rename_i d'
          rw [← hlen]
          split at hr
          · obtain ⟨d2, f, q, e1, rfl, hd, rfl⟩ := mkV_some_inv hr
            cases e1
            exact new_ap h hd _ e i.size rows c.toNat (by omega) (by simp only [maxLen]; omega) hra (size_madeCells _ _)
          · split at hr
            · rename_i hlc
              split at hr
              · obtain ⟨d2, f, q, e1, rfl, hd, rfl⟩ := mkV_some_inv hr
                cases e1
                exact new_row h hd _ e i.size rows c.toNat (by omega) hra
              · cases hr
                exact new_sl h _ e i.size rows c.toNat (by omega) hra
            · cases hr
        · cases hr
      · cases hr
    · cases hr
  · cases hr

/-! ### addresses of fields -/
theorem fdA_ok (h : WR W0 Φ g stk w) {t : TypeId} {f : Nat} {v : Value} {x y : V} (hv : VR g v x) (hy : fdA P t f x = some y) : OK W0 Φ g (y, stk) ((Instr.fieldAt t v f).run P w) := by
  have run : ∀ k (ad : Addr), fdOff P t f = some k → (Instr.fieldAt t (.pointer (some ad)) f).run P w = .ok (.pointer (some (ad.add k))) w := by
    intro k ad hk
    unfold fdOff at hk
    split at hk
    · rename_i fs hu
      split at hk
      · rename_i fl hf
        split at hk
        · rename_i j hj
          split at hk
          · cases hk
          · rename_i hne
            cases hk
            simp [Instr.fieldAt, run_underlying hu, hf, Instr.sureAddr, fieldPlace, sizeOf, typeInfo, hj, hne]
        · cases hk
      · cases hk
    · cases hk
  unfold fdA at hy
  split at hy
  · obtain ⟨k, hk, rfl⟩ := Option.map_eq_some_iff.1 hy
    obtain ⟨b, hb, rfl⟩ := hv.ptr_inv
    rw [run k _ hk, add_lit]
    exact .same (.ptr _ _ _ _ hb) h
  · obtain ⟨k, hk, rfl⟩ := Option.map_eq_some_iff.1 hy
    obtain ⟨sz, b, n, c, hb, rfl⟩ := hv.rptr_inv
    rw [run k _ hk, add_lit, Nat.add_assoc]
    exact .same (.rptr _ _ _ _ _ _ _ _ hb) h
  · obtain ⟨k, hk, rfl⟩ := Option.map_eq_some_iff.1 hy
    obtain ⟨ad, vs, rfl, hM, hR⟩ := hv.eptr_inv
    rw [run k _ hk, add_add]
    exact .same (.rd (.eptr ad _ _ vs hM hR)) h
  · cases hy

/-! ### conversions -/
theorem push_foldl : ∀ (ns : List Int) (s : ByteArray), (ns.foldl (fun r n => r.push (UInt8.ofNat n.toNat)) s) = ⟨s.data ++ (ns.map fun n => UInt8.ofNat n.toNat).toArray⟩
  | [], s => by simp
  | n :: ns, s => by
    rw [List.foldl_cons, push_foldl ns]
    simp [ByteArray.push]
theorem bytesV_ok : ∀ {rows : List (List V)} {l : List UInt8}, bytesV rows = some l → ∃ ns : List Int, rows = ns.map (fun n => [.int .u8 n]) ∧ l = ns.map fun n => UInt8.ofNat n.toNat
  | [], l, h => by cases h; exact ⟨[], rfl, rfl⟩
  | r :: rows, l, h => by
    unfold bytesV at h
    split at h
    · rename_i heq; cases heq
    · rename_i n q heq
      cases heq
      split at h
      · rename_i q' hq
        cases h
        obtain ⟨ns, e1, e2⟩ := bytesV_ok hq
        exact ⟨n :: ns, by simp [e1], by simp [e2]⟩
      · cases h
    · cases h
theorem cv_ok (h : WR W0 Φ g stk w) (hs : Sub rd stk) {src dst : TypeId} {v : Value} {x y : V} (hv : VR g v x) (hy : cvV P rd src dst x = some y) : OK W0 Φ g (y, stk) ((convert src dst v).run P w) := by
  unfold cvV at hy
  split at hy
  · rename_i h1 h2
    cases hy
    obtain rfl := hv.int_inv
    have e : ∀ k n k', P.underlying dst = some (.int k') → (convert src dst (.int k n)).run P w = .ok (.int k' (k'.wrap n)) w := fun k n k' h2 => by simp [convert, run_underlying h1, run_underlying h2, Conv.intToInt]
    rw [e _ _ _ h2]
    exact .same (.rd (.int _ _)) h
  · rename_i h1 h2
    cases hy
    obtain rfl := hv.str_inv
    have e : ∀ s, (convert src dst (.string s)).run P w = .ok (.string s) w := fun s => by simp [convert, run_underlying h1, run_underlying h2]
    rw [e]
    exact .same (.rd (.str _)) h
  · rename_i el h1 h2
    split at hy
    · rename_i hel
      split at hy
      · rename_i sz r hx
        obtain ⟨l, hl, rfl⟩ := Option.map_eq_some_iff.1 hy
        obtain ⟨ns, rfl, rfl⟩ := bytesV_ok hl
        have hnow := asSl_ok h hs hv hx
        rcases hnow with ⟨rfl, e0⟩ | ⟨ad, c, vs, rfl, hc, hz, hM, hR⟩
        · have : ns = [] := by simpa using e0
          subst this
          have e : (convert src dst (.slice none 0 0)).run P w = .ok (.string .empty) w := by
            rw [run_convert_bytes_string w src dst el none 0 0 h1 hel h2]
            rfl
          rw [e]
          exact .same (.rd (.str _)) h
        · have hld : (loadCells ad (ns.map (fun n => [V.int .u8 n])).length).run P w = .ok (ns.map (Value.int .u8)).toArray w := by
            have := run_loadCells (P := P) w ad ns.length (fun j => Value.int .u8 (ns.getD j 0)) (fun j hj => by
              have hj1 : (ns.map (fun n => [V.int .u8 n]))[j]? = some [V.int .u8 (ns.getD j 0)] := by simp [hj]
              have h2 := hM j _ 0 _ hj1 rfl
              have h3 := hR j _ 0 _ hj1 rfl
              have hsz : sz = 1 := by
                have := hz _ (List.mem_of_getElem? hj1)
                simpa using this.symm
              subst hsz
              cases hq : vs j 0 <;> rw [hq] at h3 <;> cases h3
              rw [hq] at h2
              simpa using h2)
            rw [List.length_map, this]
            congr 2
            apply List.ext_getElem?
            intro j
            by_cases hj : j < ns.length
            · simp [hj]
            · simp [hj]
          rw [run_convert_bytes_string w src dst el (some ad) _ c h1 hel h2, run_bytesToString w ad _ c ns hld, push_foldl]
          have : (⟨ByteArray.empty.data ++ (ns.map fun n => UInt8.ofNat n.toNat).toArray⟩ : ByteArray) = ⟨(ns.map fun n => UInt8.ofNat n.toNat).toArray⟩ := by simp
          rw [this]
          exact .same (.rd (.str _)) h
      · cases hy
    · cases hy
  · cases hy
end
end Go.Shade
