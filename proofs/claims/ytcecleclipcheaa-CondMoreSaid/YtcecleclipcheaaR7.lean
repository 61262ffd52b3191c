/-
  'CondMore': whatever the input, the law's function returns true and the input reads as it did.
-/
import Derived.Test.YtcecleclipcheaaU1
import Derived.Test.YtcecleclipcheaaU8
import Derived.Test.YtcecleclipcheaaEd
import Derived.Test.YtcecleclipcheaaU5
import Derived.WalkKit
import Derived.ProofKit
import Derived.OpenShut
set_option linter.unusedVariables false
set_option linter.unusedSimpArgs false
namespace Go.Proofs.Ytcecleclipcheaa.condMore
open Go.Shade Go.Fence Go.ChangeShapes Go.WideShapes Go.ChangeAt Go.RowKit

theorem own : ownKnob Try.prog.godebug = none := by kernel_rfl
theorem laid : laidOutB Try.prog = true := by kernel_rfl

set_option maxRecDepth 100000 in
theorem lifted (os : Os) (started : os.Started) (H : Type) (enc : TypeId × Value → H) :
    ReturnsInHanded {} Try.checked os 7 .any (Rows.condMoreSpec.pre6 enc Try.prog Try.f7 Rows.condMoreRow.domain false) (Rows.condMoreSpec.post enc Try.prog Try.f7 false true false false) := by
  refine returnsInHanded_of_change (C := Try.checked) own started (by kernel_rfl) Try.func7
    (ChangeSpec.witness6 (enc := enc) (C := Try.checked) false ⟨#[], #[.agg #[.string ⟨#[]⟩, .slice none 0 0, .slice none 0 0, .bool false, .slice none 0 0], .slice none 0 0, .slice none 0 0], []⟩ 8 (by kernel_rfl) (by kernel_rfl) (by kernel_rfl) (by kernel_rfl)) ?_
  intro W base args ds gs before hval0 hW hcnd _
  have hval : ∀ (j : Nat) t v, Try.f7.params[j]? = some t → args[j]? = some v → Value.okWide Try.prog W .any base t v := hval0
  have hW' := hW
  obtain ⟨p, q, hA0, hV, rfl, hfz, hnd⟩ := hW
  have hA : DataW.TrodAll enc Try.prog W 0 (fun _ => true) true Try.f7.params.toList args.toList ds p := hA0
  rw [Try.params7] at hA hval
  obtain ⟨v0, vs0, d0, ds0, p0, q0, hargs, rfl, rfl, h0, r0⟩ := trodAll_cons hA
  obtain ⟨v1, vs1, d1, ds1, p1, q1, rfl, rfl, rfl, h1, r1⟩ := trodAll_cons r0
  obtain ⟨v2, vs2, d2, ds2, p2, q2, rfl, rfl, rfl, h2, r2⟩ := trodAll_cons r1
  obtain ⟨rfl, rfl, rfl⟩ := trodAll_nil r2
  obtain rfl : args = #[v0, v1, v2] := by cases args; simp_all
  obtain ⟨x0, f0, e0⟩ := arg_ok rFile (.inl ⟨_, Try.underlying43⟩) (fun h => absurd Try.underlying43 (h _)) (hval 0 43 v0 rfl rfl) h0
  obtain ⟨x1, f1, e1⟩ := arg_ok rOuts (.inr (.inl ⟨_, Try.underlying44⟩)) (fun _ => by kernel_rfl) (hval 1 44 v1 rfl rfl) h1
  obtain ⟨x2, f2, e2⟩ := arg_ok rOuts (.inr (.inl ⟨_, Try.underlying44⟩)) (fun _ => by kernel_rfl) (hval 2 44 v2 rfl rfl) h2
  have hc := calls_true (sound snd) (W := W) (us := [v0, v1, v2]) (eq7 x0 x1 x2 f0 f1 f2) rfl (fun i u x hu hx => by
    match i with
    | 0 => simp at hu hx; subst hu; subst hx; simpa [argV, Try.underlying43] using e0
    | 1 => simp at hu hx; subst hu; subst hx; simpa [argV, Try.underlying44] using e1
    | 2 => simp at hu hx; subst hu; subst hx; simpa [argV, Try.underlying44] using e2
    | i + 3 => simp at hu)
  refine hc.mono fun e W' ⟨he, hb⟩ => ?_
  subst he
  have hpost : Rows.condMoreSpec.post enc Try.prog Try.f7 false true false false W #[v0, v1, v2] (.bool true) W' := post_true (tb := 4) laid (fun t ht => by
    have : t = 43 ∨ t = 44 ∨ t = 44 := by rw [Try.params7] at ht; simpa using ht
    rcases this with rfl | rfl | rfl <;> exact ⟨by kernel_rfl, of_decide_eq_true (by kernel_rfl)⟩) rfl rfl rfl Try.underlying4 hW' hb
  exact ⟨_, rfl, hpost⟩

theorem fact1 : Try.pinned.checked.prog.funcNamed Rows.condMoreRow.func = some 7 := by kernel_rfl
theorem fInPlace : (Rows.condMoreRow.inPlace == Try.pinned.checked.prog.inPlace 7) = true := by kernel_rfl
theorem fUnfollowed : (Rows.condMoreRow.unfollowed == Try.pinned.checked.prog.unfollowed 7) = true := by kernel_rfl
theorem fRecurses : (Rows.condMoreRow.recurses == Try.pinned.checked.prog.recurses 7) = true := by kernel_rfl
theorem fNamed : (Rows.condMoreRow.named == Try.pinned.checked.prog.varsNamed 7) = true := by kernel_rfl
set_option maxRecDepth 100000 in
theorem closed : joinedFacts Try.pinned.checked.prog 7 Try.f7 Rows.condMoreSpec Rows.condMoreRow = true := by
  unfold joinedFacts
  simp only [Bool.and_eq_true]
  exact ⟨⟨⟨⟨⟨⟨⟨⟨⟨⟨⟨⟨⟨⟨⟨⟨⟨⟨⟨⟨⟨⟨⟨⟨⟨⟨⟨⟨⟨⟨⟨(by kernel_rfl), fLaid⟩, fRowed⟩, (by kernel_rfl)⟩, (by kernel_rfl)⟩, (by kernel_rfl)⟩, fStops⟩, (by kernel_rfl)⟩, fKnobs⟩, fInPlace⟩, fUnfollowed⟩, fRecurses⟩, fNamed⟩, (by kernel_rfl)⟩, (by kernel_rfl)⟩, (by kernel_rfl)⟩, (by kernel_rfl)⟩, (by kernel_rfl)⟩, (by kernel_rfl)⟩, (by kernel_rfl)⟩, (by kernel_rfl)⟩, (by kernel_rfl)⟩, (by kernel_rfl)⟩, (by kernel_rfl)⟩, fHeard⟩, mayEnter⟩, liftsFinal⟩, (by kernel_rfl)⟩, (by kernel_rfl)⟩, (by kernel_rfl)⟩, (by kernel_rfl)⟩, (by kernel_rfl)⟩
theorem over : Rows.condMoreRow.holds Try.pinned (OpenSpec.ofChange Rows.condMoreSpec) :=
  OpenClaim.holds_of_wide 7 Try.f7 rfl rfl rfl rfl rfl rfl rfl ⟨rfl, rfl, rfl, rfl, rfl⟩ rfl rfl rfl rfl rfl fact1 Try.func7 closed
    (of_decide_eq_true (by kernel_rfl)) (by unfold Func.isWrapper; first | (rw [if_pos (by decide +kernel)]; kernel_rfl) | (rw [if_neg (by decide +kernel)]; exact ⟨rfl, rfl⟩))
    (fun os started H enc _ => lifted os started H enc)
theorem proved : Rows.CondMoreSaid := over
end Go.Proofs.Ytcecleclipcheaa.condMore
