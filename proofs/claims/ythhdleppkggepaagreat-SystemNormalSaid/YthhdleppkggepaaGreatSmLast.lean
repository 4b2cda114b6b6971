/-
  Whatever raw numbers and whatever number of variables come in, the law SystemNormal returns true, and what came in reads behind the call as before. No condition.
-/
import Derived.Test.YthhdleppkggepaaGreatRows
import Derived.WalkKit
import Derived.ProofKit
import Derived.OpenShut
import Derived.ChangeOld
import Derived.Test.YthhdleppkggepaaGreatSm08

set_option linter.unusedSimpArgs false
set_option linter.unusedVariables false
set_option linter.unusedSectionVars false

namespace Go.Proofs.YthhdleppkggepaaGreat
open Go.ChangeShapes Go.WideShapes Go.ChangeAt Go.RowKit
set_option linter.unusedVariables false

theorem norms_own : ownKnob Tryz.prog.godebug = none := by kernel_rfl

set_option maxRecDepth 100000 in
theorem norms_lifted (os : Os) (started : os.Started) (H : Type) (enc : TypeId × Value → H) :
    ReturnsInHanded {} Tryz.checked os 3 .any (Rows.systemNormalSpec.pre6 enc Tryz.prog Tryz.f3 Rows.systemNormalRow.domain false) (Rows.systemNormalSpec.post enc Tryz.prog Tryz.f3 false true false false) := by
  refine returnsInHanded_of_change (C := Tryz.checked) norms_own started (by kernel_rfl) Tryz.func3
    (ChangeSpec.witness6 (enc := enc) (C := Tryz.checked) false ⟨#[], #[.agg #[.slice none 0 0, .slice none 0 0], .int .i64 0], []⟩ 8 (by kernel_rfl) (by kernel_rfl) (by kernel_rfl) (by kernel_rfl)) ?_
  intro W base args ds gs before hval0 hW hcnd _
  have hval : ∀ (j : Nat) t v, Tryz.f3.params[j]? = some t → args[j]? = some v → Value.okWide Tryz.prog W .any base t v := hval0
  have hW' := hW
  obtain ⟨p, q, hA0, hV, rfl, hfz, hnd⟩ := hW
  have hA : DataW.TrodAll enc Tryz.prog W 0 (fun _ => true) true Tryz.f3.params.toList args.toList ds p := hA0
  have hAk := hA
  have hlt := DataW.TrodAll.lt hA
  rw [Tryz.params3] at hA hval
  obtain ⟨v0, v1, d0, d1, p0, p1, rfl, rfl, rfl, h0, h1⟩ := trodAll_two hA
  obtain ⟨rfl, rfl⟩ := trodVars_none hV
  obtain ⟨A0, m0, c0, x0, A1, m1, c1, x1, rfl, r0, r1⟩ := open_raws2 (hval 0 23 v0 rfl rfl) h0
  obtain ⟨n, rfl, rfl, rfl, wn⟩ := open_int Tryz.underlying3 (hval 1 3 v1 rfl rfl) h1
  clear hA0 hval0
  refine (snormal_ok W n A0 m0 c0 x0 A1 m1 c1 x1 r0 r1).mono fun e W' hr => ?_
  obtain ⟨X, D, rfl, rfl⟩ := hr
  have bel := World.below_more W X D
  have hback := trodAll_carry (W' := W.more X D) (DataW.TrodAll.respare (spare' := fun b => decide (b < W.heap.size)) seat_kids seat_full (by rw [Tryz.params3]; decide) hAk (fun x hx => decide_eq_true (hlt x hx))) (fun x hx => sameAt_below bel (hlt x hx))
  exact ⟨_, rfl, _, _, _, [], _, [], hW', trodAll_mk1 (shut_bool Tryz.underlying4 true), hback, rfl, bel.low.frame _, fun h => by cases h⟩

theorem norms_over : Rows.systemNormalRow.holds Tryz.pinned (OpenSpec.ofChange Rows.systemNormalSpec) :=
  OpenClaim.holds_of_wide 3 Tryz.f3 rfl rfl rfl rfl rfl rfl rfl ⟨rfl, rfl, rfl, rfl, rfl⟩ rfl rfl rfl rfl rfl (by kernel_rfl) Tryz.func3 (by kernel_rfl)
    (of_decide_eq_true (by kernel_rfl)) (by unfold Func.isWrapper; first | (rw [if_pos (by decide +kernel)]; kernel_rfl) | (rw [if_neg (by decide +kernel)]; exact ⟨rfl, rfl⟩))
    (fun os started H enc _ => norms_lifted os started H enc)

/-- THE STATEMENT. -/
theorem norms_proved : Rows.SystemNormalSaid := norms_over
#print axioms norms_proved
end Go.Proofs.YthhdleppkggepaaGreat
