/-
  The law FuseMonotone: for all arguments it hands back true, and every argument reads behind the call as it read before. No condition.
-/
import Derived.Test.YtfgkljfoalgkaaaWMono
import Derived.Test.YtfgkljfoalgkaaaRow
namespace Go.Proofs.Ytfgkljfoalgkaaa
open Go.ChangeShapes Go.WideShapes Go.ChangeAt Go.RowKit

theorem fuseMonotone_rows : ∀ t, t ∈ Try.f20.params.toList → Try.prog.readableRec t = true ∧ t < Try.prog.types.size := by
  intro t ht
  rw [Try.params20] at ht
  simp at ht
  rcases ht with rfl | rfl | rfl <;> exact ⟨by kernel_rfl, of_decide_eq_true (by kernel_rfl)⟩

set_option maxRecDepth 100000 in
theorem fuseMonotone_lifted (os : Os) (started : os.Started) (H : Type) (enc : TypeId × Value → H) :
    ReturnsInHanded {} Try.checked os 20 .any (Rows.fuseMonotoneSpec.pre6 enc Try.prog Try.f20 Rows.fuseMonotoneRow.domain false) (Rows.fuseMonotoneSpec.post enc Try.prog Try.f20 false true false false) := by
  refine returnsInHanded_of_change (C := Try.checked) Try.own started (by kernel_rfl) Try.func20
    (ChangeSpec.witness6 (enc := enc) (C := Try.checked) false ⟨#[], #[.agg #[.slice none 0 0, .slice none 0 0, .slice none 0 0], .int .u32 0, .int .u32 0], []⟩ 8 (by kernel_rfl) (by kernel_rfl) (by kernel_rfl) (by kernel_rfl)) ?_
  intro W base args ds gs before hval0 hW _ _
  have hval : ∀ (j : Nat) t v, Try.f20.params[j]? = some t → args[j]? = some v → Value.okWide Try.prog W .any base t v := hval0
  have hW' := hW
  obtain ⟨p, q, hA0, hV, rfl, hfz, _⟩ := hW
  have hA : DataW.TrodAll enc Try.prog W 0 (fun _ => true) true Try.f20.params.toList args.toList ds p := hA0
  rw [Try.params20] at hA hval
  obtain ⟨v0, v1, v2, d0, d1, d2, p0, p1, p2, rfl, rfl, rfl, h0, h1, h2⟩ := trodAll_three hA
  obtain ⟨rfl, rfl⟩ := trodVars_none hV
  obtain ⟨a0, b0, c0, n0, m0, l0, F0, C0, S0, rfl, g0, k0, q0⟩ := open_panel (hval 0 66 v0 rfl rfl) h0
  obtain ⟨x1, rfl⟩ := open_u32 (hval 1 46 v1 rfl rfl) h1
  obtain ⟨x2, rfl⟩ := open_u32 (hval 2 46 v2 rfl rfl) h2
  clear hA0 hval0 hfz
  refine (fuseMonotone_walk a0 b0 c0 n0 m0 l0 F0 C0 S0 x1 x2 W g0 k0 q0).mono fun e W' ⟨he, hb⟩ => ?_
  subst he
  exact ⟨_, rfl, law_post Try.laidOut fuseMonotone_rows hW' rfl rfl rfl rfl rfl Try.underlying4 hb⟩

theorem fuseMonotone_named : Try.pinned.checked.prog.funcNamed Rows.fuseMonotoneRow.func = some 20 := by kernel_rfl
theorem fuseMonotone_closed : joinedFacts Try.pinned.checked.prog 20 Try.f20 Rows.fuseMonotoneSpec Rows.fuseMonotoneRow = true := by kernel_rfl
theorem fuseMonotone_inst : Try.f20.isInstance Try.pinned.checked.prog Rows.fuseMonotoneRow.origin Rows.fuseMonotoneRow.targs := of_decide_eq_true (by kernel_rfl)
theorem fuseMonotone_wrap : Try.f20.isWrapper Try.pinned.checked.prog Rows.fuseMonotoneRow.wrapper Rows.fuseMonotoneRow.mainSum := by unfold Func.isWrapper; first | (rw [if_pos (by decide +kernel)]; kernel_rfl) | (rw [if_neg (by decide +kernel)]; exact ⟨rfl, rfl⟩)
theorem fuseMonotone_holds : Rows.FuseMonotoneSaid :=
  OpenClaim.holds_of_wide 20 Try.f20 rfl rfl rfl rfl rfl rfl rfl ⟨rfl, rfl, rfl, rfl, rfl⟩ rfl rfl rfl rfl rfl fuseMonotone_named Try.func20 fuseMonotone_closed fuseMonotone_inst fuseMonotone_wrap
    (fun os started H enc _ => fuseMonotone_lifted os started H enc)
#print axioms fuseMonotone_holds
end Go.Proofs.Ytfgkljfoalgkaaa
