/-
  The law FuseSeparate: for all arguments it hands back true, and every argument reads behind the call as it read before. No condition.
-/
import Derived.Test.YtfgkljfoalgkaaaWSep
import Derived.Test.YtfgkljfoalgkaaaRow2
namespace Go.Proofs.Ytfgkljfoalgkaaa
open Go.ChangeShapes Go.WideShapes Go.ChangeAt Go.RowKit

theorem fuseSeparate_rows : ∀ t, t ∈ Try.f21.params.toList → Try.prog.readableRec t = true ∧ t < Try.prog.types.size := by
  intro t ht
  rw [Try.params21] at ht
  simp at ht
  rcases ht with rfl | rfl | rfl <;> exact ⟨by kernel_rfl, of_decide_eq_true (by kernel_rfl)⟩

set_option maxRecDepth 100000 in
theorem fuseSeparate_lifted (os : Os) (started : os.Started) (H : Type) (enc : TypeId × Value → H) :
    ReturnsInHanded {} Try.checked os 21 .any (Rows.fuseSeparateSpec.pre6 enc Try.prog Try.f21 Rows.fuseSeparateRow.domain false) (Rows.fuseSeparateSpec.post enc Try.prog Try.f21 false true false false) := by
  refine returnsInHanded_of_change (C := Try.checked) Try.own started (by kernel_rfl) Try.func21
    (ChangeSpec.witness6 (enc := enc) (C := Try.checked) false ⟨#[], #[.agg #[.slice none 0 0, .slice none 0 0, .slice none 0 0], .slice none 0 0, .int .u8 0], []⟩ 8 (by kernel_rfl) (by kernel_rfl) (by kernel_rfl) (by kernel_rfl)) ?_
  intro W base args ds gs before hval0 hW _ _
  have hval : ∀ (j : Nat) t v, Try.f21.params[j]? = some t → args[j]? = some v → Value.okWide Try.prog W .any base t v := hval0
  have hW' := hW
  obtain ⟨p, q, hA0, hV, rfl, hfz, _⟩ := hW
  have hA : DataW.TrodAll enc Try.prog W 0 (fun _ => true) true Try.f21.params.toList args.toList ds p := hA0
  rw [Try.params21] at hA hval
  obtain ⟨v0, v1, v2, d0, d1, d2, p0, p1, p2, rfl, rfl, rfl, h0, h1, h2⟩ := trodAll_three hA
  obtain ⟨rfl, rfl⟩ := trodVars_none hV
  obtain ⟨a0, b0, c0, n0, m0, l0, F0, C0, S0, rfl, g0, k0, q0⟩ := open_panel (hval 0 66 v0 rfl rfl) h0
  obtain ⟨l1, E1, g1⟩ := open_u32s (hval 1 28 v1 rfl rfl) h1
  obtain ⟨x2, rfl, y2, z2⟩ := open_u8 (hval 2 5 v2 rfl rfl) h2
  clear hA0 hval0 hfz
  refine (fuseSeparate_walk a0 b0 c0 n0 m0 l0 F0 C0 S0 v1 l1 E1 x2 W g0 k0 q0 g1 y2 z2).mono fun e W' ⟨he, hb⟩ => ?_
  subst he
  exact ⟨_, rfl, law_post Try.laidOut fuseSeparate_rows hW' rfl rfl rfl rfl rfl Try.underlying4 hb⟩

theorem fuseSeparate_named : Try.pinned.checked.prog.funcNamed Rows.fuseSeparateRow.func = some 21 := by kernel_rfl
theorem fuseSeparate_closed : joinedFacts Try.pinned.checked.prog 21 Try.f21 Rows.fuseSeparateSpec Rows.fuseSeparateRow = true := by kernel_rfl
theorem fuseSeparate_inst : Try.f21.isInstance Try.pinned.checked.prog Rows.fuseSeparateRow.origin Rows.fuseSeparateRow.targs := of_decide_eq_true (by kernel_rfl)
theorem fuseSeparate_wrap : Try.f21.isWrapper Try.pinned.checked.prog Rows.fuseSeparateRow.wrapper Rows.fuseSeparateRow.mainSum := by unfold Func.isWrapper; first | (rw [if_pos (by decide +kernel)]; kernel_rfl) | (rw [if_neg (by decide +kernel)]; exact ⟨rfl, rfl⟩)
theorem fuseSeparate_holds : Rows.FuseSeparateSaid :=
  OpenClaim.holds_of_wide 21 Try.f21 rfl rfl rfl rfl rfl rfl rfl ⟨rfl, rfl, rfl, rfl, rfl⟩ rfl rfl rfl rfl rfl fuseSeparate_named Try.func21 fuseSeparate_closed fuseSeparate_inst fuseSeparate_wrap
    (fun os started H enc _ => fuseSeparate_lifted os started H enc)
#print axioms fuseSeparate_holds
end Go.Proofs.Ytfgkljfoalgkaaa
