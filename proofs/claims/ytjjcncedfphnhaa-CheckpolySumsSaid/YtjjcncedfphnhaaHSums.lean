/- For every two lists of terms and every four numbers CheckpolySums returns true, and the arguments read afterwards as before: no condition. -/
import Derived.Test.YtjjcncedfphnhaaJo
namespace Go.Proofs.Ytjjcncedfphnhaa
open Go.ChangeShapes Go.WideShapes Go.ChangeAt Go.RowKit Go.Vc

theorem sumsOwn : ownKnob Try.prog.godebug = none := by kernel_rfl
theorem sumsLaid : laidOutB Try.prog = true := by kernel_rfl

set_option maxRecDepth 100000 in
theorem sumsLifted (os : Os) (started : os.Started) (H : Type) (enc : TypeId × Value → H) :
    ReturnsInHanded {} Try.checked os 4 .any (Rows.checkpolySumsSpec.pre6 enc Try.prog Try.f4 Rows.checkpolySumsRow.domain false) (Rows.checkpolySumsSpec.post enc Try.prog Try.f4 false true false false) := by
  refine returnsInHanded_of_change (C := Try.checked) sumsOwn started (by kernel_rfl) Try.func4
    (ChangeSpec.witness6 (enc := enc) (C := Try.checked) false ⟨#[], #[.slice none 0 0, .slice none 0 0, .agg #[.int .i8 0, .int .i8 0, .int .i8 0, .int .i8 0]], []⟩ 8 (by kernel_rfl) (by kernel_rfl) (by kernel_rfl) (by kernel_rfl)) ?_
  intro W base args ds gs before hval0 hW hcnd _
  have hval : ∀ (j : Nat) t v, Try.f4.params[j]? = some t → args[j]? = some v → Value.okWide Try.prog W .any base t v := hval0
  have hW' := hW
  obtain ⟨p, q, hA0, hV, rfl, hfz, hnd⟩ := hW
  have hA : DataW.TrodAll enc Try.prog W 0 (fun _ => true) true Try.f4.params.toList args.toList ds p := hA0
  have hA' := hA
  rw [Try.params4] at hA hval
  obtain ⟨v0, v1, v2, d0, d1, d2, p0, p1, p2, rfl, rfl, rfl, h0, h1, h2⟩ := trodAll_three hA
  obtain ⟨rfl, rfl⟩ := trodVars_none hV
  obtain ⟨l0, m0⟩ := open_monos (hval 0 _ v0 rfl rfl) h0
  obtain ⟨l1, m1⟩ := open_monos (hval 1 _ v1 rfl rfl) h1
  obtain ⟨a0, a1, a2, a3, rfl, k0, k1, k2, k3⟩ := open_i8x4 (hval 2 _ v2 rfl rfl) h2
  refine (CheckpolySums_any W.heap v0 v1 l0 l1 a0 a1 a2 a3 m0 m1 k0 k1 k2 k3).row.mono fun e W' ⟨he, hb⟩ => ?_
  subst he
  refine ⟨_, rfl, [d0, d1, d2], [], _, [], p0 ++ p1 ++ p2, [], hW', ?_, ?_, rfl, hb.frame _, fun h => by cases h⟩
  · exact trodAll_mk1 (shut_bool Try.underlying4 _)
  · exact trodAll_below sumsLaid hb (by kernel_rfl) (fun x hx => hW'.lt x (List.mem_append_left _ hx)) hA'

theorem sums_holds : Rows.CheckpolySumsSaid :=
  OpenClaim.holds_of_wide 4 Try.f4 rfl rfl rfl rfl rfl rfl rfl ⟨rfl, rfl, rfl, rfl, rfl⟩ rfl rfl rfl rfl rfl (by kernel_rfl) Try.func4 (by kernel_rfl)
    (of_decide_eq_true (by kernel_rfl)) (by unfold Func.isWrapper; first | (rw [if_pos (by decide +kernel)]; kernel_rfl) | (rw [if_neg (by decide +kernel)]; exact ⟨rfl, rfl⟩))
    (fun os started H enc _ => sumsLifted os started H enc)
#print axioms sums_holds
end Go.Proofs.Ytjjcncedfphnhaa
