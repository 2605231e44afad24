/- For every list of terms and every level CheckpolyReducta returns true, and the arguments read afterwards as before: no condition. -/
import Derived.Test.YtjjcncedfphnhaaRdc
import Derived.Test.YtjjcncedfphnhaaJo
namespace Go.Proofs.Ytjjcncedfphnhaa
open Go.ChangeShapes Go.WideShapes Go.ChangeAt Go.RowKit Go.Vc

theorem redOwn : ownKnob Try.prog.godebug = none := by kernel_rfl
theorem redLaid : laidOutB Try.prog = true := by kernel_rfl

set_option maxRecDepth 100000 in
theorem redLifted (os : Os) (started : os.Started) (H : Type) (enc : TypeId × Value → H) :
    ReturnsInHanded {} Try.checked os 5 .any (Rows.checkpolyReductaSpec.pre6 enc Try.prog Try.f5 Rows.checkpolyReductaRow.domain false) (Rows.checkpolyReductaSpec.post enc Try.prog Try.f5 false true false false) := by
  refine returnsInHanded_of_change (C := Try.checked) redOwn started (by kernel_rfl) Try.func5
    (ChangeSpec.witness6 (enc := enc) (C := Try.checked) false ⟨#[], #[.slice none 0 0, .int .u8 0], []⟩ 8 (by kernel_rfl) (by kernel_rfl) (by kernel_rfl) (by kernel_rfl)) ?_
  intro W base args ds gs before hval0 hW hcnd _
  have hval : ∀ (j : Nat) t v, Try.f5.params[j]? = some t → args[j]? = some v → Value.okWide Try.prog W .any base t v := hval0
  have hW' := hW
  obtain ⟨p, q, hA0, hV, rfl, hfz, hnd⟩ := hW
  have hA : DataW.TrodAll enc Try.prog W 0 (fun _ => true) true Try.f5.params.toList args.toList ds p := hA0
  have hA' := hA
  rw [Try.params5] at hA hval
  obtain ⟨v0, v1, d0, d1, p0, p1, rfl, rfl, rfl, h0, h1⟩ := trodAll_two hA
  obtain ⟨rfl, rfl⟩ := trodVars_none hV
  obtain ⟨l0, m0⟩ := open_monos (hval 0 _ v0 rfl rfl) h0
  obtain ⟨n, rfl, hdn, hpn, hwf⟩ := open_int Try.underlying5 (hval 1 _ v1 rfl rfl) h1
  refine (CheckpolyReducta_any W.heap v0 l0 n m0 (bounds_u8 hwf)).row.mono fun e W' ⟨he, hb⟩ => ?_
  subst he
  refine ⟨_, rfl, [d0, d1], [], _, [], p0 ++ p1, [], hW', ?_, ?_, rfl, hb.frame _, fun h => by cases h⟩
  · exact trodAll_mk1 (shut_bool Try.underlying4 _)
  · exact trodAll_below redLaid hb (by kernel_rfl) (fun x hx => hW'.lt x (List.mem_append_left _ hx)) hA'

theorem reducta_holds : Rows.CheckpolyReductaSaid :=
  OpenClaim.holds_of_wide 5 Try.f5 rfl rfl rfl rfl rfl rfl rfl ⟨rfl, rfl, rfl, rfl, rfl⟩ rfl rfl rfl rfl rfl (by kernel_rfl) Try.func5 (by kernel_rfl)
    (of_decide_eq_true (by kernel_rfl)) (by unfold Func.isWrapper; first | (rw [if_pos (by decide +kernel)]; kernel_rfl) | (rw [if_neg (by decide +kernel)]; exact ⟨rfl, rfl⟩))
    (fun os started H enc _ => redLifted os started H enc)
#print axioms reducta_holds
end Go.Proofs.Ytjjcncedfphnhaa
