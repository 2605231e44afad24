/- For every three lists of terms CheckpolyRing returns true, and the lists read afterwards as before: no condition. -/
import Derived.Test.YtjjcncedfphnhaaRin
import Derived.Test.YtjjcncedfphnhaaJn
namespace Go.Proofs.Ytjjcncedfphnhaa
open Go.ChangeShapes Go.WideShapes Go.ChangeAt Go.RowKit Go.Vc

theorem ringOwn : ownKnob Try.prog.godebug = none := by kernel_rfl
theorem ringLaid : laidOutB Try.prog = true := by kernel_rfl

set_option maxRecDepth 100000 in
theorem ringLifted (os : Os) (started : os.Started) (H : Type) (enc : TypeId × Value → H) :
    ReturnsInHanded {} Try.checked os 7 .any (Rows.checkpolyRingSpec.pre6 enc Try.prog Try.f7 Rows.checkpolyRingRow.domain false) (Rows.checkpolyRingSpec.post enc Try.prog Try.f7 false true false false) := by
  refine returnsInHanded_of_change (C := Try.checked) ringOwn started (by kernel_rfl) Try.func7
    (ChangeSpec.witness6 (enc := enc) (C := Try.checked) false ⟨#[], #[.slice none 0 0, .slice none 0 0, .slice none 0 0], []⟩ 8 (by kernel_rfl) (by kernel_rfl) (by kernel_rfl) (by kernel_rfl)) ?_
  intro W base args ds gs before hval0 hW hcnd _
  have hval : ∀ (j : Nat) t v, Try.f7.params[j]? = some t → args[j]? = some v → Value.okWide Try.prog W .any base t v := hval0
  have hW' := hW
  obtain ⟨p, q, hA0, hV, rfl, hfz, hnd⟩ := hW
  have hA : DataW.TrodAll enc Try.prog W 0 (fun _ => true) true Try.f7.params.toList args.toList ds p := hA0
  have hA' := hA
  rw [Try.params7] at hA hval
  obtain ⟨v0, v1, v2, d0, d1, d2, p0, p1, p2, rfl, rfl, rfl, h0, h1, h2⟩ := trodAll_three hA
  obtain ⟨rfl, rfl⟩ := trodVars_none hV
  obtain ⟨l0, m0⟩ := open_monos (hval 0 _ v0 rfl rfl) h0
  obtain ⟨l1, m1⟩ := open_monos (hval 1 _ v1 rfl rfl) h1
  obtain ⟨l2, m2⟩ := open_monos (hval 2 _ v2 rfl rfl) h2
  refine (CheckpolyRing_any W.heap v0 v1 v2 l0 l1 l2 m0 m1 m2).row.mono fun e W' ⟨he, hb⟩ => ?_
  subst he
  refine ⟨_, rfl, [d0, d1, d2], [], _, [], p0 ++ p1 ++ p2, [], hW', ?_, ?_, rfl, hb.frame _, fun h => by cases h⟩
  · exact trodAll_mk1 (shut_bool Try.underlying4 _)
  · exact trodAll_below ringLaid hb (by kernel_rfl) (fun x hx => hW'.lt x (List.mem_append_left _ hx)) hA'

theorem ring_holds : Rows.CheckpolyRingSaid :=
  OpenClaim.holds_of_wide 7 Try.f7 rfl rfl rfl rfl rfl rfl rfl ⟨rfl, rfl, rfl, rfl, rfl⟩ rfl rfl rfl rfl rfl (by kernel_rfl) Try.func7 (by kernel_rfl)
    (of_decide_eq_true (by kernel_rfl)) (by unfold Func.isWrapper; first | (rw [if_pos (by decide +kernel)]; kernel_rfl) | (rw [if_neg (by decide +kernel)]; exact ⟨rfl, rfl⟩))
    (fun os started H enc _ => ringLifted os started H enc)
#print axioms ring_holds
end Go.Proofs.Ytjjcncedfphnhaa
