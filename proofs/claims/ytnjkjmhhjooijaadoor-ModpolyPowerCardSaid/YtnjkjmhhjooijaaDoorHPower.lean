/- law 9: powers -/
import Derived.Test.YtnjkjmhhjooijaaDoorLpw
import Derived.Test.YtnjkjmhhjooijaaDoorJb
namespace Go.Proofs.YtnjkjmhhjooijaaDoor
open Go.ChangeShapes Go.WideShapes Go.ChangeAt Go.RowKit Go.Vc

set_option maxRecDepth 100000 in
theorem modpolyPowerLifted (os : Os) (started : os.Started) (H : Type) (enc : TypeId × Value → H) :
    ReturnsInHanded {} Tryd.checked os 8 .any (fun w args => (Rows.modpolyPowerSpec.pre enc Tryd.prog Tryd.f8 [] false w args ∧ laidMetH Tryd.prog doorTab w) ∧ sizedMet enc Tryd.prog Tryd.f8 (OpenSpec.ofChange Rows.modpolyPowerSpec) false w args)
      (Rows.modpolyPowerSpec.post enc Tryd.prog Tryd.f8 false true false false) := by
  refine returnsInHanded_of_change_and (C := Tryd.checked) (X := fun w _ => laidMetH Tryd.prog doorTab w) (fun _ _ _ hh h => h.of_heap hh) doorOwn started (by kernel_rfl) Tryd.func8
    (ChangeSpec.witness_shaped (enc := enc) (C := Tryd.checked) (os := os) (X := fun w _ => laidMetH Tryd.prog doorTab w) false (World.doorLaid Tryd.prog 400 os) #[.slice none 0 0, .slice none 0 0, .agg #[.int .u16 0, .int .u16 0, .int .u16 0]] 8 rfl (World.shaped_of_RefB (by kernel_rfl) (by kernel_rfl)) (by kernel_rfl) (by kernel_rfl) (by kernel_rfl) (door_met os _)) ?_
  intro W base args ds gs before hval0 hW hcnd _ hL _
  have hval : ∀ (j : Nat) t v, Tryd.f8.params[j]? = some t → args[j]? = some v → Value.okWide Tryd.prog W .any base t v := hval0
  have hW' := hW
  obtain ⟨p, q, hA0, hV, rfl, hfz, hnd⟩ := hW
  have hA : DataW.TrodAll enc Tryd.prog W 0 (fun _ => true) true Tryd.f8.params.toList args.toList ds p := hA0
  have hA' := hA
  rw [Tryd.params8] at hA hval
  obtain ⟨v0, v1, v2, d0, d1, d2, p0, p1, p2, rfl, rfl, rfl, h0, h1, h2⟩ := trodAll_three hA
  obtain ⟨rfl, rfl⟩ := trodVars_none hV
  obtain ⟨f, m0, g0⟩ := open_u32s (hval 0 _ v0 rfl rfl) h0
  obtain ⟨g, m1, g1⟩ := open_u32s (hval 1 _ v1 rfl rfl) h1
  obtain ⟨i, j, n, rfl, b0, b1, b2⟩ := open_u16x3 (hval 2 _ v2 rfl rfl) h2
  refine (ModpolyPower_any W.heap (tab_ok hL) v0 v1 f g i j n m0 m1 g0 g1 b0 b1 b2).row.mono fun e W' ⟨he, hb⟩ => ?_
  subst he
  refine ⟨_, rfl, [d0, d1, d2], [], _, [], p0 ++ p1 ++ p2, [], hW', ?_, ?_, rfl, hb.frame _, fun h => by cases h⟩
  · exact trodAll_mk1 (shut_bool Tryd.underlying4 _)
  · exact trodAll_below doorLaidOut hb (by kernel_rfl) (fun x hx => hW'.lt x (List.mem_append_left _ hx)) hA'

theorem modpolyPower_row : Rows.ModpolyPowerSaid :=
  OpenClaim.holds_of_wide 8 Tryd.f8 rfl rfl rfl rfl rfl rfl rfl ⟨rfl, rfl, rfl, rfl, rfl⟩ rfl rfl rfl rfl rfl (by kernel_rfl) Tryd.func8 (by kernel_rfl)
    (of_decide_eq_true (by kernel_rfl)) (by unfold Func.isWrapper; first | (rw [if_pos (by decide +kernel)]; kernel_rfl) | (rw [if_neg (by decide +kernel)]; exact ⟨rfl, rfl⟩))
    (fun os started H enc _ => modpolyPowerLifted os started H enc)

theorem modpolyPower_holds : Rows.ModpolyPowerCardSaid :=
  Claim7.holds_tied_plain_at .later [] [.data] true (true, "0b232074fc956f087fab1c36d64805f1e890610a96ba93e3a831c03643b3ce27") false
    modpolyPower_row (fun _ h => by cases h) (by kernel_rfl) (fun _ h => by cases h) modpolyPower_row_tie rfl ⟨rfl, rfl⟩ (by kernel_rfl) rfl
    (fun f fn hf hfn => by
      obtain rfl : f = 8 := Option.some.inj ((show Tryd.prog.funcNamed "cylinder/cylinderlaw10.ModpolyPower" = some 8 by kernel_rfl).symm.trans hf) |>.symm
      obtain rfl : fn = Tryd.f8 := (Option.some.inj (Tryd.func8.symm.trans hfn)).symm
      exact ⟨by kernel_rfl, fun j t ht => by
        rw [Tryd.params8] at ht
        have hm : t ∈ [22, 22, 63] := by simpa using Array.mem_of_getElem? ht
        have hall : ([22, 22, 63].all fun u => !Tryd.prog.wantsStandIn u) = true := by kernel_rfl
        exact (show Tryd.prog.wantsStandIn t = false by simpa using List.all_eq_true.1 hall t hm)⟩)
    (by kernel_rfl)
#print axioms modpolyPower_holds
end Go.Proofs.YtnjkjmhhjooijaaDoor
