/- law 12: greatest common divisors -/
import Derived.Test.YtnjkjmhhjooijaaDoorLgc
import Derived.Test.YtnjkjmhhjooijaaDoorJc
import Derived.Test.YtnjkjmhhjooijaaDoorJb
namespace Go.Proofs.YtnjkjmhhjooijaaDoor
open Go.ChangeShapes Go.WideShapes Go.ChangeAt Go.RowKit Go.Vc

set_option maxRecDepth 100000 in
theorem modpolyGcdLifted (os : Os) (started : os.Started) (H : Type) (enc : TypeId × Value → H) :
    ReturnsInHanded {} Tryd.checked os 11 .any (fun w args => (Rows.modpolyGcdSpec.pre enc Tryd.prog Tryd.f11 [] false w args ∧ laidMetH Tryd.prog doorTab w) ∧ sizedMet enc Tryd.prog Tryd.f11 (OpenSpec.ofChange Rows.modpolyGcdSpec) false w args)
      (Rows.modpolyGcdSpec.post enc Tryd.prog Tryd.f11 false true false false) := by
  refine returnsInHanded_of_change_and (C := Tryd.checked) (X := fun w _ => laidMetH Tryd.prog doorTab w) (fun _ _ _ hh h => h.of_heap hh) doorOwn started (by kernel_rfl) Tryd.func11
    (ChangeSpec.witness_shaped (enc := enc) (C := Tryd.checked) (os := os) (X := fun w _ => laidMetH Tryd.prog doorTab w) false (World.doorLaid Tryd.prog 400 os) #[.agg #[.slice none 0 0, .slice none 0 0, .slice none 0 0], .int .u8 0] 8 rfl (World.shaped_of_RefB (by kernel_rfl) (by kernel_rfl)) (by kernel_rfl) (by kernel_rfl) (by kernel_rfl) (door_met os _)) ?_
  intro W base args ds gs before hval0 hW hcnd _ hL _
  have hval : ∀ (j : Nat) t v, Tryd.f11.params[j]? = some t → args[j]? = some v → Value.okWide Tryd.prog W .any base t v := hval0
  have hW' := hW
  obtain ⟨p, q, hA0, hV, rfl, hfz, hnd⟩ := hW
  have hA : DataW.TrodAll enc Tryd.prog W 0 (fun _ => true) true Tryd.f11.params.toList args.toList ds p := hA0
  have hA' := hA
  rw [Tryd.params11] at hA hval
  obtain ⟨v0, v1, d0, d1, p0, p1, rfl, rfl, rfl, h0, h1⟩ := trodAll_two hA
  obtain ⟨rfl, rfl⟩ := trodVars_none hV
  obtain ⟨x, y, z, f, g, k, rfl, ⟨m0, g0⟩, ⟨m1, g1⟩, ⟨m2, g2⟩⟩ := open_u32s3 (hval 0 _ v0 rfl rfl) h0
  obtain ⟨n, rfl, b0⟩ := open_u8 (hval 1 _ v1 rfl rfl) h1
  refine (ModpolyGcd_any W.heap (tab_ok hL) x y z f g k n m0 m1 m2 g0 g1 g2 b0).row.mono fun e W' ⟨he, hb⟩ => ?_
  subst he
  refine ⟨_, rfl, [d0, d1], [], _, [], p0 ++ p1, [], hW', ?_, ?_, rfl, hb.frame _, fun h => by cases h⟩
  · exact trodAll_mk1 (shut_bool Tryd.underlying4 _)
  · exact trodAll_below doorLaidOut hb (by kernel_rfl) (fun x hx => hW'.lt x (List.mem_append_left _ hx)) hA'

theorem modpolyGcd_row : Rows.ModpolyGcdSaid :=
  OpenClaim.holds_of_wide 11 Tryd.f11 rfl rfl rfl rfl rfl rfl rfl ⟨rfl, rfl, rfl, rfl, rfl⟩ rfl rfl rfl rfl rfl (by kernel_rfl) Tryd.func11 (by kernel_rfl)
    (of_decide_eq_true (by kernel_rfl)) (by unfold Func.isWrapper; first | (rw [if_pos (by decide +kernel)]; kernel_rfl) | (rw [if_neg (by decide +kernel)]; exact ⟨rfl, rfl⟩))
    (fun os started H enc _ => modpolyGcdLifted os started H enc)

theorem modpolyGcd_holds : Rows.ModpolyGcdCardSaid :=
  Claim7.holds_tied_plain_at .later [] [.data] true (true, "0b232074fc956f087fab1c36d64805f1e890610a96ba93e3a831c03643b3ce27") false
    modpolyGcd_row (fun _ h => by cases h) (by kernel_rfl) (fun _ h => by cases h) modpolyGcd_row_tie rfl ⟨rfl, rfl⟩ (by kernel_rfl) rfl
    (fun f fn hf hfn => by
      obtain rfl : f = 11 := Option.some.inj ((show Tryd.prog.funcNamed "cylinder/cylinderlaw10.ModpolyGcd" = some 11 by kernel_rfl).symm.trans hf) |>.symm
      obtain rfl : fn = Tryd.f11 := (Option.some.inj (Tryd.func11.symm.trans hfn)).symm
      exact ⟨by kernel_rfl, fun j t ht => by
        rw [Tryd.params11] at ht
        have hm : t ∈ [69, 5] := by simpa using Array.mem_of_getElem? ht
        have hall : ([69, 5].all fun u => !Tryd.prog.wantsStandIn u) = true := by kernel_rfl
        exact (show Tryd.prog.wantsStandIn t = false by simpa using List.all_eq_true.1 hall t hm)⟩)
    (by kernel_rfl)
#print axioms modpolyGcd_holds
end Go.Proofs.YtnjkjmhhjooijaaDoor
