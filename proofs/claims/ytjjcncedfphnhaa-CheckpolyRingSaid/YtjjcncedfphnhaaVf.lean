/- A cut behind a region that draws. -/
import Derived.Test.YtjjcncedfphnhaaVd
namespace Go.Vc
open Go.Proofs

theorem DDraw.cut {E : Env} {n : Nat} {id : Nat} {ops : Array Oper} {N : Nx} {σ : St} {h : Heap} {ι : Type} (τ : ι → St) (R : ι → Heap → Prop)
    (h1 : DDraw E n id ops (fun σ' h' => ∃ i, SubL σ' (τ i) ∧ R i h') σ h) (h2 : ∀ i h', R i h' → N (τ i) h') : DDraw E n id ops N σ h := by
  refine DDraw.mk ?_
  have := h1.out
  intro a w hw hf
  refine wp_mono (this a w hw hf) fun e a' w' hq => ?_
  cases e with
  | normal =>
    obtain ⟨hs, σ', hf', i, hsub, hr⟩ := hq
    exact ⟨hs, τ i, hf'.sub hsub, h2 i _ hr⟩
  | exit i => exact hq
  | ret => exact hq
  | _ => exact hq.elim
end Go.Vc
