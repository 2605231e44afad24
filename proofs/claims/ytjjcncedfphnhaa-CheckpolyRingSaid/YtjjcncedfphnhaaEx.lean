/- checkpoly.exact: the walk. -/
import Derived.Test.YtjjcncedfphnhaaCon
namespace Go.Vc
open Go.Proofs

/-- what exact answers -/
def ExactP (f g q : Pol) (ok : Bool) (H : Nat) : Prop :=
  (ok = true → g ≠ [] ∧ QuoOf f g q ∧ ExpB q H ∧ norm1 q ≤ norm1 f * (1 + norm1 g) ^ ((H + 1) * ((H + 1) * ((H + 1) * (H + 1))) + 1)) ∧ (ok = false → q = [] ∧ (g ≠ [] → ∀ w, ¬ QuoOf f g w))

theorem spliceI {x : List Int} {k : Nat} {v : Int} (hk : k < x.length) : splice (intV x) k [.int .i64 v] = intV (x.set k v) := by
  unfold splice intV
  rw [List.set_eq_take_append_cons_drop, if_pos hk]
  simp

theorem exists_lo : ∀ (n : Nat) (w : Pol), w.length = n + 1 → L4 w → ∃ lo, IsLo w lo
  | 0, w, hn, h4 => by
    match w, hn with
    | [t], _ => exact ⟨_, IsLo.one (h4 t (by simp))⟩
  | n + 1, w, hn, h4 => by
    have hl : n + 1 < w.length := by omega
    have hd : w.take (n + 1) ++ [w[n + 1]] = w := by
      rw [← List.take_succ_eq_append_getElem hl]; exact List.take_of_length_le (by omega)
    obtain ⟨lo, hlo⟩ := exists_lo n (w.take (n + 1)) (by rw [List.length_take]; omega) (fun t ht => h4 t (List.mem_of_mem_take ht))
    have := hlo.snoc (t := w[n + 1]) (h4 _ (List.getElem_mem hl))
    rw [hd] at this
    exact ⟨_, this⟩
theorem exists_hi : ∀ (n : Nat) (w : Pol), w.length = n + 1 → L4 w → ∃ lo, IsHi w lo
  | 0, w, hn, h4 => by
    match w, hn with
    | [t], _ => exact ⟨_, IsHi.one (h4 t (by simp))⟩
  | n + 1, w, hn, h4 => by
    have hl : n + 1 < w.length := by omega
    have hd : w.take (n + 1) ++ [w[n + 1]] = w := by
      rw [← List.take_succ_eq_append_getElem hl]; exact List.take_of_length_le (by omega)
    obtain ⟨lo, hlo⟩ := exists_hi n (w.take (n + 1)) (by rw [List.length_take]; omega) (fun t ht => h4 t (List.mem_of_mem_take ht))
    have := hlo.snoc (t := w[n + 1]) (h4 _ (List.getElem_mem hl))
    rw [hd] at this
    exact ⟨_, this⟩
theorem IsLo.le {f : Pol} {lo : List Nat} {B : Nat} (h : IsLo f lo) (hL : L4 f) (hB : ExpB f B) {k : Nat} (hk : k < 4) : lo.getD k 0 ≤ B := by
  obtain ⟨-, t, ht, he⟩ := h.2 k hk
  rw [← he]
  have h4 := hL t ht
  rw [List.getD_eq_getElem?_getD, List.getElem?_eq_getElem (by omega)]
  exact hB t ht _ (List.getElem_mem _)
theorem IsHi.le {f : Pol} {lo : List Nat} {B : Nat} (h : IsHi f lo) (hL : L4 f) (hB : ExpB f B) {k : Nat} (hk : k < 4) : lo.getD k 0 ≤ B := by
  obtain ⟨-, t, ht, he⟩ := h.2 k hk
  rw [← he]
  have h4 := hL t ht
  rw [List.getD_eq_getElem?_getD, List.getElem?_eq_getElem (by omega)]
  exact hB t ht _ (List.getElem_mem _)

/-- the ranges of a quotient -/
theorem quo_ranges {f g w : Pol} (hf : Canon f) (hg : Canon g) (hfn : f ≠ []) (h : QuoOf f g w) {fl fh gl gh : List Nat} (h1 : IsLo f fl) (h2 : IsHi f fh) (h3 : IsLo g gl) (h4 : IsHi g gh) :
    w ≠ [] ∧ ∀ k, k < 4 → gl.getD k 0 ≤ fl.getD k 0 ∧ (fl.getD k 0 : Int) - gl.getD k 0 ≤ (fh.getD k 0 : Int) - gh.getD k 0 ∧ ∀ t ∈ w, (fl.getD k 0 : Int) - gl.getD k 0 ≤ t.2.getD k 0 ∧ (t.2.getD k 0 : Int) ≤ (fh.getD k 0 : Int) - gh.getD k 0 := by
  have hwn : w ≠ [] := by
    rintro rfl
    match f, hf, hfn with
    | u :: f', hf, _ =>
      have := h.2 u.2
      rw [hf.cf_head] at this
      exact hf.nz u (by simp) this
  refine ⟨hwn, fun k hk => ?_⟩
  have hl : w.length = (w.length - 1) + 1 := by have := List.length_pos_iff.2 hwn; omega
  obtain ⟨wl, hwl⟩ := exists_lo _ w hl h.1.l4
  obtain ⟨wh, hwh⟩ := exists_hi _ w hl h.1.l4
  have e1 := prod_lo hf h.1 hg h.2 h1 hwl h3 hk
  have e2 := prod_hi hf h.1 hg h.2 h2 hwh h4 hk
  obtain ⟨b1, t0, ht0, -⟩ := hwl.2 k hk
  obtain ⟨b2, -⟩ := hwh.2 k hk
  have := b1 t0 ht0
  have := b2 t0 ht0
  refine ⟨by omega, by omega, fun t ht => ?_⟩
  have := b1 t ht
  have := b2 t ht
  omega
end Go.Vc
