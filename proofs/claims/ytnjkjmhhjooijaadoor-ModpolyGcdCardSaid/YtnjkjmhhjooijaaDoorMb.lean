/- modpoly: Normal, and the coefficients of the document. -/
import Derived.Test.YtnjkjmhhjooijaaDoorMa
namespace Go.Vc
open Go.Proofs

theorem co_set {Z : List Nat} {i v : Nat} (hi : i < Z.length) (j : Nat) : co (Z.set i v) j = if j = i then v else co Z j := by
  unfold co
  rw [List.getD_eq_getElem?_getD, List.getElem?_set]
  by_cases h : j = i
  · subst h; rw [if_pos rfl, if_pos rfl, if_pos hi]; rfl
  · rw [if_neg (fun e => h e.symm), if_neg h, ← List.getD_eq_getElem?_getD]
theorem co_zeros (n j : Nat) : co (List.replicate n 0) j = 0 := by
  by_cases h : j < n
  · rw [co_lt (by simpa using h)]; simp
  · exact co_ge (by simpa using h)
/-- the first i coefficients are laid -/
structure Laid (M n : Nat) (c : Nat → Nat) (i : Nat) (Z : List Nat) : Prop where
  len : Z.length = n
  co : ∀ j, co Z j = if j < i then c j % M else 0
theorem Laid.start {M n : Nat} {c : Nat → Nat} : Laid M n c 0 (List.replicate n 0) := ⟨by simp, fun j => by rw [co_zeros, if_neg (Nat.not_lt_zero _)]⟩
theorem Laid.next {M n i v : Nat} {c : Nat → Nat} {Z : List Nat} (l : Laid M n c i Z) (hi : i < n) (hv : v = c i % M) : Laid M n c (i + 1) (Z.set i v) := by
  refine ⟨by rw [List.length_set]; exact l.len, fun j => ?_⟩
  rw [co_set (by rw [l.len]; exact hi), l.co]
  by_cases h : j = i
  · subst h; rw [if_pos rfl, if_pos (by omega), hv]
  · rw [if_neg h]
    by_cases h2 : j < i
    · rw [if_pos h2, if_pos (by omega)]
    · rw [if_neg h2, if_neg (by omega)]
theorem Laid.done {M n : Nat} {c : Nat → Nat} {Z : List Nat} (l : Laid M n c n Z) : trimL Z = cnf M n c := cnf_eq (trimL_trimmed _) fun i => by rw [co_trimL, l.co]

theorem tmod_nat (a b : Nat) : Int.tmod (a : Int) (b : Int) = ((a % b : Nat) : Int) := by rw [Int.tmod_eq_emod_of_nonneg (by omega), ← Int.natCast_emod]
theorem Dg.co {f : List Nat} (h : Dg f) (i : Nat) : co f i < 4294967296 := by
  by_cases hi : i < f.length
  · rw [co_lt hi]; exact h _ (List.getElem_mem _)
  · rw [co_ge (by omega)]; decide

theorem modNormal_any (h : Heap) (v : Value) (f : List Nat) (m : Nat) (hf : Nums .u32 h v f) (hd : Dg f) (hm : m < 4294967296) (hlen : f.length < 100000000) :
    Spec E.P f_modpoly_Normal #[v, vnum .u32 m] h (fun v' h' => Ext h h' ∧ Nums .u32 h' v' (cnf (mx m) f.length (co f))) := by
  have hf0 := hf
  obtain ⟨a, cap, rfl, hcap, -⟩ := hf
  refine Spec.intro hE (args := [_, _]) F_modpoly_Normal rfl rfl (Nat.le_of_ble_eq_true rfl) ?_
  have h1 := mx_lt hm
  have h2 := mx_pos m
  refine DMake.intro f.length f.length rfl rfl (Nat.le_refl _) (by omega) (by omega) ?_
  intro zb h1 hzb hx1 hs1 hg1
  refine DLoop.intro hE (ι := Nat × List Nat) (fun s => [(16, .int .i64 s.1), (14, .slice a f.length cap), (15, .int .i64 f.length), (6, .slice (some ⟨zb, 0, none⟩) f.length f.length), (5, vnum .u32 (mx m))])
    (fun s h' => Ext h h' ∧ s.1 ≤ f.length ∧ NumB h' zb .u32 t_uint32 s.2 ∧ Laid (mx m) f.length (co f) s.1 s.2) (fun s => f.length - s.1) (0, List.replicate f.length 0) rfl ⟨rfl, rfl, rfl, rfl, by rw [max_u32]; rfl, trivial⟩ ⟨hx1, Nat.zero_le _, NumB.zeros hg1, Laid.start⟩ ?_
  rintro ⟨i, Z⟩ h3 ⟨hx3, hi, hZ, hL⟩
  dsimp only at hi hZ hL ⊢
  refine bsp.dec (fun hlt => ?_) (fun hlt => ?_)
  · have hif : i < f.length := by omega
    obtain ⟨b, off, rfl, hcell⟩ := hf0.at hif
    refine DIdx.intro i rfl rfl hif ?_
    refine DLoad.scalar (hx3.cell hcell) ?_
    refine ⟨by omega, ?_⟩
    rw [tmod_nat]
    refine DIdx.intro i rfl rfl hif ?_
    refine DStore.num i (Nat.zero_add _) hZ (by rw [hL.len]; exact hif) ?_
    intro h4 hu4 hZ4
    refine DWrap.is ((i + 1 : Nat) : Int) (by omega) (by omega) ?_
    refine ⟨(i + 1, _), ⟨rfl, rfl, rfl, rfl, rfl, trivial⟩, ⟨((hx3.old (Nat.le_refl _)).upd hu4 (by omega)).toExt, by dsimp only; omega, hZ4, hL.next hif rfl⟩, by dsimp only; omega⟩
  · obtain rfl : i = f.length := by omega
    have hn := hZ.nums
    rw [hL.len] at hn
    refine (modtrim_any h3 _ Z hn (by rw [hL.len]; omega)).mono ?_
    rintro v4 h4 ⟨rfl, hv4⟩
    rw [hL.done] at hv4
    exact ⟨hx3, hv4⟩
end Go.Vc
