/- Coefficient lists: plain facts. -/
import Derived.Test.YtnjkjmhhjooijaaDoorMth
namespace Go.Vc

/-- coefficient i -/
def co (f : List Nat) (i : Nat) : Nat := f.getD i 0
def trimL (Z : List Nat) : List Nat := Z.take (tlen Z Z.length)
theorem co_lt {f : List Nat} {i : Nat} (h : i < f.length) : co f i = f[i] := by rw [co, List.getD_eq_getElem?_getD, List.getElem?_eq_getElem h]; rfl
theorem co_ge {f : List Nat} {i : Nat} (h : f.length ≤ i) : co f i = 0 := by rw [co, List.getD_eq_getElem?_getD, List.getElem?_eq_none h]; rfl
theorem tlen_above (Z : List Nat) : ∀ n i, tlen Z n ≤ i → i < n → co Z i = 0
  | 0, _, _, h => absurd h (Nat.not_lt_zero _)
  | n + 1, i, h1, h2 => by
    unfold tlen at h1
    split at h1
    · rename_i h
      by_cases e : i = n
      · subst e; exact h
      · exact tlen_above Z n i h1 (by omega)
    · omega
theorem tlen_last (Z : List Nat) : ∀ n, tlen Z n ≠ 0 → co Z (tlen Z n - 1) ≠ 0
  | 0, h => absurd rfl h
  | n + 1, h => by
    unfold tlen at h ⊢
    split
    · rename_i h0
      rw [if_pos h0] at h
      exact tlen_last Z n h
    · rename_i h0
      rw [Nat.add_sub_cancel]; exact h0
theorem trimL_len (Z : List Nat) : (trimL Z).length = tlen Z Z.length := by
  unfold trimL; rw [List.length_take]; have := tlen_le Z Z.length; omega
theorem co_trimL (Z : List Nat) (i : Nat) : co (trimL Z) i = co Z i := by
  by_cases h : i < tlen Z Z.length
  · rw [co_lt (by rw [trimL_len]; exact h)]
    have := tlen_le Z Z.length
    rw [co_lt (f := Z) (by omega)]
    simp [trimL]
  · rw [co_ge (by rw [trimL_len]; omega)]
    by_cases h2 : i < Z.length
    · exact (tlen_above Z _ i (by omega) h2).symm
    · exact (co_ge (by omega)).symm
/-- no leading zero -/
def Trimmed (f : List Nat) : Prop := f.length ≠ 0 → co f (f.length - 1) ≠ 0
theorem trimL_trimmed (Z : List Nat) : Trimmed (trimL Z) := fun h => by
  rw [trimL_len] at h ⊢
  rw [co_trimL]; exact tlen_last Z _ h
theorem co_ext {f g : List Nat} (hl : f.length = g.length) (h : ∀ i, co f i = co g i) : f = g :=
  List.ext_getElem hl fun i h1 h2 => by rw [← co_lt h1, ← co_lt h2]; exact h i
theorem trimmed_unique {f g : List Nat} (hf : Trimmed f) (hg : Trimmed g) (h : ∀ i, co f i = co g i) : f = g := by
  refine co_ext ?_ h
  rcases Nat.lt_trichotomy f.length g.length with hl | hl | hl
  · exact absurd (by rw [← h]; exact co_ge (by omega)) (hg (by omega))
  · exact hl
  · exact absurd (by rw [h]; exact co_ge (by omega)) (hf (by omega))

/-- the canonical list with these coefficients modulo M -/
def cnf (M n : Nat) (c : Nat → Nat) : List Nat := trimL ((List.range n).map fun i => c i % M)
theorem co_cnf (M n : Nat) (c : Nat → Nat) (i : Nat) : co (cnf M n c) i = if i < n then c i % M else 0 := by
  unfold cnf
  rw [co_trimL]
  split
  · rename_i h; rw [co_lt (by simpa using h)]; simp
  · rename_i h; rw [co_ge (by simpa using h)]
theorem cnf_trimmed (M n : Nat) (c : Nat → Nat) : Trimmed (cnf M n c) := trimL_trimmed _
theorem cnf_len (M n : Nat) (c : Nat → Nat) : (cnf M n c).length ≤ n := by
  unfold cnf; rw [trimL_len]; have := tlen_le ((List.range n).map fun i => c i % M) ((List.range n).map fun i => c i % M).length; simpa using this
theorem cnf_eq {M n : Nat} {c : Nat → Nat} {f : List Nat} (hf : Trimmed f) (h : ∀ i, co f i = if i < n then c i % M else 0) : f = cnf M n c :=
  trimmed_unique hf (cnf_trimmed _ _ _) fun i => by rw [h, co_cnf]
theorem cnf_congr {M n n' : Nat} {c c' : Nat → Nat} (h : ∀ i, (if i < n then c i % M else 0) = if i < n' then c' i % M else 0) : cnf M n c = cnf M n' c' :=
  cnf_eq (cnf_trimmed _ _ _) fun i => by rw [co_cnf, h]
theorem cnf_lt {M n : Nat} (hM : 0 < M) {c : Nat → Nat} : ∀ d ∈ cnf M n c, d < M := fun d hd => by
  have : d ∈ (List.range n).map fun i => c i % M := List.mem_of_mem_take hd
  obtain ⟨i, -, rfl⟩ := List.mem_map.1 this
  exact Nat.mod_lt _ hM

/-- canonical modulo M -/
structure Can (M : Nat) (f : List Nat) : Prop where
  lt : ∀ d ∈ f, d < M
  tr : Trimmed f
theorem cnf_can {M n : Nat} (hM : 0 < M) {c : Nat → Nat} : Can M (cnf M n c) := ⟨cnf_lt hM, cnf_trimmed _ _ _⟩
theorem Can.co_lt {M : Nat} {f : List Nat} (h : Can M f) (hM : 0 < M) (i : Nat) : co f i < M := by
  by_cases hi : i < f.length
  · rw [Vc.co_lt hi]; exact h.lt _ (List.getElem_mem _)
  · rw [co_ge (by omega)]; exact hM
theorem Can.mod {M : Nat} {f : List Nat} (h : Can M f) (hM : 0 < M) (i : Nat) : co f i % M = co f i := Nat.mod_eq_of_lt (h.co_lt hM i)
theorem Can.self {M : Nat} {f : List Nat} (h : Can M f) (hM : 0 < M) : cnf M f.length (co f) = f := (cnf_eq h.tr fun i => by
  split
  · exact (h.mod hM i).symm
  · rename_i hi; exact co_ge (by omega)).symm
theorem Can.nil (M : Nat) : Can M [] := ⟨fun _ h => (List.not_mem_nil h).elim, fun h => absurd rfl h⟩
theorem Can.ext {M : Nat} {f g : List Nat} (hf : Can M f) (hg : Can M g) (h : ∀ i, co f i = co g i) : f = g := trimmed_unique hf.tr hg.tr h
theorem Can.lead {M : Nat} {f : List Nat} (h : Can M f) (hn : f.length ≠ 0) : co f (f.length - 1) ≠ 0 := h.tr hn
theorem Can.dg {M : Nat} {f : List Nat} (h : Can M f) (hM : M ≤ 4294967296) : Dg f := fun d hd => Nat.lt_of_lt_of_le (h.lt d hd) hM

/-! ### sums -/
def sumN (n : Nat) (c : Nat → Nat) : Nat := match n with | 0 => 0 | n + 1 => sumN n c + c n
theorem sumN_congr {n : Nat} {c d : Nat → Nat} (h : ∀ i, i < n → c i = d i) : sumN n c = sumN n d := by
  induction n with
  | zero => rfl
  | succ n ih => simp only [sumN, ih fun i hi => h i (by omega), h n (by omega)]
theorem sumN_zero {n : Nat} {c : Nat → Nat} (h : ∀ i, i < n → c i = 0) : sumN n c = 0 := by
  induction n with
  | zero => rfl
  | succ n ih => simp only [sumN, ih fun i hi => h i (by omega), h n (by omega)]
theorem sumN_mod {M n : Nat} {c d : Nat → Nat} (h : ∀ i, i < n → c i % M = d i % M) : sumN n c % M = sumN n d % M := by
  induction n with
  | zero => rfl
  | succ n ih => simp only [sumN]; rw [Nat.add_mod, ih fun i hi => h i (by omega), h n (by omega), ← Nat.add_mod]
theorem sumN_more {n m : Nat} {c : Nat → Nat} (hnm : n ≤ m) (h : ∀ i, n ≤ i → c i = 0) : sumN m c = sumN n c := by
  induction m with
  | zero => rw [show n = 0 by omega]
  | succ m ih =>
    by_cases e : n = m + 1
    · rw [e]
    · simp only [sumN, ih (by omega), h m (by omega), Nat.add_zero]
/-- the coefficient n of a product -/
def conv (f g : List Nat) (n : Nat) : Nat := sumN (n + 1) fun i => co f i * co g (n - i)
theorem conv_mod {M : Nat} {f f' g g' : List Nat} (hf : ∀ i, co f i % M = co f' i % M) (hg : ∀ i, co g i % M = co g' i % M) (n : Nat) : conv f g n % M = conv f' g' n % M :=
  sumN_mod fun i _ => by rw [Nat.mul_mod, hf, hg, ← Nat.mul_mod]
theorem conv_ge {f g : List Nat} {n : Nat} (h : f.length + g.length ≤ n + 1) : conv f g n = 0 := sumN_zero fun i hi => by
  by_cases h1 : i < f.length
  · rw [co_ge (f := g) (by omega), Nat.mul_zero]
  · rw [co_ge (f := f) (by omega), Nat.zero_mul]
/-- the product of what f and g are modulo M -/
def mulM (M : Nat) (f g : List Nat) : List Nat := cnf M (f.length + g.length) (conv f g)
end Go.Vc
