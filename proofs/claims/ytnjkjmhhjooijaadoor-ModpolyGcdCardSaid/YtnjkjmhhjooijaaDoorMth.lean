/- Plain facts on digits in base 2^32. -/
namespace Go.Vc

/-- the base -/
abbrev Bs : Nat := 4294967296

def dval : List Nat → Nat
  | [] => 0
  | d :: r => d + 4294967296 * dval r

def Dg (ds : List Nat) : Prop := ∀ d ∈ ds, d < 4294967296

def digs (n : Nat) : List Nat := if h : n = 0 then [] else (n % 4294967296) :: digs (n / 4294967296)
termination_by n
decreasing_by omega

theorem digs_zero : digs 0 = [] := by unfold digs; simp
theorem digs_pos {n : Nat} (h : n ≠ 0) : digs n = (n % 4294967296) :: digs (n / 4294967296) := by
  rw [digs]; simp [h]

theorem dval_digs (n : Nat) : dval (digs n) = n := by
  induction n using Nat.strongRecOn with
  | _ n ih =>
    by_cases h : n = 0
    · subst h; rw [digs_zero]; rfl
    · rw [digs_pos h]
      simp only [dval]
      rw [ih _ (by omega)]
      omega

theorem digs_dg (n : Nat) : Dg (digs n) := by
  induction n using Nat.strongRecOn with
  | _ n ih =>
    by_cases h : n = 0
    · subst h; rw [digs_zero]; intro d hd; cases hd
    · rw [digs_pos h]
      intro d hd
      rcases List.mem_cons.1 hd with rfl | hd
      · omega
      · exact ih _ (by omega) d hd

theorem dval_append (a b : List Nat) : dval (a ++ b) = dval a + 4294967296 ^ a.length * dval b := by
  induction a with
  | nil => simp [dval]
  | cons d r ih =>
    simp only [List.cons_append, dval, ih, List.length_cons, Nat.pow_succ]
    rw [Nat.mul_add, ← Nat.mul_assoc, Nat.mul_comm (4294967296 ^ r.length) 4294967296]
    omega

theorem dval_zeros (n : Nat) : dval (List.replicate n 0) = 0 := by
  induction n with
  | zero => rfl
  | succ n ih => simp [List.replicate_succ, dval, ih]

theorem dval_lt {ds : List Nat} (h : Dg ds) : dval ds < 4294967296 ^ ds.length := by
  induction ds with
  | nil => simp [dval]
  | cons d r ih =>
    have h1 : d < 4294967296 := h d (by simp)
    have h2 := ih (fun x hx => h x (by simp [hx]))
    simp only [dval, List.length_cons, Nat.pow_succ]
    have : dval r + 1 ≤ 4294967296 ^ r.length := h2
    have := Nat.mul_le_mul_right 4294967296 this
    omega

/-- how many digits are left when the leading zeros are gone -/
def tlen (ds : List Nat) : Nat → Nat
  | 0 => 0
  | n + 1 => if ds.getD n 0 = 0 then tlen ds n else n + 1

theorem tlen_le (ds : List Nat) (n : Nat) : tlen ds n ≤ n := by
  induction n with
  | zero => exact Nat.le_refl _
  | succ n ih => unfold tlen; split <;> omega

theorem digs_unique {ds : List Nat} (h : Dg ds) (hl : ∀ (hne : ds ≠ []), ds.getLast hne ≠ 0) : digs (dval ds) = ds := by
  induction ds with
  | nil => exact digs_zero
  | cons d r ih =>
    have h1 : d < 4294967296 := h d (by simp)
    have hr : Dg r := fun x hx => h x (by simp [hx])
    have hne : dval (d :: r) ≠ 0 := by
      simp only [dval]
      by_cases e : r = []
      · subst e
        have := hl (by simp)
        simp at this
        simp [dval]; exact this
      · have hr' := ih hr (fun hne => by have := hl (by simp); rwa [List.getLast_cons hne] at this)
        intro h0
        have : dval r = 0 := by omega
        rw [this, digs_zero] at hr'
        exact e hr'.symm
    rw [digs_pos hne]
    simp only [dval]
    have e1 : (d + 4294967296 * dval r) % 4294967296 = d := by omega
    have e2 : (d + 4294967296 * dval r) / 4294967296 = dval r := by omega
    rw [e1, e2]
    by_cases e : r = []
    · subst e; simp [dval, digs_zero]
    · rw [ih hr (fun hne => by have := hl (by simp); rwa [List.getLast_cons hne] at this)]

theorem dval_take_tlen (ds : List Nat) (n : Nat) (hn : n ≤ ds.length) : dval (ds.take (tlen ds n)) = dval (ds.take n) := by
  induction n with
  | zero => rfl
  | succ n ih =>
    unfold tlen
    split
    · rename_i h
      rw [ih (by omega)]
      have hlt : n < ds.length := by omega
      rw [List.take_succ_eq_append_getElem hlt, dval_append]
      have : ds[n] = 0 := by simpa [List.getD, hlt] using h
      simp [this, dval]
    · rfl

theorem take_tlen (ds : List Nat) (h : Dg ds) : ds.take (tlen ds ds.length) = digs (dval ds) := by
  have h1 : dval (ds.take (tlen ds ds.length)) = dval ds := by rw [dval_take_tlen ds ds.length (Nat.le_refl _), List.take_length]
  rw [← h1]
  refine (digs_unique (fun d hd => h d (List.mem_of_mem_take hd)) ?_).symm
  intro hne
  have key : ∀ n, n ≤ ds.length → ∀ (hne : ds.take (tlen ds n) ≠ []), (ds.take (tlen ds n)).getLast hne ≠ 0 := by
    intro n
    induction n with
    | zero => intro _ hne; simp [tlen] at hne
    | succ n ih =>
      intro hn
      unfold tlen
      split
      · exact ih (by omega)
      · rename_i h0
        intro hne
        have hlt : n < ds.length := by omega
        have : (ds.take (n + 1)).getLast hne = ds[n] := by
          rw [List.getLast_eq_getElem]
          simp [Nat.min_eq_left hn]
        rw [this]
        simpa [List.getD, hlt] using h0
  exact key _ (Nat.le_refl _) hne

theorem tlen_eq {ds : List Nat} (h : Dg ds) : tlen ds ds.length = (digs (dval ds)).length := by
  rw [← take_tlen ds h, List.length_take]
  exact (Nat.min_eq_left (tlen_le _ _)).symm

theorem digs_len_le {n k : Nat} (h : n < 4294967296 ^ k) : (digs n).length ≤ k := by
  induction k generalizing n with
  | zero => have : n = 0 := by simpa using h
            subst this; simp [digs_zero]
  | succ k ih =>
    by_cases h0 : n = 0
    · subst h0; simp [digs_zero]
    · rw [digs_pos h0]
      have : n / 4294967296 < 4294967296 ^ k := by
        rw [Nat.div_lt_iff_lt_mul (by omega)]
        simpa [Nat.pow_succ] using h
      have := ih this
      simp; exact this

theorem digs_nil {n : Nat} : digs n = [] ↔ n = 0 := by
  constructor
  · intro h
    have := dval_digs n
    rw [h] at this
    simpa [dval] using this.symm
  · rintro rfl; exact digs_zero

theorem dval_take_succ {ds : List Nat} {i : Nat} (h : i < ds.length) : dval (ds.take (i + 1)) = dval (ds.take i) + 4294967296 ^ i * ds[i] := by
  rw [List.take_succ_eq_append_getElem h, dval_append]
  simp [dval, Nat.min_eq_left (Nat.le_of_lt h)]

theorem Dg.set {ds : List Nat} (h : Dg ds) {i v : Nat} (hv : v < 4294967296) : Dg (ds.set i v) := by
  intro d hd
  rcases List.mem_or_eq_of_mem_set hd with h' | h'
  · exact h d h'
  · subst h'; exact hv

theorem Dg.get {ds : List Nat} (h : Dg ds) {i : Nat} (hi : i < ds.length) : ds[i] < 4294967296 := h _ (List.getElem_mem hi)
theorem Dg.take {ds : List Nat} (h : Dg ds) (i : Nat) : Dg (ds.take i) := fun d hd => h d (List.mem_of_mem_take hd)
theorem Dg.drop {ds : List Nat} (h : Dg ds) (i : Nat) : Dg (ds.drop i) := fun d hd => h d (List.mem_of_mem_drop hd)
theorem Dg.zeros (n : Nat) : Dg (List.replicate n 0) := fun d hd => by rw [List.mem_replicate] at hd; omega
theorem Dg.append {a b : List Nat} (h : Dg a) (k : Dg b) : Dg (a ++ b) := fun d hd => by
  rcases List.mem_append.1 hd with h' | h'
  · exact h d h'
  · exact k d h'

theorem take_set_succ {α : Type} {ds : List α} {i : Nat} {v : α} (h : i < ds.length) : (ds.set i v).take (i + 1) = ds.take i ++ [v] := by
  rw [List.take_succ_eq_append_getElem (by simpa using h), List.take_set, List.set_eq_of_length_le (by simp; omega)]
  simp

theorem digs_len_lt {a b : Nat} (h : (digs a).length < (digs b).length) : a < b := by
  rcases Nat.lt_or_ge a b with h' | h'
  · exact h'
  · exfalso
    have h1 : a < 4294967296 ^ (digs a).length := by
      have := dval_lt (digs_dg a)
      rwa [dval_digs] at this
    have := digs_len_le (Nat.lt_of_le_of_lt h' h1)
    omega

theorem dval_lt_at {A B : List Nat} (hA : Dg A) {i : Nat} (hiA : i < A.length) (hiB : i < B.length) (hd : A.drop (i + 1) = B.drop (i + 1)) (hlt : A[i] < B[i]) : dval A < dval B := by
  have eA : A = A.take i ++ (A[i] :: A.drop (i + 1)) := by rw [← List.drop_eq_getElem_cons hiA, List.take_append_drop]
  have eB : B = B.take i ++ (B[i] :: B.drop (i + 1)) := by rw [← List.drop_eq_getElem_cons hiB, List.take_append_drop]
  have vA : dval A = dval (A.take i) + 4294967296 ^ i * (A[i] + 4294967296 * dval (A.drop (i + 1))) := by
    conv => lhs; rw [eA]
    rw [dval_append, List.length_take, Nat.min_eq_left (Nat.le_of_lt hiA)]; rfl
  have vB : dval B = dval (B.take i) + 4294967296 ^ i * (B[i] + 4294967296 * dval (B.drop (i + 1))) := by
    conv => lhs; rw [eB]
    rw [dval_append, List.length_take, Nat.min_eq_left (Nat.le_of_lt hiB)]; rfl
  rw [vA, vB, hd]
  have h1 := dval_lt (hA.take i)
  rw [List.length_take, Nat.min_eq_left (Nat.le_of_lt hiA)] at h1
  have h2 : 4294967296 ^ i * (A[i] + 1 + 4294967296 * dval (B.drop (i + 1))) ≤ 4294967296 ^ i * (B[i] + 4294967296 * dval (B.drop (i + 1))) := Nat.mul_le_mul_left _ (by omega)
  rw [show A[i] + 1 + 4294967296 * dval (B.drop (i + 1)) = (A[i] + 4294967296 * dval (B.drop (i + 1))) + 1 by omega, Nat.mul_add _ _ 1, Nat.mul_one] at h2
  omega

/-- -1, 0 or 1 -/
def cmpN (a b : Nat) : Int := if a < b then -1 else if b < a then 1 else 0
def cmpI (a b : Int) : Int := if a < b then -1 else if b < a then 1 else 0

end Go.Vc
