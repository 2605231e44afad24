/- What division with remainder means. -/
import Derived.Test.YtnjkjmhhjooijaaDoorMq
namespace Go.Vc

theorem sumN_add (n : Nat) (c d : Nat → Nat) : sumN n (fun i => c i + d i) = sumN n c + sumN n d := by
  induction n with
  | zero => rfl
  | succ n ih => simp only [sumN, ih]; omega
theorem sumN_single (n k : Nat) (c : Nat → Nat) : sumN n (fun i => if i = k then c i else 0) = if k < n then c k else 0 := by
  induction n with
  | zero => rfl
  | succ n ih =>
    simp only [sumN, ih]
    by_cases h : k < n
    · rw [if_pos h, if_neg (by omega), if_pos (by omega), Nat.add_zero]
    · rw [if_neg h]
      by_cases h2 : n = k
      · subst h2; rw [if_pos rfl, if_pos (by omega), Nat.zero_add]
      · rw [if_neg h2, if_neg (by omega)]
theorem co_snoc (q : List Nat) (c i : Nat) : co (q ++ [c]) i = co q i + if i = q.length then c else 0 := by
  by_cases h : i < q.length
  · rw [if_neg (by omega), co_lt (by simp; omega), co_lt h, List.getElem_append_left h, Nat.add_zero]
  · rw [co_ge (f := q) (by omega)]
    by_cases h2 : i = q.length
    · subst h2; rw [if_pos rfl, co_lt (by simp)]; simp
    · rw [if_neg h2, co_ge (by simp; omega)]
theorem conv_snoc (q g : List Nat) (c k : Nat) : conv (q ++ [c]) g k = conv q g k + if q.length ≤ k then c * co g (k - q.length) else 0 := by
  unfold conv
  rw [sumN_congr (d := fun i => co q i * co g (k - i) + if i = q.length then c * co g (k - i) else 0) fun i _ => by
    rw [co_snoc, Nat.add_mul]
    split
    · rfl
    · rw [Nat.zero_mul], sumN_add, sumN_single]
  congr 1
  by_cases h : q.length ≤ k
  · rw [if_pos h, if_pos (by omega)]
  · rw [if_neg h, if_neg (by omega)]

theorem divL_sem {p inv : Nat} (hp : 2 ≤ p) {g : List Nat} : ∀ (n : Nat) (r : List Nat), n + (g.length - 1) ≤ r.length → (∀ k, co r k < p) → ∀ k, co r k % p = (conv (divL p inv g n r).1 g k + co (divL p inv g n r).2 k) % p
  | 0, r, _, _, k => by
    show _ = (conv [] g k + co r k) % p
    rw [show conv [] g k = 0 from sumN_zero fun i _ => by rw [co_ge (f := []) (by simp), Nat.zero_mul], Nat.zero_add]
  | n + 1, r, hl, hd, k => by
    have hlen := fun r' => (divL_len p inv g n r').1
    have hc := Nat.mod_lt (co r (n + (g.length - 1)) * inv) (by omega : 0 < p)
    generalize hce : co r (n + (g.length - 1)) * inv % p = c at *
    have hr' : ∀ j, co (if c = 0 then r else subRow p (p - c) n g r) j < p ∧ co r j % p = (co (if c = 0 then r else subRow p (p - c) n g r) j + if n ≤ j then c * co g (j - n) else 0) % p := fun j => by
      split
      · rename_i h0
        refine ⟨hd j, ?_⟩
        rw [h0]; simp
      · by_cases hj : j < r.length
        · rw [co_subRow hj]
          by_cases hb : n ≤ j ∧ j < n + g.length
          · rw [if_pos hb, if_pos hb.1]
            refine ⟨Nat.mod_lt _ (by omega), ?_⟩
            have h0 : ((p - c) * co g (j - n) % p + c * co g (j - n)) % p = 0 := by rw [Nat.mod_add_mod, ← Nat.add_mul, Nat.sub_add_cancel (by omega), Nat.mul_mod_right]
            rw [Nat.mod_add_mod, Nat.add_assoc, Nat.add_mod (co r j), h0, Nat.add_zero, Nat.mod_mod]
          · rw [if_neg hb]
            refine ⟨hd j, ?_⟩
            by_cases hn : n ≤ j
            · rw [if_pos hn, co_ge (f := g) (by omega), Nat.mul_zero, Nat.add_zero]
            · rw [if_neg hn, Nat.add_zero]
        · rw [co_ge (by rw [subRow_len]; omega), co_ge (f := r) (by omega)]
          refine ⟨by omega, ?_⟩
          by_cases hn : n ≤ j
          · rw [if_pos hn, co_ge (f := g) (by omega), Nat.mul_zero]
          · rw [if_neg hn]
    have hl' : n + (g.length - 1) ≤ (if c = 0 then r else subRow p (p - c) n g r).length := by
      split
      · omega
      · rw [subRow_len]; omega
    have ih := divL_sem (inv := inv) hp n _ hl' (fun j => (hr' j).1) k
    have e1 : (divL p inv g (n + 1) r).1 = (divL p inv g n (if c = 0 then r else subRow p (p - c) n g r)).1 ++ [c] := by
      rw [← hce]; rfl
    have e2 : (divL p inv g (n + 1) r).2 = (divL p inv g n (if c = 0 then r else subRow p (p - c) n g r)).2 := by
      rw [← hce]; rfl
    rw [e1, e2, conv_snoc, hlen, (hr' k).2, Nat.add_mod, ih, ← Nat.add_mod]
    congr 1; omega

theorem divL_low {p inv : Nat} (hp : 2 ≤ p) {g : List Nat} (hinv : co g (g.length - 1) * inv % p = 1) (hg : g.length ≠ 0) : ∀ (n : Nat) (r : List Nat), n + (g.length - 1) ≤ r.length → (∀ k, co r k < p) → (∀ k, n + (g.length - 1) ≤ k → co r k = 0) → ∀ k, g.length - 1 ≤ k → co (divL p inv g n r).2 k = 0
  | 0, r, _, _, hz, k, hk => hz k (by omega)
  | n + 1, r, hl, hd, hz, k, hk => by
    have hc := Nat.mod_lt (co r (n + (g.length - 1)) * inv) (by omega : 0 < p)
    have hcl : co r (n + (g.length - 1)) * inv % p * co g (g.length - 1) % p = co r (n + (g.length - 1)) := by
      rw [Nat.mod_mul_mod, Nat.mul_assoc, Nat.mul_comm inv, Nat.mul_mod, hinv, Nat.mul_one, Nat.mod_mod, Nat.mod_eq_of_lt (hd _)]
    show co (divL p inv g n (if co r (n + (g.length - 1)) * inv % p = 0 then r else subRow p (p - co r (n + (g.length - 1)) * inv % p) n g r)).2 k = 0
    generalize hce : co r (n + (g.length - 1)) * inv % p = c at *
    refine divL_low hp hinv hg n _ ?_ ?_ ?_ k hk
    · split
      · omega
      · rw [subRow_len]; omega
    · intro j
      split
      · exact hd j
      · by_cases hj : j < r.length
        · rw [co_subRow hj]
          split
          · exact Nat.mod_lt _ (by omega)
          · exact hd j
        · rw [co_ge (by rw [subRow_len]; omega)]; omega
    · intro j hj
      split
      · rename_i h0
        by_cases e : j = n + (g.length - 1)
        · rw [h0, Nat.zero_mul, Nat.zero_mod] at hcl
          rw [e]; exact hcl.symm
        · exact hz j (by omega)
      · by_cases hjl : j < r.length
        · rw [co_subRow hjl]
          by_cases e : j = n + (g.length - 1)
          · subst e
            rw [if_pos (by omega), show n + (g.length - 1) - n = g.length - 1 by omega]
            rw [← hcl, Nat.add_mod, Nat.mod_mod, Nat.mod_mod, ← Nat.add_mod, ← Nat.add_mul, Nat.add_sub_cancel' (by omega), Nat.mul_mod_right]
          · rw [if_neg (by omega)]; exact hz j (by omega)
        · exact co_ge (by rw [subRow_len]; omega)

/-- division with remainder -/
structure DivS (p : Nat) (f g q r : List Nat) : Prop where
  cq : Can p q
  cr : Can p r
  lt : r.length < g.length
  eq : ∀ k, co f k % p = (conv q g k + co r k) % p
  ql : q.length ≤ f.length - (g.length - 1)

theorem trimL_can {p : Nat} {f : List Nat} (h : ∀ d ∈ f, d < p) : Can p (trimL f) := ⟨fun d hd => h d (List.mem_of_mem_take hd), trimL_trimmed f⟩
theorem conv_trimL (q g : List Nat) (k : Nat) : conv (trimL q) g k = conv q g k := sumN_congr fun i _ => by rw [co_trimL]
theorem lt_of_co {p : Nat} (_ : 0 < p) {f : List Nat} (h : ∀ k, co f k < p) : ∀ d ∈ f, d < p := fun d hd => by
  obtain ⟨i, hi, rfl⟩ := List.getElem_of_mem hd
  rw [← co_lt hi]; exact h i

theorem divL_lt {p inv : Nat} (hp : 0 < p) (g : List Nat) : ∀ n r, (∀ d ∈ r, d < p) → (∀ d ∈ (divL p inv g n r).1, d < p) ∧ ∀ d ∈ (divL p inv g n r).2, d < p
  | 0, r, h => ⟨fun d hd => (List.not_mem_nil hd).elim, h⟩
  | n + 1, r, h => by
    have h' : ∀ d ∈ (if co r (n + (g.length - 1)) * inv % p = 0 then r else subRow p (p - co r (n + (g.length - 1)) * inv % p) n g r), d < p := by
      split
      · exact h
      · intro d hd
        obtain ⟨k, hk, rfl⟩ := List.mem_map.1 hd
        have hk' : k < r.length := by simpa using hk
        split
        · exact Nat.mod_lt _ hp
        · rw [co_lt hk']; exact h _ (List.getElem_mem _)
    have ih := divL_lt (inv := inv) hp g n _ h'
    refine ⟨fun d hd => ?_, ih.2⟩
    have hd' : d ∈ (divL p inv g n (if co r (n + (g.length - 1)) * inv % p = 0 then r else subRow p (p - co r (n + (g.length - 1)) * inv % p) n g r)).1 ++ [co r (n + (g.length - 1)) * inv % p] := hd
    rcases List.mem_append.1 hd' with hd' | hd'
    · exact ih.1 d hd'
    · rw [List.mem_singleton.1 hd']; exact Nat.mod_lt _ hp

theorem divM_sem {p : Nat} (hp : Fld p) {f g : List Nat} (cf : Can p f) (cg : Can p g) (hg : g ≠ []) : DivS p f g (divM p f g).1 (divM p f g).2 := by
  have hp2 := hp.two
  have hg0 : g.length ≠ 0 := fun e => hg (List.eq_nil_of_length_eq_zero e)
  have hld := cg.lead hg0
  have hlt := cg.co_lt (by omega) (g.length - 1)
  have hinv := hp.invM (a := co g (g.length - 1)) (by rw [Nat.mod_eq_of_lt hlt]; exact hld)
  unfold divM
  split
  · rename_i hle
    refine ⟨Can.nil p, cf, by dsimp only; omega, fun k => ?_, by simp⟩
    show _ = (conv [] g k + co f k) % p
    rw [show conv [] g k = 0 from sumN_zero fun i _ => by rw [co_ge (f := []) (by simp), Nat.zero_mul], Nat.zero_add]
  · rename_i hle
    have hdl := divL_lt (inv := invM (co g (g.length - 1)) p) (by omega) g (f.length - (g.length - 1)) f cf.lt
    have hlen := divL_len p (invM (co g (g.length - 1)) p) g (f.length - (g.length - 1)) f
    have hsem := divL_sem (inv := invM (co g (g.length - 1)) p) hp2 (g := g) (f.length - (g.length - 1)) f (by omega) (cf.co_lt (by omega))
    have hlow := divL_low hp2 hinv.1 hg0 (f.length - (g.length - 1)) f (by omega) (cf.co_lt (by omega)) (fun k hk => co_ge (by omega))
    refine ⟨trimL_can hdl.1, trimL_can hdl.2, ?_, fun k => ?_, ?_⟩
    · dsimp only
      rcases Nat.lt_or_ge (trimL (divL p (invM (co g (g.length - 1)) p) g (f.length - (g.length - 1)) f).2).length g.length with h | h
      · exact h
      · exfalso
        refine trimL_trimmed (divL p (invM (co g (g.length - 1)) p) g (f.length - (g.length - 1)) f).2 (by omega) ?_
        rw [co_trimL]; exact hlow _ (by omega)
    · dsimp only
      rw [conv_trimL, co_trimL]; exact hsem k
    · dsimp only
      rw [trimL_len]
      have := tlen_le (divL p (invM (co g (g.length - 1)) p) g (f.length - (g.length - 1)) f).1 (divL p (invM (co g (g.length - 1)) p) g (f.length - (g.length - 1)) f).1.length
      omega
theorem remM_can {p : Nat} (hp : Fld p) {f g : List Nat} (cf : Can p f) (cg : Can p g) (hg : g ≠ []) : Can p (remM p f g) ∧ (remM p f g).length < g.length := ⟨(divM_sem hp cf cg hg).cr, (divM_sem hp cf cg hg).lt⟩
end Go.Vc
