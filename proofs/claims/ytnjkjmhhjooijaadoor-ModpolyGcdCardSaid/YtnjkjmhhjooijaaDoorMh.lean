/- modpoly: division, greatest common divisors, powers. -/
import Derived.Test.YtnjkjmhhjooijaaDoorMg
namespace Go.Vc
open Go.Proofs

theorem Fld.mx {p : Nat} (hp : Fld p) : mx p = p := by have := hp.two; unfold Vc.mx; omega
theorem Can.dgp {p : Nat} {f : List Nat} (h : Can p f) (hp : Fld p) : Dg f := h.dg (by have := hp.lt; omega)

theorem divL_dg {M inv : Nat} (hM : 0 < M) (hM2 : M ≤ 4294967296) (g : List Nat) : ∀ n r, (∀ d ∈ r, d < M) → (∀ d ∈ (divL M inv g n r).1, d < M) ∧ ∀ d ∈ (divL M inv g n r).2, d < M
  | 0, r, h => ⟨fun d hd => (List.not_mem_nil hd).elim, h⟩
  | n + 1, r, h => by
    have h' : ∀ d ∈ (if co r (n + (g.length - 1)) * inv % M = 0 then r else subRow M (M - co r (n + (g.length - 1)) * inv % M) n g r), d < M := by
      split
      · exact h
      · intro d hd
        obtain ⟨k, hk, rfl⟩ := List.mem_map.1 hd
        have hk' : k < r.length := by simpa using hk
        split
        · exact Nat.mod_lt _ hM
        · rw [co_lt hk']; exact h _ (List.getElem_mem _)
    have ih := divL_dg (inv := inv) hM hM2 g n _ h'
    refine ⟨fun d hd => ?_, ih.2⟩
    have hd' : d ∈ (divL M inv g n (if co r (n + (g.length - 1)) * inv % M = 0 then r else subRow M (M - co r (n + (g.length - 1)) * inv % M) n g r)).1 ++ [co r (n + (g.length - 1)) * inv % M] := hd
    rcases List.mem_append.1 hd' with hd' | hd'
    · exact ih.1 d hd'
    · rw [List.mem_singleton.1 hd']; exact Nat.mod_lt _ hM

/-- a row of which the first j elements are subtracted -/
def partRow (M minus low : Nat) (g r : List Nat) (j : Nat) : List Nat := (List.range r.length).map fun k => if low ≤ k ∧ k < low + j then (co r k + minus * co g (k - low) % M) % M else co r k
theorem partRow_len (M minus low : Nat) (g r : List Nat) (j : Nat) : (partRow M minus low g r j).length = r.length := by simp [partRow]
theorem co_partRow {M minus low k j : Nat} {g r : List Nat} : co (partRow M minus low g r j) k = if k < r.length ∧ low ≤ k ∧ k < low + j then (co r k + minus * co g (k - low) % M) % M else co r k := by
  by_cases hk : k < r.length
  · rw [co_lt (by rw [partRow_len]; exact hk)]
    simp only [partRow, List.getElem_map, List.getElem_range]
    by_cases h : low ≤ k ∧ k < low + j
    · rw [if_pos h, if_pos ⟨hk, h⟩]
    · rw [if_neg h, if_neg (fun e => h e.2)]
  · rw [co_ge (by rw [partRow_len]; omega), co_ge (by omega), if_neg (by omega)]
theorem partRow_zero (M minus low : Nat) (g r : List Nat) : partRow M minus low g r 0 = r := co_ext (partRow_len _ _ _ _ _ _) fun k => by rw [co_partRow, if_neg (by omega)]
theorem partRow_full (M minus low : Nat) (g r : List Nat) : partRow M minus low g r g.length = subRow M minus low g r := rfl
theorem partRow_set {M minus low j : Nat} {g r : List Nat} (hj : low + j < r.length) : (partRow M minus low g r j).set (low + j) ((co r (low + j) + minus * co g j % M) % M) = partRow M minus low g r (j + 1) :=
  co_ext (by rw [List.length_set, partRow_len, partRow_len]) fun k => by
    rw [co_set (by rw [partRow_len]; exact hj), co_partRow, co_partRow]
    by_cases h : k = low + j
    · subst h; rw [if_pos rfl, if_pos (by omega), show low + j - low = j by omega]
    · rw [if_neg h]
      by_cases h2 : k < r.length ∧ low ≤ k ∧ k < low + j
      · rw [if_pos h2, if_pos (by omega)]
      · rw [if_neg h2, if_neg (by omega)]

set_option maxHeartbeats 1600000 in
theorem moddivide_T (h : Heap) (v w : Value) (f g : List Nat) (p : Nat) (hf : Nums .u32 h v f) (hg : Nums .u32 h w g) (cf : Can p f) (cg : Can p g) (hp : Fld p) (hgn : g ≠ []) (hlf : f.length < 1000000) (hlg : g.length < 1000000) :
    Spec E.P f_modpoly_divide #[v, w, vnum .u32 p] h (fun v' h' => Ext h h' ∧ ∃ q r, v' = .tuple #[q, r] ∧ Nums .u32 h' q (divM p f g).1 ∧ Nums .u32 h' r (divM p f g).2 ∧ Ty h' q ∧ Ty h' r) := by
  have hf0 := hf
  have hg0 := hg
  obtain ⟨a, cap, rfl, hcap, -⟩ := hf
  obtain ⟨b, cap2, rfl, hcap2, -⟩ := hg
  have hp2 := hp.two
  have hpl := hp.lt
  have hg1 : g.length ≠ 0 := fun e => hgn (List.eq_nil_of_length_eq_zero e)
  have hlead := cg.lead hg1
  have hleadlt := cg.co_lt (by omega) (g.length - 1)
  have hinv := hp.invM (a := co g (g.length - 1)) (by rw [Nat.mod_eq_of_lt hleadlt]; exact hlead)
  refine Spec.intro hE (args := [_, _, _]) F_modpoly_divide rfl rfl (Nat.le_of_ble_eq_true rfl) ?_
  refine DMake.intro f.length f.length rfl rfl (Nat.le_refl _) (by omega) (by omega) ?_
  intro rb h1 hrb hx1 hs1 hg1'
  refine DRun.copyNums (NumB.zeros hg1') (hf0.ext hx1) (Nat.le_refl _) ?_
  rintro h2 ⟨o2, hu2⟩ hZ2
  have hx2 : Ext h h2 := ((hx1.old (Nat.le_refl _)).upd hu2 (by omega)).toExt
  rw [Nat.sub_self, List.replicate_zero, List.append_nil] at hZ2
  refine DWrap.is ((g.length - 1 : Nat) : Int) (by omega) (by omega) ?_
  refine bsp.dec (p := (f.length : Int) ≤ ((g.length - 1 : Nat) : Int)) (fun hc => ?_) (fun hc => ?_)
  · have e : divM p f g = ([], f) := by unfold divM; rw [if_pos (by omega)]
    rw [e]
    exact ⟨hx2, _, _, rfl, Nums.nil _ _, hZ2.nums, Ty.nil _, Ty.block hZ2⟩
  have e : divM p f g = (trimL (divL p (invM (co g (g.length - 1)) p) g (f.length - (g.length - 1)) f).1, trimL (divL p (invM (co g (g.length - 1)) p) g (f.length - (g.length - 1)) f).2) := by unfold divM; rw [if_neg (by omega)]
  obtain ⟨gb, go, rfl, hgl⟩ := hg0.at (i := g.length - 1) (by omega)
  refine DIdx.intro (g.length - 1) rfl rfl (by omega) ?_
  refine DLoad.scalar (hx2.cell hgl) ?_
  refine (modInverse_any h2 _ p (by omega) hp2 hpl ⟨_, hinv.1⟩).mono ?_
  rintro _ _ ⟨rfl, rfl⟩
  rename_i h2
  generalize hI : invM (co g (g.length - 1)) p = inv at *
  refine DWrap.is ((f.length - (g.length - 1) : Nat) : Int) (by omega) (by omega) ?_
  refine DMake.intro (f.length - (g.length - 1)) (f.length - (g.length - 1)) rfl rfl (Nat.le_refl _) (by omega) (by omega) ?_
  generalize hN : f.length - (g.length - 1) = N at *
  intro qb h3 hqb hx3 hs3 hg3
  have hR3 : NumB h3 rb .u32 t_uint32 f := hx3.at hZ2
  have s2 := hx2.size
  have hrlt : rb < h2.size := lt_of_get hZ2
  refine DLoop.intro hE (ι := Nat × List Nat × List Nat) (fun s => [(47, .int .i64 s.1), (46, .int .i64 N), (6, .slice (some ⟨qb, 0, none⟩) N N), (7, .slice (some ⟨rb, 0, none⟩) f.length f.length), (8, .int .i64 ((g.length - 1 : Nat) : Int)), (9, vnum .u32 inv), (1, .slice (some ⟨gb, go, none⟩) g.length cap2), (2, vnum .u32 p)])
    (fun s h' => Old h.size h h' ∧ s.1 ≤ N ∧ NumB h' qb .u32 t_uint32 s.2.1 ∧ NumB h' rb .u32 t_uint32 s.2.2 ∧ s.2.1.length = N ∧ s.2.2.length = f.length ∧ (∀ d ∈ s.2.2, d < p) ∧
      (divL p inv g (N - s.1) s.2.2).2 = (divL p inv g N f).2 ∧ (divL p inv g (N - s.1) s.2.2).1 ++ s.2.1.drop (N - s.1) = (divL p inv g N f).1) (fun s => N - s.1) (0, List.replicate N 0, f) rfl ⟨rfl, rfl, rfl, rfl, rfl, rfl, rfl, rfl, trivial⟩
    ⟨(hx2.trans hx3).old (Nat.le_refl _), Nat.zero_le _, NumB.zeros hg3, hR3, by simp, rfl, cf.lt, rfl, by simp⟩ ?_
  rintro ⟨k, Q, R⟩ h4 ⟨ho4, hk, hQ, hR, hQl, hRl, hRd, hd2, hd1⟩
  dsimp only at hk hQ hR hQl hRl hRd hd2 hd1 ⊢
  refine bsp.dec (fun hlt => ?_) (fun hlt => ?_)
  · obtain ⟨n, hn⟩ : ∃ n, N - k = n + 1 := ⟨N - k - 1, by omega⟩
    rw [hn] at hd1 hd2
    have hnd : n + (g.length - 1) < R.length := by omega
    have hcR : co R (n + (g.length - 1)) = R[n + (g.length - 1)] := co_lt hnd
    have hcRlt : co R (n + (g.length - 1)) < p := by rw [hcR]; exact hRd _ (List.getElem_mem _)
    have hfac := Nat.mod_lt (co R (n + (g.length - 1)) * inv) (by omega : 0 < p)
    refine DBlock.cut hE (ι := List Nat × List Nat) (fun s => [(47, .int .i64 k), (46, .int .i64 N), (6, .slice (some ⟨qb, 0, none⟩) N N), (7, .slice (some ⟨rb, 0, none⟩) f.length f.length), (8, .int .i64 ((g.length - 1 : Nat) : Int)), (9, vnum .u32 inv), (1, .slice (some ⟨gb, go, none⟩) g.length cap2), (2, vnum .u32 p)])
      (fun s h' => Old h.size h h' ∧ NumB h' qb .u32 t_uint32 s.1 ∧ NumB h' rb .u32 t_uint32 s.2 ∧ s.1 = Q.set n (co R (n + (g.length - 1)) * inv % p) ∧ s.2 = if co R (n + (g.length - 1)) * inv % p = 0 then R else subRow p (p - co R (n + (g.length - 1)) * inv % p) n g R) rfl ?_ ?_
    · refine DWrap.is ((N - 1 : Nat) : Int) (by omega) (by omega) ?_
      refine DWrap.is (n : Int) (by omega) (by omega) ?_
      refine DWrap.is ((n + (g.length - 1) : Nat) : Int) (by omega) (by omega) ?_
      refine DIdx.intro (n + (g.length - 1)) rfl rfl (by omega) ?_
      refine DLoad.scalar (hR.cell hnd) ?_
      refine (modMul_any h4 _ inv p (by rw [← hcR]; omega) (by omega) hpl).mono ?_
      rintro _ h4' ⟨rfl, rfl⟩
      rw [hp.mx, ← hcR]
      refine DIdx.intro n rfl rfl (by omega) ?_
      refine DStore.num n (Nat.zero_add _) hQ (by omega) ?_
      intro h5 hu5 hQ5
      have hR5 : NumB h5 rb .u32 t_uint32 R := hu5.at_ne hR (by omega)
      have ho5 := ho4.upd hu5 (by omega)
      generalize hc : co R (n + (g.length - 1)) * inv % p = c at *
      refine bsp.intro (b := ((c : Int) == 0)) (fun hz => ?_) (fun hz => ?_)
      · have : c = 0 := by simpa using hz
        exact ⟨(_, R), ⟨rfl, rfl, rfl, rfl, rfl, rfl, rfl, rfl, trivial⟩, ho5, hQ5, hR5, rfl, by rw [if_pos this]⟩
      · have hc0 : c ≠ 0 := by simpa using hz
        refine DWrap.eq (m := ((p - c : Nat) : Int)) (by rw [IntKind.wrap_u32']; omega) ?_
        refine DWrap.eq (m := ((p - c : Nat) : Int)) (by rw [IntKind.wrap_u64]; omega) ?_
        refine DLoop.intro hE (ι := Nat) (fun j => [(76, .int .i64 j), (74, .slice (some ⟨gb, go, none⟩) g.length cap2), (75, .int .i64 g.length), (12, .int .i64 n), (14, vnum .u64 (p - c)), (47, .int .i64 k), (46, .int .i64 N), (6, .slice (some ⟨qb, 0, none⟩) N N), (7, .slice (some ⟨rb, 0, none⟩) f.length f.length), (8, .int .i64 ((g.length - 1 : Nat) : Int)), (9, vnum .u32 inv), (1, .slice (some ⟨gb, go, none⟩) g.length cap2), (2, vnum .u32 p)])
          (fun j h' => Old h.size h h' ∧ j ≤ g.length ∧ NumB h' qb .u32 t_uint32 (Q.set n c) ∧ NumB h' rb .u32 t_uint32 (partRow p (p - c) n g R j)) (fun j => g.length - j) 0 rfl ⟨rfl, rfl, rfl, rfl, rfl, rfl, rfl, rfl, rfl, rfl, rfl, rfl, rfl, trivial⟩
          ⟨ho5, Nat.zero_le _, hQ5, by rw [partRow_zero]; exact hR5⟩ ?_
        rintro j h6 ⟨ho6, hj, hQ6, hR6⟩
        refine bsp.dec (fun hlt2 => ?_) (fun hlt2 => ?_)
        · have hjg : j < g.length := by omega
          obtain ⟨gb', go', hge, hgc⟩ := hg0.at hjg
          injection hge with hge
          injection hge with hg1 hg2 _
          subst hg1 hg2
          refine DIdx.intro j rfl rfl hjg ?_
          refine DLoad.scalar (ho6.toExt.cell hgc) ?_
          have hnj : n + j < R.length := by omega
          have hnj' : n + j < (partRow p (p - c) n g R j).length := by rw [partRow_len]; exact hnj
          have hcp : co (partRow p (p - c) n g R j) (n + j) = co R (n + j) := by rw [co_partRow, if_neg (by omega)]
          have hzz : (partRow p (p - c) n g R j)[n + j] = co R (n + j) := by rw [← hcp]; exact (co_lt hnj').symm
          have hRlt : co R (n + j) < p := by rw [co_lt hnj]; exact hRd _ (List.getElem_mem _)
          have hGlt := cg.co_lt (by omega) j
          have hm1 : (p - c) * co g j ≤ 4294967295 * 4294967295 := Nat.mul_le_mul (by omega) (by omega)
          have hm2 := Nat.mod_lt ((p - c) * co g j) (by omega : 0 < p)
          have hm3 := Nat.mod_lt (co R (n + j) + (p - c) * co g j % p) (by omega : 0 < p)
          refine DDraw.intro hE (.take 0 (.take 1 (.take 2 (.take 3 (.take 4 (.take 5 (.take 6 (.take 7 (.take 8 (.take 11 (.take 12 (.take 13 (.take 14 (.take 15 (.take 16 (.take 17 (.take 19 (.take 20 (.take 9 (.take 10 (.take 18 (.take 21 (.take 22 (.take 23 (.one 24 .done))))))))))))))))))))))))) (some 24) (· = h6) (by kernel_rfl) rfl ?_
          refine DWrap.is ((n + j : Nat) : Int) (by omega) (by omega) ?_
          refine DWrap.is ((n + j : Nat) : Int) (by omega) (by omega) ?_
          refine DIdx.intro (n + j) rfl rfl (by omega) ?_
          refine DWrap.eq (m := (co g j : Nat)) (by rw [IntKind.wrap_u64]; omega) ?_
          refine DWrap.eq (m := ((p - c) * co g j : Nat)) (by rw [IntKind.wrap_u64, ← Int.natCast_mul]; omega) ?_
          refine DWrap.eq (m := (p : Nat)) (by rw [IntKind.wrap_u64]; omega) ?_
          refine ⟨by omega, ?_⟩
          rw [tmod_nat]
          refine DWrap.eq (m := (p : Nat)) (by rw [IntKind.wrap_u64]; omega) ?_
          refine QLoad.scalar (fun _ e => by rw [e]; exact hR6.cell hnj') ?_
          rw [hzz]
          refine DWrap.eq (m := (co R (n + j) : Nat)) (by rw [IntKind.wrap_u64]; omega) ?_
          refine DWrap.eq (m := (co R (n + j) + (p - c) * co g j % p : Nat)) (by rw [IntKind.wrap_u64]; omega) ?_
          refine ⟨by omega, ?_⟩
          rw [tmod_nat]
          refine DWrap.eq (m := ((co R (n + j) + (p - c) * co g j % p) % p : Nat)) (by rw [IntKind.wrap_u32']; omega) ?_
          refine DIdx.intro (n + j) rfl rfl (by omega) ?_
          refine DStore.num (n + j) (Nat.zero_add _) hR6 hnj' ?_
          intro h7 hu7 hR7
          rw [partRow_set hnj] at hR7
          refine DWrap.is ((j + 1 : Nat) : Int) (by omega) (by omega) ?_
          exact ⟨j + 1, ⟨rfl, rfl, rfl, rfl, rfl, rfl, rfl, rfl, rfl, rfl, rfl, rfl, rfl, trivial⟩, ⟨ho6.upd hu7 (by omega), by omega, hu7.at_ne hQ6 (by omega), hR7⟩, by omega⟩
        · obtain rfl : j = g.length := by omega
          rw [partRow_full] at hR6
          exact ⟨(_, _), ⟨rfl, rfl, rfl, rfl, rfl, rfl, rfl, rfl, trivial⟩, ho6, hQ6, hR6, rfl, by rw [if_neg hc0]; rfl⟩
    · rintro ⟨Q', R'⟩ h5 ⟨ho5, hQ5, hR5, hQe, hRe⟩
      dsimp only at hQ5 hR5 hQe hRe ⊢
      refine DWrap.is ((k + 1 : Nat) : Int) (by omega) (by omega) ?_
      have hdl : (divL p inv g (n + 1) R).2 = (divL p inv g n R').2 := by rw [hRe]; rfl
      have hdl1 : (divL p inv g (n + 1) R).1 = (divL p inv g n R').1 ++ [co R (n + (g.length - 1)) * inv % p] := by rw [hRe]; rfl
      have hnk : N - (k + 1) = n := by omega
      refine ⟨(k + 1, Q', R'), ⟨rfl, rfl, rfl, rfl, rfl, rfl, rfl, rfl, trivial⟩, ⟨ho5, by dsimp only; omega, hQ5, hR5, ?_, ?_, ?_, ?_, ?_⟩, by dsimp only; omega⟩
      · dsimp only; rw [hQe, List.length_set]; exact hQl
      · dsimp only; rw [hRe]; split
        · exact hRl
        · rw [subRow_len]; exact hRl
      · dsimp only; rw [hRe]; split
        · exact hRd
        · intro d hd
          obtain ⟨i, hi, rfl⟩ := List.mem_map.1 hd
          have hi' : i < R.length := by simpa using hi
          split
          · exact Nat.mod_lt _ (by omega)
          · rw [co_lt hi']; exact hRd _ (List.getElem_mem _)
      · dsimp only; rw [hnk, ← hdl]; exact hd2
      · dsimp only
        rw [hnk, ← hd1, hdl1, hQe, List.append_assoc]
        congr 1
        have hnQ : n < Q.length := by omega
        rw [List.drop_eq_getElem_cons (by simpa using hnQ), List.getElem_set_self, List.singleton_append, List.drop_set_of_lt (by omega)]
  · obtain rfl : k = N := by omega
    rw [Nat.sub_self] at hd1 hd2
    have e1 : Q = (divL p inv g k f).1 := by rw [← hd1]; rfl
    have e2 : R = (divL p inv g k f).2 := by rw [← hd2]; rfl
    rw [e, ← e1, ← e2]
    have hnq := hQ.nums
    have hnr := hR.nums
    rw [hQl] at hnq
    rw [hRl] at hnr
    refine (modtrim_T h4 _ Q hnq (by omega)).mono ?_
    rintro v5 h5 ⟨rfl, hv5, hb5⟩
    refine (modtrim_T h5 _ R hnr (by omega)).mono ?_
    rintro v6 h6 ⟨rfl, hv6, hb6⟩
    exact ⟨ho4.toExt, _, _, rfl, hv5, hv6, (Ty.block hQ).same hb5, (Ty.block hR).same hb6⟩
theorem moddivide_any (h : Heap) (v w : Value) (f g : List Nat) (p : Nat) (hf : Nums .u32 h v f) (hg : Nums .u32 h w g) (cf : Can p f) (cg : Can p g) (hp : Fld p) (hgn : g ≠ []) (hlf : f.length < 1000000) (hlg : g.length < 1000000) :
    Spec E.P f_modpoly_divide #[v, w, vnum .u32 p] h (fun v' h' => Ext h h' ∧ ∃ q r, v' = .tuple #[q, r] ∧ Nums .u32 h' q (divM p f g).1 ∧ Nums .u32 h' r (divM p f g).2) :=
  (moddivide_T h v w f g p hf hg cf cg hp hgn hlf hlg).mono fun _ _ ⟨hx, q, r, e, h1, h2, _⟩ => ⟨hx, q, r, e, h1, h2⟩
end Go.Vc
