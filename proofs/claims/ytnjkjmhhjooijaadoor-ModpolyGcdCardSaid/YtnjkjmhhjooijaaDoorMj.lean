/- modpoly: lists of polynomials; trial, separator, equalDegree, byDegree. -/
import Derived.Test.YtnjkjmhhjooijaaDoorMi
import Derived.Test.YtnjkjmhhjooijaaDoorMs
namespace Go.Vc
open Go.Proofs

/-- a polynomial in a block of numbers -/
def PoT (h : Heap) (v : Value) (f : List Nat) : Prop := Nums .u32 h v f ∧ Ty h v
theorem PoT.ext {h h' : Heap} (x : Ext h h') {v : Value} {f : List Nat} (p : PoT h v f) : PoT h' v f := ⟨p.1.ext x, p.2.ext x⟩
/-- an append to a row of another kind leaves it -/
theorem PoT.grown {h h' : Heap} {r : Option Nat} (g : Grown h h' r) (hr : ∀ k, r = some k → ∃ c e fr, h[k]? = some (.cells c e fr) ∧ e ≠ t_uint32) {v : Value} {f : List Nat} (p : PoT h v f) : PoT h' v f := by
  obtain ⟨⟨a, cap, rfl, hc, hA⟩, ht⟩ := p
  have key : ∀ k, (Value.slice a f.length cap).ownBlock = some k → h'[k]? = h[k]? := fun k hk => by
    obtain ⟨c, fr, hb⟩ := ht k hk
    rw [g.at hb ?_, hb]
    intro e
    obtain ⟨c', e', fr', h1, h2⟩ := hr k e.symm
    rw [hb] at h1
    injection h1 with h1
    injection h1 with _ h3 _
    exact h2 h3.symm
  refine ⟨⟨a, cap, rfl, hc, fun hne => ?_⟩, fun k hk => ?_⟩
  · obtain ⟨b, off, rfl, hcell⟩ := hA hne
    refine ⟨b, off, rfl, fun j hj => ?_⟩
    rw [← hcell j hj]
    unfold cell
    rw [key b rfl]
  · obtain ⟨c, fr, hb⟩ := ht k hk
    exact ⟨c, fr, by rw [key k hk]; exact hb⟩

/-- a slice of polynomials of the call's own -/
def PsOwn (h : Heap) (base : Nat) (v : Value) (L : List (List Nat)) : Prop := ∃ xs : List Value, xs.length = L.length ∧ (∀ (j : Nat) (w : Value) (l : List Nat), xs[j]? = some w → L[j]? = some l → PoT h w l) ∧ Own h base t_modpoly_Poly 1 v L.length xs
theorem PsOwn.nil (h : Heap) (base : Nat) : PsOwn h base (.slice none 0 0) [] := ⟨[], rfl, fun j w l hw => by simp at hw, Own.nil _ _ _ _⟩
theorem PsOwn.ext {h h' : Heap} (x : Ext h h') {base : Nat} {v : Value} {L : List (List Nat)} (ho : PsOwn h base v L) : PsOwn h' base v L := by
  obtain ⟨xs, hl, hx, ho⟩ := ho
  exact ⟨xs, hl, fun j w l h1 h2 => (hx j w l h1 h2).ext x, ho.ext x⟩
theorem PsOwn.base {h : Heap} {b0 base : Nat} (hb : b0 ≤ base) {v : Value} {L : List (List Nat)} (ho : PsOwn h base v L) : PsOwn h b0 v L := by
  obtain ⟨xs, hl, hx, h1, ho⟩ := ho
  refine ⟨xs, hl, hx, h1, ?_⟩
  rcases ho with ho | ⟨g, cap, cur, e1, e2, e3⟩
  · exact .inl ho
  · exact .inr ⟨g, cap, cur, e1, Nat.le_trans hb e2, e3⟩
theorem PsOwn.block {h : Heap} {base : Nat} {v : Value} {L : List (List Nat)} (ho : PsOwn h base v L) {k : Nat} (hk : v.ownBlock = some k) : base ≤ k ∧ k < h.size ∧ ∃ cur, h[k]? = some (.cells cur t_modpoly_Poly (0, 0)) := by
  obtain ⟨xs, -, -, ho⟩ := ho; exact ho.block hk
theorem PsOwn.one {h : Heap} {b base : Nat} {w : Value} {l : List Nat} (hb : base ≤ b) (hw : Whole h b t_modpoly_Poly [w]) (hp : PoT h w l) : PsOwn h base (.slice (some ⟨b, 0, none⟩) 1 1) [l] := by
  refine ⟨[w], rfl, fun j u l' h1 h2 => ?_, ?_⟩
  · obtain rfl : j = 0 := by have := (List.getElem?_eq_some_iff.1 h1).1; simpa using this
    simp at h1 h2
    rw [← h1, ← h2]; exact hp
  · exact Own.made (n := 1) (cap := 1) (size := 1) hb hw (Nat.le_refl _) (by decide) rfl
theorem PoT.one {h : Heap} {w : Value} {l : List Nat} (hp : PoT h w l) : w.oneCell' = true := by
  obtain ⟨⟨a, cap, rfl, -⟩, -⟩ := hp; rfl

/-- one list behind another -/
theorem DRun.polys {h : Heap} {base base2 : Nat} {v w : Value} {L1 L2 : List (List Nat)} (h1 : PsOwn h base v L1) (h2 : PsOwn h base2 w L2) (hne : L2 ≠ []) (hlen : L1.length + L2.length < 1000000) (hbase : base ≤ h.size)
    {K : Value → Heap → Prop} (hk : ∀ v' h', PsOwn h' base v' (L1 ++ L2) → Grown h h' v.ownBlock → (∀ w l, PoT h w l → PoT h' w l) → K v' h') :
    DRun E (Builtin.append_ #[t_sl_modpoly_Poly, t_sl_modpoly_Poly] t_sl_modpoly_Poly #[v, w]) h K := by
  obtain ⟨xs, hl1, hx1, ho1⟩ := h1
  obtain ⟨ys, hl2, hx2, ho2⟩ := h2
  obtain ⟨g, cap, rfl, h3, h4, h5, hcs, -⟩ := ho2.cells (by simpa using hne)
  refine DRun.append hE (ti := ⟨.slice t_modpoly_Poly, 1, 24, .slice none 0 0⟩) (ei := ⟨.slice t_uint32, 1, 24, .slice none 0 0⟩) rfl rfl rfl ho1 (by decide) (news := ys) (by simpa using hl2) hcs (fun u hu => ?_) (by omega) ?_ hbase ?_
  · obtain ⟨j, hj, rfl⟩ := List.getElem_of_mem hu
    exact (hx2 j _ (L2[j]'(by omega)) (by simp) (by simp)).one
  · show (L1.length + L2.length) * 24 ≤ _; omega
  · intro v' h' ho' hg _
    have hkeep : ∀ w l, PoT h w l → PoT h' w l := fun w l hp => hp.grown hg fun k hk => by
      obtain ⟨-, -, c, hc⟩ := ho1.block hk
      exact ⟨c, _, _, hc, by decide⟩
    refine hk v' h' ⟨xs ++ ys, by simp [hl1, hl2], fun j u l hu hl => ?_, by simpa using ho'⟩ hg hkeep
    by_cases hj : j < xs.length
    · rw [List.getElem?_append_left hj] at hu
      rw [List.getElem?_append_left (by omega)] at hl
      exact hkeep _ _ (hx1 j u l hu hl)
    · rw [List.getElem?_append_right (by omega)] at hu
      rw [List.getElem?_append_right (by omega), ← hl1] at hl
      exact hkeep _ _ (hx2 _ u l hu hl)

/-- an own row of numbers -/
def NsOwn (h : Heap) (base : Nat) (v : Value) (ds : List Nat) : Prop := Own h base t_uint32 1 v ds.length (ds.map (vnum .u32))
theorem NsOwn.nums {h : Heap} {base : Nat} {v : Value} {ds : List Nat} (ho : NsOwn h base v ds) : PoT h v ds := by
  rcases ho.2 with ⟨hv, h0⟩ | ⟨g, cap, cur, hv, hb, hg, hn, hm, hs, ht⟩
  · have : ds = [] := List.eq_nil_of_length_eq_zero h0
    subst this hv
    exact ⟨Nums.nil _ _, Ty.nil _⟩
  · subst hv
    refine ⟨⟨_, cap, rfl, ⟨hn, fun e => (by cases e)⟩, fun hne => ⟨g, 0, rfl, fun j hj => ?_⟩⟩, fun k hk => ?_⟩
    · obtain ⟨g', cap', he, -, -, -, hcs, -⟩ := Own.cells ho (by intro e; exact hne (List.eq_nil_of_length_eq_zero e))
      injection he with he
      injection he with he
      injection he with he
      subst he
      have := hcs.get j (vnum .u32 ds[j]) (by simp [hj])
      rw [Nat.zero_add] at this
      rw [Nat.zero_add]; exact this
    · simp [Value.ownBlock] at hk
      subst hk
      exact ⟨_, _, hg⟩

theorem trialF_snoc {p : Nat} : ∀ k n, trialF p k n = if k = 0 ∨ n = 0 then [] else n % p :: trialF p (k - 1) (n / p)
  | 0, n => by rw [if_pos (.inl rfl)]; rfl
  | k + 1, n => by
    by_cases h : n = 0
    · rw [if_pos (.inr h)]; show (if n = 0 then _ else _) = _; rw [if_pos h]
    · rw [if_neg (by omega)]; show (if n = 0 then _ else _) = _; rw [if_neg h]; rfl

set_option maxHeartbeats 800000 in
theorem modtrial_any (h : Heap) (n p : Nat) (hn : n < 1099511627776) (hp2 : 2 ≤ p) (hpl : p < 4294967296) :
    Spec E.P f_modpoly_trial #[vnum .u64 n, vnum .u32 p] h (fun v' h' => Ext h h' ∧ PoT h' v' (trialM p n)) := by
  refine Spec.intro hE (args := [_, _]) F_modpoly_trial rfl rfl (Nat.le_of_ble_eq_true rfl) ?_
  refine bsp.intro (b := ((p : Int) == 2)) (fun hb => ?_) (fun hb => ?_)
  · have hp : p = 2 := by simp at hb; omega
    refine DWrap.eq (m := ((2 * n : Nat) : Int)) (by rw [IntKind.wrap_u64]; omega) ?_
    refine DWrap.eq (m := ((2 * n + 2 : Nat) : Int)) (by rw [IntKind.wrap_u64]; omega) ?_
    refine DMake.intro (2 * n + 2) (2 * n + 2) rfl rfl (Nat.le_refl _) (by omega) (by omega) ?_
    intro zb h1 hzb hx1 hs1 hg1
    have hZ := NumB.zeros hg1
    refine DWrap.eq (m := ((2 * n : Nat) : Int)) (by rw [IntKind.wrap_u64]; omega) ?_
    refine DWrap.eq (m := ((2 * n + 1 : Nat) : Int)) (by rw [IntKind.wrap_u64]; omega) ?_
    refine DIdx.intro (2 * n + 1) rfl rfl (by omega) ?_
    refine DStore.num (v := 1) (2 * n + 1) (Nat.zero_add _) hZ (by simp) ?_
    intro h2 hu2 hZ2
    have e : (List.replicate (2 * n + 2) 0).set (2 * n + 1) 1 = trialM p n := by
      unfold trialM; rw [if_pos hp]
      rw [show 2 * n + 2 = (2 * n + 1) + 1 by omega, List.replicate_succ', List.set_append_right _ _ (by simp)]
      simp
    rw [e] at hZ2
    have hl : (trialM p n).length = 2 * n + 2 := by unfold trialM; rw [if_pos hp]; simp
    have hn2 := hZ2.nums
    rw [hl] at hn2
    exact ⟨((hx1.old (Nat.le_refl _)).upd hu2 (by omega)).toExt, hn2, Ty.block hZ2⟩
  · have hp : p ≠ 2 := by simp at hb; omega
    have hT : trialM p n = trialF p (n + p) (n + p) := by unfold trialM; rw [if_neg hp]
    refine DWrap.eq (m := (p : Nat)) (by rw [IntKind.wrap_u64]; omega) ?_
    refine DWrap.eq (m := ((n + p : Nat) : Int)) (by rw [IntKind.wrap_u64]; omega) ?_
    refine DLoop.intro hE (ι := Nat × Nat × Value × List Nat) (fun s => [(7, vnum .u64 s.1), (6, s.2.2.1), (1, vnum .u32 p)]) (fun s h' => Ext h h' ∧ s.1 < 18446744073709551616 ∧ s.1 ≤ s.2.1 ∧ s.2.2.2.length + s.2.1 ≤ n + p ∧ NsOwn h' h.size s.2.2.1 s.2.2.2 ∧ s.2.2.2 ++ trialF p s.2.1 s.1 = trialM p n) (fun s => s.1)
      (n + p, n + p, .slice none 0 0, []) rfl ⟨rfl, rfl, rfl, trivial⟩ ⟨Ext.rfl, by dsimp only; omega, Nat.le_refl _, by simp, Own.nil _ _ _ _, hT.symm⟩ ?_
    rintro ⟨m, k, lv, ds⟩ h1 ⟨hx1, hm, hmk, hlen, ho, he⟩
    dsimp only at hm hmk hlen ho he ⊢
    refine bsp.dec (p := (m : Int) > 0) (fun hgt => ?_) (fun hle => ?_)
    · obtain ⟨k, rfl⟩ : ∃ j, k = j + 1 := ⟨k - 1, by omega⟩
      rw [trialF_snoc, if_neg (by omega)] at he
      refine DWrap.eq (m := (p : Nat)) (by rw [IntKind.wrap_u64]; omega) ?_
      refine ⟨by omega, ?_⟩
      rw [tmod_nat]
      have hmp := Nat.mod_lt m (by omega : 0 < p)
      refine DWrap.eq (m := ((m % p : Nat) : Int)) (by rw [IntKind.wrap_u32']; omega) ?_
      refine ⟨⟨rfl, by decide, rfl, rfl, trivial⟩, ?_⟩
      refine DNew.intro ?_
      intro nb h2 hnb hx2 hs2 hg2
      have hw2 : Whole h2 nb t_uint32 [vnum .u32 (m % p)] := hg2
      refine DRun.append hE (ti := ⟨.slice t_uint32, 1, 24, .slice none 0 0⟩) (ei := ⟨.int .u32, 1, 4, .int .u32 0⟩) rfl rfl rfl (Own.ext hx2 ho) (by decide) (news := [vnum .u32 (m % p)]) rfl hw2.cellsAt (fun u hu => by rw [List.mem_singleton.1 hu]; rfl) (by omega) (by show (ds.length + 1) * 4 ≤ _; omega) (hx1.trans hx2).size ?_
      intro v3 h3 ho3 hg3 _
      have hx3 : Ext h h3 := ((Old.rfl (B := h.size).ext (hx1.trans hx2) (Nat.le_refl _)).grown hg3 (Nat.le_refl _) fun k hk => (Own.block ho hk).1).toExt
      refine DWrap.eq (m := (p : Nat)) (by rw [IntKind.wrap_u64]; omega) ?_
      refine ⟨by omega, ?_⟩
      have hdiv : m / p < m := Nat.div_lt_self (by omega) hp2
      refine DWrap.eq (m := ((m / p : Nat) : Int)) (by
        rw [show Int.tdiv (m : Int) (p : Int) = ((m / p : Nat) : Int) by rw [Int.tdiv_eq_ediv_of_nonneg (by omega)]; exact (Int.natCast_ediv m p).symm, IntKind.wrap_u64]
        have : m / p < 18446744073709551616 := by omega
        generalize m / p = q at *
        omega) ?_
      refine ⟨(m / p, k, v3, ds ++ [m % p]), ⟨rfl, rfl, rfl, trivial⟩, ⟨hx3, by dsimp only; omega, by dsimp only; omega, by dsimp only; simp; omega, ?_, ?_⟩, hdiv⟩
      · show Own h3 h.size t_uint32 1 v3 (ds ++ [m % p]).length ((ds ++ [m % p]).map (vnum .u32))
        simpa using ho3
      · dsimp only
        rw [List.append_assoc]; exact he
    · obtain rfl : m = 0 := by omega
      rw [trialF_snoc, if_pos (.inr rfl), List.append_nil] at he
      rw [← he]
      exact ⟨hx1, ho.nums⟩
end Go.Vc
