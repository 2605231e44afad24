/- modpoly.Factors, and the fixed example that every statement begins with. -/
import Derived.Test.YtnjkjmhhjooijaaDoorMm
namespace Go.Vc
open Go.Proofs

theorem EqD.can {p degree : Nat} (hp : Fld p) {f : List Nat} {L : List (List Nat)} (h : EqD p degree f L) : Can p f → f ≠ [] → ∀ l ∈ L, Can p l ∧ l.length ≤ f.length := by
  induction h with
  | leaf f _ => intro cf _ l hl; rw [List.mem_singleton.1 hl]; exact ⟨cf, Nat.le_refl _⟩
  | node f n L1 L2 hdl hn hit first e1 e2 ih1 ih2 =>
    intro cf hfn l hl
    have cP : Can p (partM p f degree n) := gcdM_can hp _ _
    have hPn : partM p f degree n ≠ [] := fun e => by have := hit.1; rw [e] at this; simp at this
    have lP := hit.2
    have dv := divM_sem hp cf cP hPn
    have dl := dv.ql
    have hdn := divM_ne hp cf cP hPn (by omega)
    rcases List.mem_append.1 hl with hl | hl
    · have := ih1 cP hPn l hl; exact ⟨this.1, by omega⟩
    · have := ih2 dv.cq hdn l hl; exact ⟨this.1, by omega⟩
theorem gcdM_len {p : Nat} (hp : Fld p) {f power : List Nat} (cf : Can p f) (hfn : f ≠ []) (cpw : Can p power) : (gcdM p (subM p (powM p power p f) [0, 1]) f).length ≤ max f.length 2 := by
  have r4 := powM_can hp cpw cf hfn p
  have la : (subM p (powM p power p f) [0, 1]).length ≤ max (powM p power p f).length [0, 1].length := cnf_len _ _ _
  have l2 : [0, 1].length = 2 := rfl
  have := gcdF_len hp f.length _ _ (subM_can hp (powM p power p f) [0, 1]) cf
  unfold gcdM
  omega
theorem ByD.can {p : Nat} (hp : Fld p) {f power : List Nat} {degree : Nat} {l L : List (List Nat)} (h : ByD p f power degree l L) (N : Nat) : Can p f → f ≠ [] → Can p power → 1 ≤ degree → f.length ≤ N → (∀ x ∈ l, Can p x ∧ x.length ≤ N) → ∀ x ∈ L, Can p x ∧ x.length ≤ N := by
  induction h with
  | done f power degree l _ =>
    intro cf _ _ _ hN hl x hx
    rcases List.mem_append.1 hx with hx | hx
    · exact hl x hx
    · split at hx
      · rw [List.mem_singleton.1 hx]; exact ⟨cf, hN⟩
      · exact (List.not_mem_nil hx).elim
  | skip f power degree l L _ _ _ ih =>
    intro cf hfn cpw hd hN hl
    exact ih cf hfn (powM_can hp cpw cf hfn p).1 (by omega) hN hl
  | take f power degree l L1 L hc hP he _ ih =>
    intro cf hfn cpw hd hN hl
    have lP := gcdM_len hp cf hfn cpw
    have cP := gcdM_can hp (subM p (powM p power p f) [0, 1]) f
    have r4 := powM_can hp cpw cf hfn p
    generalize gcdM p (subM p (powM p power p f) [0, 1]) f = P at *
    have hPn : P ≠ [] := fun e => by rw [e] at hP; simp at hP
    have dv := divM_sem hp cf cP hPn
    have dl := dv.ql
    have hdn := divM_ne hp cf cP hPn (by omega)
    have r10 := remM_can hp r4.1 dv.cq hdn
    refine ih dv.cq hdn r10.1 (by omega) (by omega) fun x hx => ?_
    rcases List.mem_append.1 hx with hx | hx
    · exact hl x hx
    · have := he.can hp cP hPn x hx
      exact ⟨this.1, by omega⟩

set_option maxHeartbeats 800000 in
theorem modFactors_yes (h : Heap) (v : Value) (f : List Nat) (p : Nat) (L : List (List Nat)) (hf : Nums .u32 h v f) (hd : Dg f) (hp : Fld p) (hlf : f.length < 10000) (hpr : ∀ h', Ext h h' → Spec E.P f_modular_IsPrime #[vnum .u32 p] h' (fun v h'' => h'' = h' ∧ v = .bool true))
    (hsq : sqfM p (cnf p f.length (co f)) = true) (hM : monicM p (cnf p f.length (co f)) ≠ []) (hB : ByD p (monicM p (cnf p f.length (co f))) (remM p [0, 1] (monicM p (cnf p f.length (co f)))) 1 [] L) (hL : L.length ≤ 12) :
    Spec E.P f_modpoly_Factors #[v, vnum .u32 p] h (fun v' h' => Ext h h' ∧ ∃ w Q, v' = .tuple #[w, .int .i64 0] ∧ Q.Perm L ∧ PsOwn h' h.size w Q ∧ SortedTo Q Q.length ∧ ∀ l ∈ Q, Can p l ∧ l.length ≤ f.length) := by
  have hp2 := hp.two
  refine Spec.intro hE (args := [_, _]) F_modpoly_Factors rfl rfl (Nat.le_of_ble_eq_true rfl) ?_
  refine DNew.intro ?_
  intro pb h1 hpb hx1 hs1 hg1
  have hw1 : Whole h1 pb t_uint32 [vnum .u32 p] := hg1
  refine DLoad.scalar (hw1.get 0 rfl) ?_
  refine (hpr h1 hx1).mono ?_
  rintro _ h1 ⟨rfl, rfl⟩
  refine DLoad.scalar (hw1.get 0 rfl) ?_
  have hnrm := modNormal_any h1 v f p (hf.ext hx1) hd hp.lt (by omega)
  rw [hp.mx] at hnrm
  refine hnrm.mono ?_
  rintro v2 h2 ⟨hx2, hv2⟩
  have cF : Can p (cnf p f.length (co f)) := cnf_can (by omega)
  have lF := cnf_len p f.length (co f)
  generalize cnf p f.length (co f) = F at *
  have hw2 := hw1.ext hx2
  refine DLoad.scalar (hw2.get 0 rfl) ?_
  refine (modsquarefree_any h2 v2 F p hv2 cF hp (by omega)).mono ?_
  rintro _ h3 ⟨hx3, rfl⟩
  rw [hsq]
  have hw3 := hw2.ext hx3
  refine DDraw.intro hE (.take 0 (.take 1 (.take 3 (.one 2 (.one 4 (.take 5 .done)))))) none (Ext h3 ·) (by kernel_rfl) Ext.rfl ?_
  refine QLoad.scalar (fun _ e => e.cell (hw3.get 0 rfl)) ?_
  refine QLoad.scalar (fun _ e => e.cell (hw3.get 0 rfl)) ?_
  refine (modmonic_T h3 v2 F p (hv2.ext hx3) cF hp (by omega)).mono ?_
  rintro v4 h4 ⟨hx4, hv4, tv4⟩
  refine ⟨hx4, ?_⟩
  have cM := monicM_can hp F
  have lM := monicM_len (p := p) F
  have r0 := remM_can hp (x_can hp) cM hM
  have hLc := hB.can hp f.length cM hM r0.1 (Nat.le_refl _) (by omega) (fun x hx => (List.not_mem_nil hx).elim)
  refine (modbyDegree_any p hp hB cM hM (by omega) (by omega) h4 v4 ⟨hv4, tv4⟩).mono ?_
  rintro v5 h5 ⟨hx5, ho5⟩
  refine ⟨hx4.trans hx5, ?_⟩
  have hx15 := hx2.trans (hx3.trans (hx4.trans hx5))
  have s04 := (hx1.trans (hx2.trans (hx3.trans hx4))).size
  refine (SortFunc_any h5 h4.size v5 L pb p ho5 (fun l hl => ⟨(hLc l hl).1, by have := (hLc l hl).2; omega⟩) hp (hx15.at hw1) hL).mono ?_
  rintro _ h6 ⟨hg6, Q, hpm, ho6, hs6⟩
  have hx6 : Ext h h6 := ((Old.rfl (B := h.size).ext (hx1.trans hx15) (Nat.le_refl _)).grown hg6 (Nat.le_refl _) fun k hk => Nat.le_trans s04 (ho5.block hk).1).toExt
  exact ⟨hx6, v5, Q, rfl, hpm, ho6.base s04, by rw [hpm.length_eq]; exact hs6, fun l hl => hLc l (hpm.mem_iff.1 hl)⟩

theorem isPrime5 (h : Heap) : Spec E.P f_modular_IsPrime #[vnum .u32 5] h (fun v h'' => h'' = h ∧ v = .bool true) :=
  (isPrime_div h 5 2 (by decide) (by decide) (by decide) (by decide) (fun i hi => by
    match i, hi with
    | 0, _ => decide
    | 1, _ => decide)).mono fun _ _ hh => hh
theorem can5 (a b : Nat) (ha : a < 5) (hb : b < 5) (hb0 : b ≠ 0) : Can 5 [a, b] := ⟨fun d hd => by simp at hd; omega, fun _ => hb0⟩

set_option maxHeartbeats 1600000 in
theorem fit_any (h : Heap) : Spec E.P f_cylinderlaw10_fit #[] h (fun v h' => Ext h h' ∧ v = .bool true) := by
  refine Spec.intro hE (args := []) F_cylinderlaw10_fit rfl rfl (Nat.le_of_ble_eq_true rfl) ?_
  refine ⟨⟨rfl, by decide, rfl, rfl, rfl, rfl, rfl, rfl, trivial⟩, ?_⟩
  refine DNew.intro ?_
  intro fb h1 hfb hx1 hs1 hg1
  have hf : Nums .u32 h1 (.slice (some ⟨fb, 0, none⟩) 3 3) [1, 0, 1] := Whole.nums (e := t_uint32) hg1 rfl
  have e1 : cnf 5 [1, 0, 1].length (co [1, 0, 1]) = [1, 0, 1] := by decide
  refine (modFactors_yes h1 _ [1, 0, 1] 5 [[2, 1], [3, 1]] hf (fun d hd => by simp at hd; omega) fld5 (by decide) (fun h' _ => isPrime5 h') (by rw [e1]; decide) (by rw [e1]; decide) (by rw [e1, fitMonic]; exact fitBy) (by decide)).mono ?_
  rintro _ h2 ⟨hx2, w, Q, rfl, hpm, ho, hs, -⟩
  have hQ : Q = [[2, 1], [3, 1]] := by
    have hl := hpm.length_eq
    match Q, hl, hpm, hs with
    | [a, b], _, hpm, hs =>
      have m1 : [2, 1] ∈ [a, b] := hpm.mem_iff.2 (by simp)
      have m2 : [3, 1] ∈ [a, b] := hpm.mem_iff.2 (by simp)
      simp only [List.mem_cons, List.not_mem_nil, or_false] at m1 m2
      have hab := hs 0 1 (by decide) (by simp) (by simp)
      rcases m1 with m1 | m1 <;> rcases m2 with m2 | m2
      · rw [← m1] at m2; cases m2
      · rw [← m1, ← m2]
      · rw [← m1, ← m2] at hab
        exact absurd hab (by decide)
      · rw [← m1] at m2; cases m2
  subst hQ
  obtain ⟨g, cap, rfl⟩ : ∃ g cap, w = .slice (some ⟨g, 0, none⟩) 2 cap := by
    obtain ⟨xs, -, -, ho⟩ := ho
    obtain ⟨g, cap, hv, -⟩ := ho.cells (by decide)
    exact ⟨g, cap, hv⟩
  obtain ⟨w0, hw0, hc0⟩ := ho.get (j := 0) (by decide)
  obtain ⟨w1, hw1, hc1⟩ := ho.get (j := 1) (by decide)
  refine DIdx.intro 0 rfl rfl (by decide) ?_
  refine DLoad.scalar hc0 ?_
  refine ⟨⟨rfl, by decide, rfl, rfl, rfl, rfl, trivial⟩, ?_⟩
  refine DNew.intro ?_
  intro b3 h3 hb3 hx3 hs3 hg3
  have n3 : Nums .u32 h3 (.slice (some ⟨b3, 0, none⟩) 2 2) [2, 1] := Whole.nums (e := t_uint32) hg3 rfl
  have c21 := can5 2 1 (by decide) (by decide) (by decide)
  have c31 := can5 3 1 (by decide) (by decide) (by decide)
  refine (modSame_any h3 w0 _ [2, 1] [2, 1] 5 (hw0.1.ext hx3) n3 (c21.dgp fld5) (c21.dgp fld5) (by decide) (by decide) (by decide)).mono ?_
  rintro _ h4 ⟨hx4, rfl⟩
  rw [decide_eq_true rfl]
  have hx24 := hx3.trans hx4
  refine DIdx.intro 1 rfl rfl (by decide) ?_
  refine DLoad.scalar (hx24.cell hc1) ?_
  refine ⟨⟨rfl, by decide, rfl, rfl, rfl, rfl, trivial⟩, ?_⟩
  refine DNew.intro ?_
  intro b5 h5 hb5 hx5 hs5 hg5
  have n5 : Nums .u32 h5 (.slice (some ⟨b5, 0, none⟩) 2 2) [3, 1] := Whole.nums (e := t_uint32) hg5 rfl
  refine (modSame_any h5 w1 _ [3, 1] [3, 1] 5 (hw1.1.ext (hx24.trans hx5)) n5 (c31.dgp fld5) (c31.dgp fld5) (by decide) (by decide) (by decide)).mono ?_
  rintro _ h6 ⟨hx6, rfl⟩
  rw [decide_eq_true rfl]
  have hx26 := hx24.trans (hx5.trans hx6)
  refine DIdx.intro 1 rfl rfl (by decide) ?_
  refine DLoad.scalar (hx26.cell hc1) ?_
  refine (modDegree_any h6 w1 [3, 1] 5 (hw1.1.ext hx26) (c31.dgp fld5) (by decide) (by decide)).mono ?_
  rintro _ h7 ⟨rfl, rfl⟩
  refine ⟨hx1.trans (hx2.trans hx26), ?_⟩
  show Value.bool _ = Value.bool true
  congr 1
end Go.Vc
