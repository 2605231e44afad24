/- modpoly: remainders, greatest common divisors, powers: contracts. -/
import Derived.Test.YtnjkjmhhjooijaaDoorMh
import Derived.Test.YtnjkjmhhjooijaaDoorMr
import Derived.Laws.Bits64b
namespace Go.Vc
open Go.Proofs

theorem modremainder_T (h : Heap) (v w : Value) (f g : List Nat) (p : Nat) (hf : Nums .u32 h v f) (hg : Nums .u32 h w g) (cf : Can p f) (cg : Can p g) (hp : Fld p) (hgn : g ≠ []) (hlf : f.length < 1000000) (hlg : g.length < 1000000) :
    Spec E.P f_modpoly_remainder #[v, w, vnum .u32 p] h (fun v' h' => Ext h h' ∧ Nums .u32 h' v' (remM p f g) ∧ Ty h' v') := by
  refine Spec.intro hE (args := [_, _, _]) F_modpoly_remainder rfl rfl (Nat.le_of_ble_eq_true rfl) ?_
  refine (moddivide_T h v w f g p hf hg cf cg hp hgn hlf hlg).mono ?_
  rintro _ h1 ⟨hx1, q, r, rfl, hq, hr, tq, tr⟩
  exact ⟨hx1, hr, tr⟩
theorem modremainder_any (h : Heap) (v w : Value) (f g : List Nat) (p : Nat) (hf : Nums .u32 h v f) (hg : Nums .u32 h w g) (cf : Can p f) (cg : Can p g) (hp : Fld p) (hgn : g ≠ []) (hlf : f.length < 1000000) (hlg : g.length < 1000000) :
    Spec E.P f_modpoly_remainder #[v, w, vnum .u32 p] h (fun v' h' => Ext h h' ∧ Nums .u32 h' v' (remM p f g)) :=
  (modremainder_T h v w f g p hf hg cf cg hp hgn hlf hlg).mono fun _ _ hh => ⟨hh.1, hh.2.1⟩

theorem modScaleM_T (h : Heap) (v : Value) (f : List Nat) (c p : Nat) (hf : Nums .u32 h v f) (cf : Can p f) (hp : Fld p) (hc : c < 4294967296) (hlen : f.length < 1000000) :
    Spec E.P f_modpoly_Scale #[v, vnum .u32 c, vnum .u32 p] h (fun v' h' => Ext h h' ∧ Nums .u32 h' v' (scaleM p f c) ∧ Ty h' v') := by
  have := modScale_T h v f c p hf (cf.dgp hp) hc hp.lt (by omega)
  rw [hp.mx] at this
  exact this
theorem modScaleM (h : Heap) (v : Value) (f : List Nat) (c p : Nat) (hf : Nums .u32 h v f) (cf : Can p f) (hp : Fld p) (hc : c < 4294967296) (hlen : f.length < 1000000) :
    Spec E.P f_modpoly_Scale #[v, vnum .u32 c, vnum .u32 p] h (fun v' h' => Ext h h' ∧ Nums .u32 h' v' (scaleM p f c)) :=
  (modScaleM_T h v f c p hf cf hp hc hlen).mono fun _ _ hh => ⟨hh.1, hh.2.1⟩

theorem modmonic_T (h : Heap) (v : Value) (f : List Nat) (p : Nat) (hf : Nums .u32 h v f) (cf : Can p f) (hp : Fld p) (hlf : f.length < 1000000) :
    Spec E.P f_modpoly_monic #[v, vnum .u32 p] h (fun v' h' => Ext h h' ∧ Nums .u32 h' v' (monicM p f) ∧ Ty h' v') := by
  have hf0 := hf
  obtain ⟨a, cap, rfl, hcap, -⟩ := hf
  have hp2 := hp.two
  refine Spec.intro hE (args := [_, _]) F_modpoly_monic rfl rfl (Nat.le_of_ble_eq_true rfl) ?_
  refine bsp.dec (p := (f.length : Int) = 0) (fun hz => ?_) (fun hz => ?_)
  · have : f = [] := List.eq_nil_of_length_eq_zero (by omega)
    subst this
    exact ⟨Ext.rfl, Nums.nil _ _, Ty.nil _⟩
  have hfn : f ≠ [] := fun e => hz (by rw [e]; rfl)
  have hld := cf.lead (by omega)
  have hlt := cf.co_lt (by omega) (f.length - 1)
  have hinv := hp.invM (a := co f (f.length - 1)) (by rw [Nat.mod_eq_of_lt hlt]; exact hld)
  obtain ⟨b, off, rfl, hcell⟩ := hf0.at (i := f.length - 1) (by omega)
  refine DWrap.is ((f.length - 1 : Nat) : Int) (by omega) (by omega) ?_
  refine DIdx.intro (f.length - 1) rfl rfl (by omega) ?_
  refine DLoad.scalar hcell ?_
  have hpl := hp.lt
  refine (modInverse_any h _ p (by omega) hp2 hpl ⟨_, hinv.1⟩).mono ?_
  rintro _ h ⟨rfl, rfl⟩
  refine (modScaleM_T h _ f _ p hf0 cf hp (by omega) hlf).mono ?_
  rintro v1 h1 ⟨hx1, hv1, ht1⟩
  have e : monicM p f = scaleM p f (invM (co f (f.length - 1)) p) := by unfold monicM; rw [if_neg hfn]
  rw [e]
  exact ⟨hx1, hv1, ht1⟩
theorem modmonic_any (h : Heap) (v : Value) (f : List Nat) (p : Nat) (hf : Nums .u32 h v f) (cf : Can p f) (hp : Fld p) (hlf : f.length < 1000000) :
    Spec E.P f_modpoly_monic #[v, vnum .u32 p] h (fun v' h' => Ext h h' ∧ Nums .u32 h' v' (monicM p f)) :=
  (modmonic_T h v f p hf cf hp hlf).mono fun _ _ hh => ⟨hh.1, hh.2.1⟩

theorem gcdF_step {p n : Nat} {f g : List Nat} (hg : g ≠ []) : gcdF p (n + 1) f g = gcdF p n g (remM p f g) := by
  show (if g = [] then _ else _) = _
  rw [if_neg hg]
theorem gcdF_nil {p : Nat} {f : List Nat} : ∀ n, gcdF p n f [] = monicM p f
  | 0 => rfl
  | n + 1 => by show (if [] = [] then _ else _) = _; rw [if_pos rfl]

theorem modgcd_T (h : Heap) (v w : Value) (f g : List Nat) (p : Nat) (hf : Nums .u32 h v f) (hg : Nums .u32 h w g) (cf : Can p f) (cg : Can p g) (hp : Fld p) (hlf : f.length < 1000000) (hlg : g.length < 1000000) :
    Spec E.P f_modpoly_gcd #[v, w, vnum .u32 p] h (fun v' h' => Ext h h' ∧ Nums .u32 h' v' (gcdM p f g) ∧ Ty h' v') := by
  refine Spec.intro hE (args := [_, _, _]) F_modpoly_gcd rfl rfl (Nat.le_of_ble_eq_true rfl) ?_
  refine DLoop.intro hE (ι := Value × Value × List Nat × List Nat × Nat) (fun s => [(0, s.1), (1, s.2.1), (2, vnum .u32 p)])
    (fun s h' => Ext h h' ∧ Nums .u32 h' s.1 s.2.2.1 ∧ Nums .u32 h' s.2.1 s.2.2.2.1 ∧ Can p s.2.2.1 ∧ Can p s.2.2.2.1 ∧ s.2.2.1.length < 1000000 ∧ s.2.2.2.1.length < 1000000 ∧ s.2.2.2.1.length ≤ s.2.2.2.2 ∧ gcdF p s.2.2.2.2 s.2.2.1 s.2.2.2.1 = gcdM p f g) (fun s => s.2.2.2.2) (v, w, f, g, g.length) rfl ⟨rfl, rfl, rfl, trivial⟩
    ⟨Ext.rfl, hf, hg, cf, cg, hlf, hlg, Nat.le_refl _, rfl⟩ ?_
  rintro ⟨v1, w1, F, G, n⟩ h1 ⟨hx1, hF, hG, cF, cG, lF, lG, hn, he⟩
  dsimp only at hF hG cF cG lF lG hn he ⊢
  have hG0 := hG
  obtain ⟨b, cap2, rfl, hcap2, -⟩ := hG
  refine bsp.dec (p := (G.length : Int) > 0) (fun hgt => ?_) (fun hle => ?_)
  · have hGn : G ≠ [] := fun e => by rw [e] at hgt; simp at hgt
    obtain ⟨k, rfl⟩ : ∃ k, n = k + 1 := ⟨n - 1, by omega⟩
    refine (modremainder_any h1 v1 _ F G p hF hG0 cF cG hp hGn lF lG).mono ?_
    rintro v2 h2 ⟨hx2, hv2⟩
    have hr := remM_can hp cF cG hGn
    refine ⟨(_, v2, G, remM p F G, k), ⟨rfl, rfl, rfl, trivial⟩, ⟨hx1.trans hx2, hG0.ext hx2, hv2, cG, hr.1, lG, by dsimp only; omega, by dsimp only; omega, ?_⟩, by dsimp only; omega⟩
    dsimp only
    rw [← he, gcdF_step hGn]
  · have hGn : G = [] := List.eq_nil_of_length_eq_zero (by omega)
    subst hGn
    rw [gcdF_nil] at he
    refine (modmonic_T h1 v1 F p hF cF hp lF).mono ?_
    rintro v2 h2 ⟨hx2, hv2, ht2⟩
    rw [he] at hv2
    exact ⟨hx1.trans hx2, hv2, ht2⟩
theorem modgcd_any (h : Heap) (v w : Value) (f g : List Nat) (p : Nat) (hf : Nums .u32 h v f) (hg : Nums .u32 h w g) (cf : Can p f) (cg : Can p g) (hp : Fld p) (hlf : f.length < 1000000) (hlg : g.length < 1000000) :
    Spec E.P f_modpoly_gcd #[v, w, vnum .u32 p] h (fun v' h' => Ext h h' ∧ Nums .u32 h' v' (gcdM p f g)) :=
  (modgcd_T h v w f g p hf hg cf cg hp hlf hlg).mono fun _ _ hh => ⟨hh.1, hh.2.1⟩

theorem derivM_can {p : Nat} (hp : Fld p) (f : List Nat) : Can p (derivM p f) := cnf_can (by have := hp.two; omega)
theorem subM_can {p : Nat} (hp : Fld p) (f g : List Nat) : Can p (subM p f g) := cnf_can (by have := hp.two; omega)
theorem addM_can {p : Nat} (hp : Fld p) (f g : List Nat) : Can p (addM p f g) := cnf_can (by have := hp.two; omega)
theorem mulM_can {p : Nat} (hp : Fld p) (f g : List Nat) : Can p (mulM p f g) := cnf_can (by have := hp.two; omega)
theorem scaleM_can {p : Nat} (hp : Fld p) (f : List Nat) (c : Nat) : Can p (scaleM p f c) := cnf_can (by have := hp.two; omega)
theorem monicM_can {p : Nat} (hp : Fld p) (f : List Nat) : Can p (monicM p f) := by
  unfold monicM; split
  · exact Can.nil p
  · exact scaleM_can hp _ _
theorem monicM_len {p : Nat} (f : List Nat) : (monicM p f).length ≤ f.length := by
  unfold monicM; split
  · simp
  · exact cnf_len _ _ _
theorem gcdF_can {p : Nat} (hp : Fld p) : ∀ n f g, Can p (gcdF p n f g)
  | 0, f, _ => monicM_can hp f
  | n + 1, f, g => by
    show Can p (if g = [] then monicM p f else gcdF p n g (remM p f g))
    split
    · exact monicM_can hp f
    · exact gcdF_can hp n _ _
theorem gcdM_can {p : Nat} (hp : Fld p) (f g : List Nat) : Can p (gcdM p f g) := gcdF_can hp _ _ _

theorem modSubM (h : Heap) (v w : Value) (f g : List Nat) (p : Nat) (hf : Nums .u32 h v f) (hg : Nums .u32 h w g) (cf : Can p f) (cg : Can p g) (hp : Fld p) (hlf : f.length < 1000000) (hlg : g.length < 1000000) :
    Spec E.P f_modpoly_Sub #[v, w, vnum .u32 p] h (fun v' h' => Ext h h' ∧ Nums .u32 h' v' (subM p f g)) := by
  have := modSub2_any h v w f g p hf hg (cf.dgp hp) (cg.dgp hp) hp.lt (by omega) (by omega)
  rw [hp.mx] at this
  exact this
theorem modAddM (h : Heap) (v w : Value) (f g : List Nat) (p : Nat) (hf : Nums .u32 h v f) (hg : Nums .u32 h w g) (cf : Can p f) (cg : Can p g) (hp : Fld p) (hlf : f.length < 1000000) (hlg : g.length < 1000000) :
    Spec E.P f_modpoly_Add #[v, w, vnum .u32 p] h (fun v' h' => Ext h h' ∧ Nums .u32 h' v' (addM p f g)) := by
  have := modAdd2_any h v w f g p hf hg (cf.dgp hp) (cg.dgp hp) hp.lt (by omega) (by omega)
  rw [hp.mx] at this
  exact this
theorem modMulM (h : Heap) (v w : Value) (f g : List Nat) (p : Nat) (hf : Nums .u32 h v f) (hg : Nums .u32 h w g) (cf : Can p f) (cg : Can p g) (hp : Fld p) (hlf : f.length < 1000000) (hlg : g.length < 1000000) :
    Spec E.P f_modpoly_Mul #[v, w, vnum .u32 p] h (fun v' h' => Ext h h' ∧ Nums .u32 h' v' (mulM p f g)) := by
  have := modMul2_any h v w f g p hf hg (cf.dgp hp) (cg.dgp hp) hp.lt hlf hlg
  rw [hp.mx] at this
  exact this

def sqfM (p : Nat) (f : List Nat) : Bool := decide ((gcdM p f (derivM p f)).length = 1)
theorem modsquarefree_any (h : Heap) (v : Value) (f : List Nat) (p : Nat) (hf : Nums .u32 h v f) (cf : Can p f) (hp : Fld p) (hlf : f.length < 1000000) :
    Spec E.P f_modpoly_squarefree #[v, vnum .u32 p] h (fun v' h' => Ext h h' ∧ v' = .bool (sqfM p f)) := by
  refine Spec.intro hE (args := [_, _]) F_modpoly_squarefree rfl rfl (Nat.le_of_ble_eq_true rfl) ?_
  have hd := modDeriv_any h v f p hf (cf.dgp hp) hp.lt (by omega)
  rw [hp.mx] at hd
  refine hd.mono ?_
  rintro v1 h1 ⟨hx1, hv1⟩
  have hdl : (derivM p f).length ≤ f.length := Nat.le_trans (cnf_len _ _ _) (Nat.sub_le _ _)
  refine (modgcd_any h1 v v1 f (derivM p f) p (hf.ext hx1) hv1 cf (derivM_can hp f) hp hlf (by omega)).mono ?_
  rintro v2 h2 ⟨hx2, hv2⟩
  obtain ⟨a, cap, rfl, -⟩ := hv2
  refine ⟨hx1.trans hx2, ?_⟩
  show Value.bool _ = Value.bool _
  congr 1
  unfold sqfM
  rw [Bool.eq_iff_iff]
  simp only [beq_iff_eq, decide_eq_true_eq]
  omega

theorem one_can {p : Nat} (hp : Fld p) : Can p [1] := ⟨fun d hd => by rw [List.mem_singleton.1 hd]; exact hp.two, fun _ => by decide⟩
theorem powF_zero {p : Nat} {g : List Nat} : ∀ k r s, powF p g k 0 r s = r
  | 0, _, _ => rfl
  | k + 1, _, _ => by show (if 0 = 0 then _ else _) = _; rw [if_pos rfl]
theorem powF_succ {p k n : Nat} {g r s : List Nat} (hn : n ≠ 0) : powF p g (k + 1) n r s = powF p g k (n / 2) (if n % 2 = 0 then r else remM p (mulM p r s) g) (if n / 2 = 0 then s else remM p (mulM p s s) g) := by
  show (if n = 0 then _ else _) = _
  rw [if_neg hn]

theorem bits1 (n : Nat) (h : n < 18446744073709551616) : bits .and .u64 (n : Int) 1 = ((n % 2 : Nat) : Int) := by
  have := bits_and_u64_nat n 1 h (by decide)
  rw [Nat.and_one_is_mod] at this
  exact this
theorem shr1 (n : Nat) : (n : Int).fdiv (2 ^ min (Int.toNat 1) IntKind.u64.bits) = ((n / 2 : Nat) : Int) := by
  have e : (2 : Int) ^ min (Int.toNat 1) IntKind.u64.bits = 2 := by decide
  rw [e, Int.fdiv_eq_ediv_of_nonneg _ (by decide)]
  exact (Int.natCast_ediv n 2).symm
/-- a block just made -/
theorem Whole.nums {h : Heap} {b n : Nat} {e : TypeId} {ds : List Nat} (hw : Whole h b e (ds.map (vnum .u32))) (hn : n = ds.length) : Nums .u32 h (.slice (some ⟨b, 0, none⟩) n n) ds := by
  subst hn
  exact ⟨_, _, rfl, ⟨Nat.le_refl _, fun e => (by cases e)⟩, fun _ => ⟨b, 0, rfl, fun j hj => by rw [Nat.zero_add]; exact hw.get j (by simp [hj])⟩⟩

set_option maxHeartbeats 800000 in
theorem modpowMod_T (h : Heap) (v w : Value) (f g : List Nat) (n p : Nat) (hf : Nums .u32 h v f) (hg : Nums .u32 h w g) (cf : Can p f) (cg : Can p g) (hp : Fld p) (hgn : g ≠ []) (hn : n < 18446744073709551616) (hlf : f.length < 100000) (hlg : g.length < 100000) :
    Spec E.P f_modpoly_powMod #[v, vnum .u64 n, w, vnum .u32 p] h (fun v' h' => Ext h h' ∧ Nums .u32 h' v' (powM p f n g) ∧ Ty h' v') := by
  refine Spec.intro hE (args := [_, _, _, _]) F_modpoly_powMod rfl rfl (Nat.le_of_ble_eq_true rfl) ?_
  refine ⟨⟨rfl, by decide, rfl, rfl, trivial⟩, ?_⟩
  refine DNew.intro ?_
  intro ob h1 hob hx1 hs1 hg1
  have hone : Nums .u32 h1 (.slice (some ⟨ob, 0, none⟩) 1 1) [1] := Whole.nums (e := t_uint32) hg1 rfl
  refine (modremainder_T h1 _ w [1] g p hone (hg.ext hx1) (one_can hp) cg hp hgn (by decide) (by omega)).mono ?_
  rintro v1 h2 ⟨hx2, hv1, tv1⟩
  refine (modremainder_any h2 v w f g p (hf.ext (hx1.trans hx2)) (hg.ext (hx1.trans hx2)) cf cg hp hgn (by omega) (by omega)).mono ?_
  rintro v2 h3 ⟨hx3, hv2⟩
  have r1 := remM_can hp (one_can hp) cg hgn
  have r2 := remM_can hp cf cg hgn
  refine DLoop.intro hE (ι := Nat × Nat × Value × Value × List Nat × List Nat) (fun s => [(1, vnum .u64 s.1), (9, s.2.2.1), (10, s.2.2.2.1), (2, w), (3, vnum .u32 p)])
    (fun s h' => Ext h h' ∧ s.1 < 18446744073709551616 ∧ s.1 ≤ s.2.1 ∧ Nums .u32 h' s.2.2.1 s.2.2.2.2.1 ∧ Nums .u32 h' s.2.2.2.1 s.2.2.2.2.2 ∧ Can p s.2.2.2.2.1 ∧ Can p s.2.2.2.2.2 ∧ s.2.2.2.2.1.length < 100000 ∧ s.2.2.2.2.2.length < 100000 ∧ Ty h' s.2.2.1 ∧ powF p g s.2.1 s.1 s.2.2.2.2.1 s.2.2.2.2.2 = powM p f n g) (fun s => s.1)
    (n, n, v1, v2, remM p [1] g, remM p f g) rfl ⟨rfl, rfl, rfl, rfl, rfl, trivial⟩ ⟨hx1.trans (hx2.trans hx3), hn, Nat.le_refl _, hv1.ext hx3, hv2, r1.1, r2.1, by dsimp only; omega, by dsimp only; omega, tv1.ext hx3, rfl⟩ ?_
  clear hv1 hv2 r1 r2
  rintro ⟨m, k, rv, sv, r, s⟩ h4 ⟨hx4, hm, hmk, hr, hs, cr, cs, lr, ls, ht, he⟩
  dsimp only at hm hmk hr hs cr cs lr ls ht he ⊢
  refine bsp.dec (p := (m : Int) > 0) (fun hgt => ?_) (fun hle => ?_)
  · obtain ⟨k, rfl⟩ : ∃ j, k = j + 1 := ⟨k - 1, by omega⟩
    rw [powF_succ (by omega)] at he
    have cM : ∀ a b, Can p (mulM p a b) := fun a b => mulM_can hp a b
    have lM : ∀ a b : List Nat, (mulM p a b).length ≤ a.length + b.length := fun a b => cnf_len _ _ _
    refine DJoin.cut hE (ι := Value × List Nat) (fun q => [(1, vnum .u64 m), (9, q.1), (10, sv), (2, w), (3, vnum .u32 p)]) (fun q h' => Ext h4 h' ∧ Nums .u32 h' q.1 q.2 ∧ Ty h' q.1 ∧ q.2 = (if m % 2 = 0 then r else remM p (mulM p r s) g)) rfl ?_ ?_
    · refine bsp.intro (b := (bits .and .u64 (m : Int) 1 != 0)) (fun hb => ?_) (fun hb => ?_) <;> rw [bits1 m hm] at hb
      · have hb' : m % 2 ≠ 0 := by simp at hb; omega
        refine (modMulM h4 rv sv r s p hr hs cr cs hp (by omega) (by omega)).mono ?_
        rintro v5 h5 ⟨hx5, hv5⟩
        have := lM r s
        refine (modremainder_T h5 v5 w _ g p hv5 (hg.ext (hx4.trans hx5)) (cM r s) cg hp hgn (by omega) (by omega)).mono ?_
        rintro v6 h6 ⟨hx6, hv6, tv6⟩
        exact ⟨(v6, remM p (mulM p r s) g), ⟨rfl, rfl, rfl, rfl, rfl, trivial⟩, hx5.trans hx6, hv6, tv6, by rw [if_neg hb']⟩
      · have hb' : m % 2 = 0 := by simp at hb; omega
        exact ⟨(rv, r), ⟨rfl, rfl, rfl, rfl, rfl, trivial⟩, Ext.rfl, hr, ht, by rw [if_pos hb']⟩
    rintro ⟨rv', r'⟩ h5 ⟨hx45, hr', ht', hre⟩
    dsimp only at hr' ht' hre ⊢
    rw [← hre] at he
    have cr' : Can p r' ∧ r'.length < 100000 := by
      rw [hre]; split
      · exact ⟨cr, lr⟩
      · have := remM_can hp (cM r s) cg hgn
        exact ⟨this.1, by omega⟩
    refine ⟨by omega, ?_⟩
    rw [shr1 m]
    refine bsp.dec (p := ((m / 2 : Nat) : Int) > 0) (fun hgt2 => ?_) (fun hle2 => ?_)
    · refine (modMulM h5 sv sv s s p (hs.ext hx45) (hs.ext hx45) cs cs hp (by omega) (by omega)).mono ?_
      rintro v6 h6 ⟨hx6, hv6⟩
      have := lM s s
      refine (modremainder_any h6 v6 w _ g p hv6 (hg.ext (hx4.trans (hx45.trans hx6))) (cM s s) cg hp hgn (by omega) (by omega)).mono ?_
      rintro v7 h7 ⟨hx7, hv7⟩
      have r7 := remM_can hp (cM s s) cg hgn
      rw [if_neg (by omega)] at he
      exact ⟨(m / 2, k, rv', v7, r', remM p (mulM p s s) g), ⟨rfl, rfl, rfl, rfl, rfl, trivial⟩, ⟨hx4.trans (hx45.trans (hx6.trans hx7)), by dsimp only; omega, by dsimp only; omega, hr'.ext (hx6.trans hx7), hv7, cr'.1, r7.1, cr'.2, by dsimp only; omega, ht'.ext (hx6.trans hx7), he⟩, by dsimp only; omega⟩
    · rw [if_pos (by omega)] at he
      exact ⟨(m / 2, k, rv', sv, r', s), ⟨rfl, rfl, rfl, rfl, rfl, trivial⟩, ⟨hx4.trans hx45, by dsimp only; omega, by dsimp only; omega, hr', hs.ext hx45, cr'.1, cs, cr'.2, ls, ht', he⟩, by dsimp only; omega⟩
  · obtain rfl : m = 0 := by omega
    rw [powF_zero] at he
    rw [he] at hr
    exact ⟨hx4, hr, ht⟩
theorem modpowMod_any (h : Heap) (v w : Value) (f g : List Nat) (n p : Nat) (hf : Nums .u32 h v f) (hg : Nums .u32 h w g) (cf : Can p f) (cg : Can p g) (hp : Fld p) (hgn : g ≠ []) (hn : n < 18446744073709551616) (hlf : f.length < 100000) (hlg : g.length < 100000) :
    Spec E.P f_modpoly_powMod #[v, vnum .u64 n, w, vnum .u32 p] h (fun v' h' => Ext h h' ∧ Nums .u32 h' v' (powM p f n g)) :=
  (modpowMod_T h v w f g n p hf hg cf cg hp hgn hn hlf hlg).mono fun _ _ hh => ⟨hh.1, hh.2.1⟩
end Go.Vc
