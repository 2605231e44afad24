/- slices.Clone, slices.DeleteFunc with the closure of reducta. -/
import Derived.Test.YtjjcncedfphnhaaDel
namespace Go.Vc
open Go.Proofs

theorem eqNil (x y : Operand) (t : TypeId) (e : TypeId) (ht : E.P.underlying t = some (.slice e)) (a : Option Addr) (n c : Nat) {K : Value → Prop} (hk : K (.bool a.isNone)) : DPure E (do eqGuard .eql t x y (.slice a n c) (.slice none 0 0); binOp .eql t (.slice a n c) (.slice none 0 0)) K := by
  refine DPure.intro _ (fun w => ?_) hk
  have h1 : (eqGuard .eql t x y (.slice a n c) (.slice none 0 0)).run E.P w = .ok () w := by simp [eqGuard]
  rw [Sem.run_bind, h1, Result.andThen_ok]
  exact Lib.run_eql_slice_nil w t e a n c 0 0 ht

theorem Clone_any (h : Heap) (v : Value) (f : Pol) (hf : PolyAt h v f) (hlen : f.length < 10000000) :
    Spec E.P f_slices_Clone #[v] h (fun v' h' => Ext h h' ∧ OwnP h' h.size v' f) := by
  have hf0 := hf
  obtain ⟨a, cap, rfl, ⟨hcap, hnil, -⟩, hfA⟩ := hf
  refine Spec.intro hE (args := [_]) F_slices_Clone rfl rfl (Nat.le_of_ble_eq_true rfl) ?_
  refine eqNil _ _ t_checkpoly_Poly t_checkpoly_Term (by kernel_rfl) _ _ _ ?_
  refine bsp.intro (fun hn => ?_) (fun hn => ?_)
  · have ha : a = none := by simpa using hn
    have hc := hnil ha
    have hf1 : f = [] := List.eq_nil_of_length_eq_zero (by omega)
    subst hf1
    exact ⟨Ext.rfl, OwnP.nil _ _⟩
  · refine ⟨⟨rfl, by decide, trivial⟩, ?_⟩
    refine DNew.intro ?_
    intro b h1 hb hx1 hs1 hg1
    have ho1 : OwnP h1 h.size (.slice (some ⟨b, 0, none⟩) 0 0) [] := by
      refine ⟨[], TermsIn.nil _, ?_⟩
      have := Own.made (n := 0) (cap := 0) (size := 6) (base := h.size) (cur := []) (by omega) hg1 (Nat.le_refl _) (by omega) rfl
      simpa using this
    refine DRun.poly (ti := ⟨.slice t_checkpoly_Term, 1, 24, .slice none 0 0⟩) rfl rfl ho1 (hf0.ext hx1) rfl (by simp; omega) hx1.size ?_
    intro v2 h2 ho2 hgr2 hu2
    refine ⟨((Old.rfl (B := h.size).ext hx1 (Nat.le_refl _)).grown hgr2 (Nat.le_refl _) fun k hk => (ho1.block hk).1).toExt, ?_⟩
    simpa using ho2

def isDel (v : Nat) (d : Int) (t : Term1) : Bool := decide ((t.2.getD v 0 : Int) = d)

theorem del_any (h : Heap) (cs : List Value) (t : Term1) (lb db : Nat) (v : Nat) (d : Int) (hv : v < 4) (ht : TermAt h cs t) (hl : Cell1 h lb t_int (.int .i64 ((v : Int) + 1))) (hd : Cell1 h db t_int (.int .i64 d)) :
    Spec E.P f_checkpoly_reducta_1 #[.agg cs.toArray, .pointer (some ⟨lb, 0, none⟩), .pointer (some ⟨db, 0, none⟩)] h (fun v' h' => Ext h h' ∧ v' = .bool (isDel v d t)) := by
  have hvl : v < t.2.length := by have := ht.1; omega
  refine Spec.intro hE (args := [_, _, _]) F_checkpoly_reducta_1 rfl rfl (Nat.le_of_ble_eq_true rfl) ?_
  refine DNew.intro ?_
  intro b h1 hb hx1 hs1 hg1
  have hw : Whole h1 b t_checkpoly_Term cs := hg1
  have hl1 : Cell1 h1 lb t_int _ := hx1.at hl
  have hd1 : Cell1 h1 db t_int _ := hx1.at hd
  refine DDraw.intro hE (.take 2 (.take 0 (.take 1 (.take 3 (.take 4 (.take 5 (.take 6 (.take 7 .done)))))))) none (· = h1) (by kernel_rfl) rfl ?_
  refine QLoad.scalar (fun _ e => e ▸ hl1.get) ?_
  refine DWrap.is (v : Int) (by omega) (by omega) ?_
  refine DIdx.intro v rfl rfl hv ?_
  refine QLoad.scalar (fun _ e => e ▸ (((ht.ext hx1).exps hw.cellsAt).get v _ (expV_get hvl))) ?_
  refine QLoad.scalar (fun _ e => e ▸ hd1.get) ?_
  refine ⟨hx1, ?_⟩
  show Value.bool _ = Value.bool _
  congr 1
  unfold isDel
  rw [getD_lt hvl, Bool.eq_iff_iff]; simp

abbrev delFn (lb db : Nat) : Value := .func (.func f_checkpoly_reducta_1) #[] #[.pointer (some ⟨lb, 0, none⟩), .pointer (some ⟨db, 0, none⟩)]

theorem IndexFunc_any (h : Heap) (w : Value) (f : Pol) (lb db : Nat) (v : Nat) (d : Int) (hv : v < 4) (hf : PolyAt h w f) (hl : Cell1 h lb t_int (.int .i64 ((v : Int) + 1))) (hd : Cell1 h db t_int (.int .i64 d)) (hlen : f.length < 10000000) :
    Spec E.P f_slices_IndexFunc #[w, delFn lb db] h (fun v' h' => Ext h h' ∧ ((v' = .int .i64 (-1) ∧ ∀ t ∈ f, isDel v d t = false) ∨ ∃ i : Nat, v' = .int .i64 i ∧ i < f.length ∧ (∀ t ∈ f.take i, isDel v d t = false) ∧ ∀ t, f[i]? = some t → isDel v d t = true)) := by
  obtain ⟨a, cap, rfl, hcap, hfA⟩ := hf
  refine Spec.intro hE (args := [_, _]) F_slices_IndexFunc rfl rfl (Nat.le_of_ble_eq_true rfl) ?_
  refine DLoop.intro hE (ι := Nat) (fun i => [(8, .int .i64 i), (7, .int .i64 f.length), (0, .slice a f.length cap), (1, delFn lb db)]) (fun i h' => Ext h h' ∧ i ≤ f.length ∧ ∀ t ∈ f.take i, isDel v d t = false) (fun i => f.length - i) 0 rfl ⟨rfl, rfl, rfl, rfl, trivial⟩ ⟨Ext.rfl, Nat.zero_le _, fun t ht => by simp at ht⟩ ?_
  rintro i h1 ⟨hx1, hi, hn⟩
  refine bsp.dec (fun hlt => ?_) (fun hlt => ?_)
  · have hif : i < f.length := by omega
    obtain ⟨b, off, cs, cv, rfl, ht, hcs, -⟩ := hfA.form hif
    refine DIdx.intro i rfl rfl hif ?_
    refine DLoad.agg cs ht.len (hcs.ext hx1) ?_
    refine (del_any h1 cs f[i] lb db v d hv (ht.ext hx1) (hx1.at hl) (hx1.at hd)).mono ?_
    rintro _ h2 ⟨hx2, rfl⟩
    refine bsp.intro (fun hc => ?_) (fun hc => ?_)
    · refine ⟨hx1.trans hx2, .inr ⟨i, rfl, hif, hn, fun t ht => ?_⟩⟩
      rw [List.getElem?_eq_getElem hif] at ht
      injection ht with ht
      rw [← ht]; exact hc
    · refine DWrap.is ((i + 1 : Nat) : Int) (by omega) (by omega) ?_
      refine ⟨i + 1, ⟨rfl, rfl, rfl, rfl, trivial⟩, ⟨hx1.trans hx2, by omega, fun t ht => ?_⟩, by omega⟩
      rw [List.take_succ_eq_append_getElem hif] at ht
      rcases List.mem_append.1 ht with ht | ht
      · exact hn t ht
      · rw [List.mem_singleton] at ht; subst ht; exact hc
  · obtain rfl : i = f.length := by omega
    rw [List.take_length] at hn
    exact ⟨hx1, .inl ⟨rfl, hn⟩⟩

theorem filter_none {α : Type} {p : α → Bool} {l : List α} (h : ∀ t ∈ l, p t = true) : l.filter p = l := List.filter_eq_self.2 h

set_option maxHeartbeats 1600000 in
theorem DeleteFunc_any (h : Heap) (w : Value) (f : Pol) (base lb db : Nat) (v : Nat) (d : Int) (hv : v < 4) (ho : OwnP h base w f) (hl : Cell1 h lb t_int (.int .i64 ((v : Int) + 1))) (hd : Cell1 h db t_int (.int .i64 d)) (hlb : lb < base) (hdb : db < base) (hbase : base ≤ h.size) (hlen : f.length < 10000000) :
    Spec E.P f_slices_DeleteFunc #[w, delFn lb db] h (fun v' h' => Old base h h' ∧ U32 h h' ∧ OwnP h' base v' (f.filter fun t => !isDel v d t)) := by
  have hp := ho.poly
  have hp0 := hp
  obtain ⟨a, cap, rfl, hcap, hfA⟩ := hp
  refine Spec.intro hE (args := [_, _]) F_slices_DeleteFunc rfl rfl (Nat.le_of_ble_eq_true rfl) ?_
  refine (IndexFunc_any h _ f lb db v d hv hp0 hl hd hlen).mono ?_
  rintro v1 h1 ⟨hx1, hres⟩
  rcases hres with ⟨rfl, hn⟩ | ⟨i0, rfl, hi0, hn0, hdel0⟩
  · refine ⟨hx1.old hbase, hx1.u32, ?_⟩
    rw [filter_none fun t ht => by rw [hn t ht]; rfl]
    exact ho.ext hx1
  refine DWrap.is ((i0 + 1 : Nat) : Int) (by omega) (by omega) ?_
  have hne : f ≠ [] := by intro e; subst e; simp at hi0
  obtain ⟨g, cap', hv', hgb, hgs, hgc, c, hgc'⟩ := ho.at hne
  injection hv' with e1 e2 e3
  subst e1 e3
  have hfd : f[i0]? = some f[i0] := List.getElem?_eq_getElem hi0
  have hd0 := hdel0 _ hfd
  refine DLoop.intro hE (ι := Nat × Nat × Pol) (fun s => [(6, .int .i64 s.1), (5, .int .i64 s.2.1), (0, .slice (some ⟨g, 0, none⟩) f.length cap), (1, delFn lb db)])
    (fun s h' => Old base h h' ∧ U32 h h' ∧ s.1 ≤ f.length ∧ s.2.1 < s.1 ∧ s.2.2.length = f.length ∧ OwnP h' base (.slice (some ⟨g, 0, none⟩) f.length cap) s.2.2 ∧ s.2.2.take s.2.1 = (f.take s.1).filter (fun t => !isDel v d t) ∧ s.2.2.drop s.1 = f.drop s.1) (fun s => f.length - s.1) (i0 + 1, i0, f) rfl
    ⟨rfl, rfl, rfl, rfl, trivial⟩ ⟨hx1.old hbase, hx1.u32, by dsimp only; omega, by dsimp only; omega, rfl, ho.ext hx1, ?_, rfl⟩ ?_
  · dsimp only
    rw [List.take_succ_eq_append_getElem hi0, List.filter_append, filter_none fun t ht => by rw [hn0 t ht]; rfl, List.filter_cons_of_neg (by rw [hd0]; simp)]; simp
  rintro ⟨j, i, q⟩ h2 ⟨hold, hu, hj, hij, hql, hoq, htake, hdrop⟩
  dsimp only at hj hij hql hoq htake hdrop ⊢
  refine bsp.dec (fun hlt => ?_) (fun hlt => ?_)
  · have hjf : j < f.length := by omega
    have hjq : j < q.length := by omega
    have hqj : q[j] = f[j] := by
      have h1 := List.drop_eq_getElem_cons hjf
      have h2 := List.drop_eq_getElem_cons hjq
      rw [hdrop, h1] at h2
      injection h2 with h2 _
      exact h2.symm
    obtain ⟨cs, ht, hcs⟩ := hoq.get hjq
    rw [hqj] at ht
    refine DIdx.intro j rfl rfl (by omega) ?_
    refine DLoad.agg cs ht.len (by rw [Nat.zero_add]; exact hcs) ?_
    refine DNew.intro ?_
    intro tb h3 htb hx3 hs3 hg3
    refine DStore.full hg3 rfl ht.len rfl ht.ones ?_
    intro h4 hu4
    have hw4 : Whole h4 tb t_checkpoly_Term cs := hu4.at_
    have hx24 : Ext h2 h4 := ((Old.rfl (B := h2.size).ext hx3 (Nat.le_refl _)).upd hu4 (by omega)).toExt
    have ht4 := ht.ext hx24
    have hl4 : Cell1 h4 lb t_int _ := hx24.at (hold.at hl hlb)
    have hd4 : Cell1 h4 db t_int _ := hx24.at (hold.at hd hdb)
    refine DLoad.agg cs ht.len hw4.cellsAt ?_
    refine (del_any h4 cs f[j] lb db v d hv ht4 hl4 hd4).mono ?_
    rintro _ h5 ⟨hx5, rfl⟩
    have hx25 := hx24.trans hx5
    have hdn : q.drop (j + 1) = f.drop (j + 1) := by
      have := congrArg (List.drop 1) hdrop
      simpa [List.drop_drop] using this
    refine bsp.intro (fun hc => ?_) (fun hc => ?_)
    · have hkeep : isDel v d f[j] = false := by simpa using hc
      refine DLoad.agg cs ht.len (hw4.ext hx5).cellsAt ?_
      refine DIdx.intro i rfl rfl (by omega) ?_
      have hoq5 := hoq.ext hx25
      rw [← hql] at hoq5
      refine DStore.ownTerm i (Nat.zero_add _) hoq5 (by omega) (ht4.ext hx5) rfl ?_
      intro o6 h6 hu6 hv6 ho6
      rw [hql] at ho6
      refine DWrap.is ((i + 1 : Nat) : Int) (by omega) (by omega) ?_
      refine DWrap.is ((j + 1 : Nat) : Int) (by omega) (by omega) ?_
      refine ⟨(j + 1, i + 1, q.set i f[j]), ⟨rfl, rfl, rfl, rfl, trivial⟩, ⟨(hold.ext hx25 hbase).upd hu6 hgb, (hu.trans hx25.u32).trans hv6, by dsimp only; omega, by dsimp only; omega, by simpa using hql, ho6, ?_, ?_⟩, by dsimp only; omega⟩
      · dsimp only
        rw [take_set_succ (by omega), htake, List.take_succ_eq_append_getElem hjf, List.filter_append, List.filter_cons_of_pos (by rw [hkeep]; rfl)]; rfl
      · dsimp only
        rw [List.drop_set_of_lt (by omega)]; exact hdn
    · have hgo : isDel v d f[j] = true := by simpa using hc
      refine DWrap.is ((j + 1 : Nat) : Int) (by omega) (by omega) ?_
      refine ⟨(j + 1, i, q), ⟨rfl, rfl, rfl, rfl, trivial⟩, ⟨hold.ext hx25 hbase, hu.trans hx25.u32, by dsimp only; omega, by dsimp only; omega, hql, hoq.ext hx25, ?_, hdn⟩, by dsimp only; omega⟩
      dsimp only
      rw [htake, List.take_succ_eq_append_getElem hjf, List.filter_append, List.filter_cons_of_neg (by rw [hgo]; simp)]; simp
  · obtain rfl : j = f.length := by omega
    rw [List.take_length] at htake
    rw [← hql] at hoq
    refine DSlice.intro i f.length rfl rfl (by omega) (by omega) ?_
    rw [← hql]
    refine DRun.clearTerms (ti := ⟨.slice t_checkpoly_Term, 1, 24, .slice none 0 0⟩) rfl rfl hoq i (by omega) ?_
    rintro h3 ⟨o3, hu3⟩ hv3 ho3
    refine DSlice.intro 0 i rfl rfl (by omega) (by omega) ?_
    rw [slV_zero]
    refine ⟨hold.upd hu3 hgb, hu.trans hv3, ?_⟩
    have hl3 : (q.take i ++ List.replicate (q.length - i) zT).length = q.length := by simp; omega
    have ho4 : OwnP h3 base (.slice (some ⟨g, 0, none⟩) (q.take i ++ List.replicate (q.length - i) zT).length cap) (q.take i ++ List.replicate (q.length - i) zT) := by rw [hl3]; exact ho3
    have := ho4.head i (by omega)
    rw [List.take_append_of_le_length (by simp; omega), List.take_take, Nat.min_self, htake] at this
    exact this
end Go.Vc
