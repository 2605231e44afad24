/- The arguments of the statements: lists of terms with small numbers. -/
import Derived.Test.YtjjcncedfphnhaaAw
import Derived.Test.YtjjcncedfphnhaaEqp
import Derived.Test.YtjjcncedfphnhaaRef
namespace Go.Vc
open Go.Proofs

def u8V (e : List Nat) : List Value := e.map fun (x : Nat) => Value.int .u8 x
def MonoOk (t : Term1) : Prop := -128 ≤ t.1 ∧ t.1 ≤ 127 ∧ t.2.length = 4 ∧ ∀ x ∈ t.2, x ≤ 255
/-- a slice of cylinderref31.Mono -/
def MonosAt (h : Heap) (v : Value) (l : Pol) : Prop := ∃ a cap, v = .slice a l.length cap ∧ l.length ≤ cap ∧ (l ≠ [] → ∃ b off, a = some ⟨b, off, none⟩ ∧ ∀ j (hj : j < l.length), MonoOk l[j] ∧ CellsAt h b (off + j * 5) (.int .i8 l[j].1 :: u8V l[j].2))

theorem MonosAt.ext {h h' : Heap} (x : Ext h h') {v : Value} {l : Pol} (hm : MonosAt h v l) : MonosAt h' v l := by
  obtain ⟨a, cap, hv, hc, hm⟩ := hm
  exact ⟨a, cap, hv, hc, fun hne => by obtain ⟨b, off, ha, hc⟩ := hm hne; exact ⟨b, off, ha, fun j hj => ⟨(hc j hj).1, (hc j hj).2.ext x⟩⟩⟩

theorem u8V_get {e : List Nat} {k : Nat} (hk : k < e.length) : (u8V e)[k]? = some (.int .u8 (e[k] : Nat)) := by simp [u8V, hk]

theorem Few_any (h : Heap) (v : Value) (l : Pol) (n m : Nat) (hl : MonosAt h v l) (hlen : n < 1000000000) :
    Spec E.P f_cylinderref31_Few #[v, .int .i64 n, .int .u8 m] h (fun v' h' => h' = h ∧ ∃ b, v' = .bool b ∧ (b = true → l.length ≤ n ∧ ExpB l m)) := by
  obtain ⟨a, cap, rfl, hcap, hl⟩ := hl
  refine Spec.intro hE (args := [_, _, _]) F_cylinderref31_Few rfl rfl (Nat.le_of_ble_eq_true rfl) ?_
  refine bsp.dec (p := (l.length : Int) > n) (fun hc => ?_) (fun hc => ?_)
  · exact ⟨rfl, false, rfl, by simp⟩
  refine DLoop.intro hE (ι := Nat) (fun i => [(7, .int .i64 i), (0, .slice a l.length cap), (2, .int .u8 m)]) (fun i h' => h' = h ∧ i ≤ l.length ∧ ExpB (l.take i) m) (fun i => l.length - i) 0 rfl ⟨rfl, rfl, rfl, trivial⟩ ⟨rfl, Nat.zero_le _, fun t ht => by simp at ht⟩ ?_
  rintro i h' ⟨rfl, hi, he⟩
  refine bsp.dec (fun hlt => ?_) (fun hlt => ?_)
  · have hil : i < l.length := by omega
    obtain ⟨b, off, rfl, hc⟩ := hl (by intro e; subst e; simp at hil)
    obtain ⟨hok, hcs⟩ := hc i hil
    refine DLoop.intro hE (ι := Nat) (fun k => [(8, .int .i64 k), (7, .int .i64 i), (0, .slice (some ⟨b, off, none⟩) l.length cap), (2, .int .u8 m)]) (fun k h'' => h'' = h' ∧ k ≤ 4 ∧ ∀ x ∈ l[i].2.take k, x ≤ m) (fun k => 4 - k) 0 rfl ⟨rfl, rfl, rfl, rfl, trivial⟩ ⟨rfl, Nat.zero_le _, fun t ht => by simp at ht⟩ ?_
    rintro k h'' ⟨rfl, hk, hx⟩
    refine bsp.dec (fun hlt2 => ?_) (fun hlt2 => ?_)
    · have hk4 : k < l[i].2.length := by have := hok.2.2.1; omega
      refine DIdx.intro i rfl rfl hil ?_
      refine DIdx.intro k rfl rfl (by omega) ?_
      refine DLoad.scalar (v := .int .u8 (l[i].2[k] : Nat)) ?_ ?_
      · have := hcs.get (1 + k) (.int .u8 (l[i].2[k] : Nat)) (by rw [Nat.add_comm 1 k, List.getElem?_cons_succ, u8V_get hk4])
        rw [← Nat.add_assoc] at this
        exact this
      refine bsp.dec (p := (l[i].2[k] : Int) > m) (fun hc => ?_) (fun hc => ?_)
      · exact ⟨rfl, false, rfl, by simp⟩
      refine DWrap.is ((k + 1 : Nat) : Int) (by omega) (by omega) ?_
      refine ⟨k + 1, ⟨rfl, rfl, rfl, rfl, trivial⟩, ⟨rfl, by omega, fun x hx' => ?_⟩, by omega⟩
      rw [List.take_succ_eq_append_getElem hk4] at hx'
      rcases List.mem_append.1 hx' with hx' | hx'
      · exact hx x hx'
      · rw [List.mem_singleton] at hx'; subst hx'; omega
    · obtain rfl : k = 4 := by omega
      refine DWrap.is ((i + 1 : Nat) : Int) (by omega) (by omega) ?_
      refine ⟨i + 1, ⟨rfl, rfl, rfl, trivial⟩, ⟨rfl, by omega, fun t ht x hxt => ?_⟩, by omega⟩
      rw [List.take_succ_eq_append_getElem hil] at ht
      rcases List.mem_append.1 ht with ht | ht
      · exact he t ht x hxt
      · rw [List.mem_singleton] at ht; subst ht
        exact hx x (by rw [List.take_of_length_le (by have := hok.2.2.1; omega)]; exact hxt)
  · obtain rfl : i = l.length := by omega
    rw [List.take_length] at he
    exact ⟨rfl, true, rfl, fun _ => ⟨by omega, he⟩⟩

/-- the exponents of which the first k are laid -/
def layE (e : List Nat) (k : Nat) : List Nat := e.take k ++ List.replicate (4 - k) 0
theorem layE_set {e : List Nat} (he : e.length = 4) {k : Nat} (hk : k < 4) : (layE e k).set k (e[k]'(by omega)) = layE e (k + 1) := by
  obtain ⟨a0, a1, a2, a3, rfl⟩ := four he
  match k, hk with
  | 0, _ => rfl
  | 1, _ => rfl
  | 2, _ => rfl
  | 3, _ => rfl
theorem layE_len {e : List Nat} (he : e.length = 4) {k : Nat} (hk : k ≤ 4) : (layE e k).length = 4 := by simp [layE, he]; omega

set_option maxHeartbeats 800000 in
theorem Poly_any (h : Heap) (v : Value) (l : Pol) (hl : MonosAt h v l) (hlen : l.length < 10000000) :
    Spec E.P f_cylinderlaw54_Poly #[v] h (fun v' h' => Ext h h' ∧ PolyAt h' v' l) := by
  obtain ⟨a, cap, rfl, hcap, hl⟩ := hl
  refine Spec.intro hE (args := [_]) F_cylinderlaw54_Poly rfl rfl (Nat.le_of_ble_eq_true rfl) ?_
  refine DLoop.intro hE (ι := Nat × Value) (fun s => [(4, .int .i64 s.1), (0, .slice a l.length cap), (3, s.2)]) (fun s h' => Ext h h' ∧ s.1 ≤ l.length ∧ OwnP h' h.size s.2 (l.take s.1)) (fun s => l.length - s.1) (0, .slice none 0 0) rfl ⟨rfl, rfl, rfl, trivial⟩ ⟨Ext.rfl, Nat.zero_le _, OwnP.nil _ _⟩ ?_
  rintro ⟨i, lv⟩ h1 ⟨hx1, hi, ho⟩
  dsimp only at hi ho ⊢
  refine bsp.dec (fun hlt => ?_) (fun hlt => ?_)
  · have hil : i < l.length := by omega
    obtain ⟨b, off, rfl, hc⟩ := hl (by intro e; subst e; simp at hil)
    obtain ⟨hok, hcs⟩ := hc i hil
    have hl4 := hok.2.2.1
    refine DIdx.intro i rfl rfl hil ?_
    refine DLoad.scalar (v := .int .i8 l[i].1) ((hcs.ext hx1).get 0 _ rfl) ?_
    refine (ref31_Int_any h1 l[i].1 ⟨hok.1, hok.2.1⟩).mono ?_
    rintro v2 h2 ⟨hx2, hi2⟩
    have hi20 := hi2
    obtain ⟨a2, cap2, rfl, -⟩ := hi2
    refine DPure.build [.bool (decide (l[i].1 < 0)), .slice a2 (digs l[i].1.natAbs).length cap2, .int .i64 (0 : Nat), .int .i64 (0 : Nat), .int .i64 (0 : Nat), .int .i64 (0 : Nat)] (by kernel_rfl) ?_
    refine DNew.intro ?_
    intro tb h3 htb hx3 hs3 hg3
    refine DStore.full hg3 rfl rfl rfl rfl ?_
    intro h4 hu4
    have hx24 : Ext h2 h4 := ((Old.rfl (B := h2.size).ext hx3 (Nat.le_refl _)).upd hu4 (by omega)).toExt
    have hw4 : Whole h4 tb t_checkpoly_Term (.bool (decide (l[i].1 < 0)) :: .slice a2 (digs l[i].1.natAbs).length cap2 :: expV (layE l[i].2 0)) := hu4.at_
    refine DLoop.intro hE (ι := Nat) (fun k => [(6, .int .i64 k), (5, .pointer (some ⟨tb, 0, none⟩)), (4, .int .i64 i), (0, .slice (some ⟨b, off, none⟩) l.length cap), (3, lv)])
      (fun k h' => Old h2.size h2 h' ∧ k ≤ 4 ∧ Whole h' tb t_checkpoly_Term (.bool (decide (l[i].1 < 0)) :: .slice a2 (digs l[i].1.natAbs).length cap2 :: expV (layE l[i].2 k))) (fun k => 4 - k) 0 rfl ⟨rfl, rfl, rfl, rfl, rfl, trivial⟩ ⟨hx24.old (Nat.le_refl _), Nat.zero_le _, hw4⟩ ?_
    rintro k h5 ⟨hold5, hk, hw5⟩
    have hx5 : Ext h h5 := hx1.trans (hx2.trans hold5.toExt)
    refine bsp.dec (fun hlt2 => ?_) (fun hlt2 => ?_)
    · have hk4 : k < 4 := by omega
      have hkl : k < l[i].2.length := by omega
      have hx255 : l[i].2[k] ≤ 255 := hok.2.2.2 _ (List.getElem_mem _)
      refine DIdx.intro i rfl rfl hil ?_
      refine DIdx.intro k rfl rfl hk4 ?_
      refine DLoad.scalar (v := .int .u8 (l[i].2[k] : Nat)) ?_ ?_
      · have := (hcs.ext hx5).get (1 + k) (.int .u8 (l[i].2[k] : Nat)) (by rw [Nat.add_comm 1 k, List.getElem?_cons_succ, u8V_get hkl])
        rw [← Nat.add_assoc] at this
        exact this
      refine DWrap.is ((l[i].2[k] : Nat) : Int) rfl (by omega) ?_
      refine DIdx.intro k rfl rfl hk4 ?_
      refine DStore.part (vs := [.int .i64 ((l[i].2[k] : Nat) : Int)]) (.bool (decide (l[i].1 < 0)) :: .slice a2 (digs l[i].1.natAbs).length cap2 :: expV (layE l[i].2 (k + 1))) hw5 rfl rfl (by simp [expV_len, layE_len hl4 hk]; omega) rfl ?_ ?_
      · rw [Nat.zero_add, splice_exp (by rw [layE_len hl4 hk]; exact hk4), layE_set hl4 hk4]
      · intro h6 hu6 hw6
        refine DWrap.is ((k + 1 : Nat) : Int) (by omega) (by omega) ?_
        exact ⟨k + 1, ⟨rfl, rfl, rfl, rfl, rfl, trivial⟩, ⟨hold5.upd hu6 (by omega), by omega, hw6⟩, by omega⟩
    · obtain rfl : k = 4 := by omega
      have e4 : layE l[i].2 4 = l[i].2 := by unfold layE; rw [List.take_of_length_le (by omega)]; simp
      rw [e4] at hw5
      have hx25 := hold5.toExt
      have ht5 : TermAt h5 (.bool (decide (l[i].1 < 0)) :: .slice a2 (digs l[i].1.natAbs).length cap2 :: expV l[i].2) l[i] := ⟨hl4, _, _, rfl, hi20.ext hx25⟩
      generalize he8 : (.bool (decide (l[i].1 < 0)) :: .slice a2 (digs l[i].1.natAbs).length cap2 :: expV l[i].2 : List Value) = c8 at *
      refine DLoad.agg c8 ht5.len hw5.cellsAt ?_
      have ht50 := ht5
      obtain ⟨aa, cc, e0, e1, e2, e3, he, rfl, -⟩ := ht5.form
      refine ⟨⟨rfl, by decide, rfl, rfl, trivial⟩, ?_⟩
      refine DNew.intro ?_
      intro nb h6 hnb hx6 hs6 hg6
      have hx16 : Ext h1 h6 := hx2.trans (hx25.trans hx6)
      have hx06 := hx1.trans hx16
      refine DRun.term (ti := ⟨.slice t_checkpoly_Term, 1, 24, .slice none 0 0⟩) rfl rfl (ho.ext hx16) hg6 (ht50.ext hx6) (by simp; omega) hx06.size ?_
      intro v7 h7 ho7 hgr7 hu7
      refine DWrap.is ((i + 1 : Nat) : Int) (by omega) (by omega) ?_
      refine ⟨(i + 1, v7), ⟨rfl, rfl, rfl, trivial⟩, ⟨?_, by dsimp only; omega, ?_⟩, by dsimp only; omega⟩
      · exact ((Old.rfl (B := h.size).ext hx06 (Nat.le_refl _)).grown hgr7 (Nat.le_refl _) fun k hk => (ho.block hk).1).toExt
      · dsimp only
        rw [List.take_succ_eq_append_getElem hil]; exact ho7
  · obtain rfl : i = l.length := by omega
    rw [List.take_length] at ho
    exact ⟨hx1, ho.poly⟩
end Go.Vc
