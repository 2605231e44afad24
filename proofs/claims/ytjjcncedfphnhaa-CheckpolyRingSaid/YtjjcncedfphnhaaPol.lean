/- Polynomials in memory. -/
import Derived.Test.YtjjcncedfphnhaaExp
namespace Go.Vc
open Go.Proofs

abbrev Term1 := Int × List Nat
abbrev Pol := List Term1

def TermAt (h : Heap) (cs : List Value) (t : Term1) : Prop := t.2.length = 4 ∧ ∃ c1 c2, cs = c1 :: c2 :: expV t.2 ∧ IntAt h (.agg #[c1, c2]) t.1

theorem TermAt.ext {h h' : Heap} (x : Ext h h') {cs : List Value} {t : Term1} (ht : TermAt h cs t) : TermAt h' cs t := by
  obtain ⟨hl, c1, c2, hc, hi⟩ := ht; exact ⟨hl, c1, c2, hc, hi.ext x⟩
theorem TermAt.u32 {h h' : Heap} (x : U32 h h') {cs : List Value} {t : Term1} (ht : TermAt h cs t) : TermAt h' cs t := by
  obtain ⟨hl, c1, c2, hc, hi⟩ := ht; exact ⟨hl, c1, c2, hc, hi.u32 x⟩
theorem TermAt.len {h : Heap} {cs : List Value} {t : Term1} (ht : TermAt h cs t) : cs.length = 6 := by
  obtain ⟨hl, c1, c2, rfl, hi⟩ := ht; simp [expV, hl]
theorem four {e : List Nat} (h : e.length = 4) : ∃ e0 e1 e2 e3, e = [e0, e1, e2, e3] := by
  match e, h with
  | [e0, e1, e2, e3], _ => exact ⟨e0, e1, e2, e3, rfl⟩
theorem TermAt.form {h : Heap} {cs : List Value} {t : Term1} (ht : TermAt h cs t) : ∃ a cap e0 e1 e2 e3, t.2 = [e0, e1, e2, e3] ∧ cs = [.bool (decide (t.1 < 0)), .slice a (digs t.1.natAbs).length cap, .int .i64 (e0 : Nat), .int .i64 (e1 : Nat), .int .i64 (e2 : Nat), .int .i64 (e3 : Nat)]
    ∧ IntAt h (.agg #[.bool (decide (t.1 < 0)), .slice a (digs t.1.natAbs).length cap]) t.1 := by
  obtain ⟨hl, c1, c2, rfl, hi⟩ := ht
  obtain ⟨e0, e1, e2, e3, he⟩ := four hl
  have hi0 := hi
  obtain ⟨a, cap, hv, -⟩ := hi
  injection hv with hv
  injection hv with hv
  injection hv with hv1 hv2
  injection hv2 with hv2 _
  subst hv1 hv2
  exact ⟨a, cap, e0, e1, e2, e3, he, by rw [he]; rfl, hi0⟩
theorem TermAt.ones {h : Heap} {cs : List Value} {t : Term1} (ht : TermAt h cs t) : cs.all Value.oneCell' = true := by
  obtain ⟨a, cap, e0, e1, e2, e3, -, rfl, -⟩ := ht.form; rfl

def PolyA (h : Heap) (a : Option Addr) (p : Pol) : Prop := p ≠ [] → ∃ b off, a = some ⟨b, off, none⟩ ∧ ∀ j (hj : j < p.length), ∃ cs, TermAt h cs p[j] ∧ CellsAt h b (off + j * 6) cs
/-- terms lie in blocks of terms -/
def TyOk (h : Heap) (a : Option Addr) (p : Pol) : Prop := ∀ b off s, a = some ⟨b, off, s⟩ → p ≠ [] → ∃ c fr, h[b]? = some (.cells c t_checkpoly_Term fr)
theorem TyOk.ext {h h' : Heap} (x : Ext h h') {a : Option Addr} {p : Pol} (t : TyOk h a p) : TyOk h' a p := fun b off s ha hne => by
  obtain ⟨c, fr, hb⟩ := t b off s ha hne; exact ⟨c, fr, x.at hb⟩
def PolyAt (h : Heap) (v : Value) (p : Pol) : Prop := ∃ a cap, v = .slice a p.length cap ∧ (p.length ≤ cap ∧ (a = none → cap = 0) ∧ TyOk h a p) ∧ PolyA h a p

theorem PolyA.ext {h h' : Heap} (x : Ext h h') {a : Option Addr} {p : Pol} (hp : PolyA h a p) : PolyA h' a p := fun hne => by
  obtain ⟨b, off, ha, hc⟩ := hp hne
  exact ⟨b, off, ha, fun j hj => by obtain ⟨cs, ht, hc⟩ := hc j hj; exact ⟨cs, ht.ext x, hc.ext x⟩⟩
theorem PolyAt.ext {h h' : Heap} (x : Ext h h') {v : Value} {p : Pol} (hp : PolyAt h v p) : PolyAt h' v p := by
  obtain ⟨a, cap, hv, hc, hp⟩ := hp; exact ⟨a, cap, hv, ⟨hc.1, hc.2.1, hc.2.2.ext x⟩, hp.ext x⟩
theorem PolyAt.nil (h : Heap) : PolyAt h (.slice none 0 0) [] := ⟨none, 0, rfl, ⟨Nat.le_refl _, fun _ => rfl, fun _ _ _ _ hne => absurd rfl hne⟩, fun hne => absurd rfl hne⟩

def TermsIn (h : Heap) (css : List (List Value)) (p : Pol) : Prop := css.length = p.length ∧ ∀ j (h1 : j < css.length) (h2 : j < p.length), TermAt h css[j] p[j]
theorem TermsIn.u32 {h h' : Heap} (x : U32 h h') {css : List (List Value)} {p : Pol} (ht : TermsIn h css p) : TermsIn h' css p := ⟨ht.1, fun j h1 h2 => (ht.2 j h1 h2).u32 x⟩
theorem TermsIn.ext {h h' : Heap} (x : Ext h h') {css : List (List Value)} {p : Pol} (ht : TermsIn h css p) : TermsIn h' css p := ⟨ht.1, fun j h1 h2 => (ht.2 j h1 h2).ext x⟩
theorem TermsIn.nil (h : Heap) : TermsIn h [] [] := ⟨rfl, fun j h1 => by simp at h1⟩

def All6 (css : List (List Value)) : Prop := ∀ cs ∈ css, cs.length = 6
theorem TermsIn.all6 {h : Heap} {css : List (List Value)} {p : Pol} (ht : TermsIn h css p) : All6 css := fun cs hcs => by
  obtain ⟨j, hj, rfl⟩ := List.getElem_of_mem hcs
  exact (ht.2 j hj (by have := ht.1; omega)).len
theorem TermsIn.append {h : Heap} {css : List (List Value)} {p : Pol} (ht : TermsIn h css p) {ds : List (List Value)} {q : Pol} (hu : TermsIn h ds q) : TermsIn h (css ++ ds) (p ++ q) := by
  refine ⟨by simp [ht.1, hu.1], fun j h1 h2 => ?_⟩
  have := ht.1
  by_cases hj : j < css.length
  · rw [List.getElem_append_left hj, List.getElem_append_left (by omega)]; exact ht.2 j hj (by omega)
  · rw [List.getElem_append_right (by omega), List.getElem_append_right (by omega)]
    have e : j - css.length = j - p.length := by omega
    simp only [List.length_append] at h1 h2
    have k := hu.2 (j - p.length) (by omega) (by omega)
    simp only [e]; exact k
theorem TermsIn.one {h : Heap} {cs : List Value} {t : Term1} (ht : TermAt h cs t) : TermsIn h [cs] [t] := ⟨rfl, fun j h1 h2 => by
  have : j = 0 := by simpa using h1
  subst this; exact ht⟩
theorem TermsIn.take {h : Heap} {css : List (List Value)} {p : Pol} (ht : TermsIn h css p) (k : Nat) : TermsIn h (css.take k) (p.take k) := by
  refine ⟨by simp [ht.1], fun j h1 h2 => ?_⟩
  rw [List.getElem_take, List.getElem_take]
  simp only [List.length_take] at h1 h2
  exact ht.2 j (by omega) (by omega)
theorem TermsIn.set {h : Heap} {css : List (List Value)} {p : Pol} (ht : TermsIn h css p) {j : Nat} {cs : List Value} {t : Term1} (hn : TermAt h cs t) : TermsIn h (css.set j cs) (p.set j t) := by
  refine ⟨by simp [ht.1], fun i h1 h2 => ?_⟩
  simp only [List.length_set] at h1 h2
  rw [List.getElem_set, List.getElem_set]
  split
  · exact hn
  · exact ht.2 i h1 h2

theorem All6.len : ∀ {css : List (List Value)}, All6 css → css.flatten.length = css.length * 6
  | [], _ => rfl
  | cs :: r, h => by
    rw [List.flatten_cons, List.length_append, List.length_cons, All6.len (fun c hc => h c (List.mem_cons_of_mem _ hc)), h cs List.mem_cons_self]; omega
theorem All6.get : ∀ {css : List (List Value)}, All6 css → ∀ j (hj : j < css.length) i, i < 6 → css.flatten[j * 6 + i]? = css[j][i]?
  | cs :: r, h, 0, _, i, hi => by
    rw [List.flatten_cons, Nat.zero_mul, Nat.zero_add, List.getElem?_append_left (by rw [h cs List.mem_cons_self]; exact hi)]; rfl
  | cs :: r, h, j + 1, hj, i, hi => by
    have h6 := h cs List.mem_cons_self
    rw [List.flatten_cons, List.getElem?_append_right (by omega), h6, show (j + 1) * 6 + i - 6 = j * 6 + i by omega]
    exact All6.get (fun c hc => h c (List.mem_cons_of_mem _ hc)) j (by simpa using hj) i hi
theorem All6.take : ∀ {css : List (List Value)}, All6 css → ∀ k, css.flatten.take (k * 6) = (css.take k).flatten
  | [], _, k => by simp
  | cs :: r, h, 0 => by simp
  | cs :: r, h, k + 1 => by
    have h6 := h cs List.mem_cons_self
    rw [List.flatten_cons, List.take_append, List.take_of_length_le (by omega), h6, show (k + 1) * 6 - 6 = k * 6 by omega, All6.take (fun c hc => h c (List.mem_cons_of_mem _ hc)) k]; rfl
theorem All6.drop : ∀ {css : List (List Value)}, All6 css → ∀ k, css.flatten.drop (k * 6) = (css.drop k).flatten
  | [], _, k => by simp
  | cs :: r, h, 0 => by simp
  | cs :: r, h, k + 1 => by
    have h6 := h cs List.mem_cons_self
    rw [List.flatten_cons, List.drop_append, List.drop_of_length_le (by omega), h6, show (k + 1) * 6 - 6 = k * 6 by omega, All6.drop (fun c hc => h c (List.mem_cons_of_mem _ hc)) k]; rfl
theorem All6.splice : ∀ {css : List (List Value)}, All6 css → ∀ j (hj : j < css.length) r vs, r + vs.length ≤ 6 → Vc.splice css.flatten (j * 6 + r) vs = (css.set j (Vc.splice css[j] r vs)).flatten
  | cs :: rest, h, 0, _, r, vs, hr => by
    have h6 := h cs List.mem_cons_self
    unfold Vc.splice
    simp only [List.flatten_cons, List.set_cons_zero, Nat.zero_mul, Nat.zero_add, List.getElem_cons_zero]
    rw [List.take_append_of_le_length (by omega), List.drop_append_of_le_length (by omega)]
    simp only [List.append_assoc]
  | cs :: rest, h, j + 1, hj, r, vs, hr => by
    have h6 := h cs List.mem_cons_self
    have ih := All6.splice (fun c hc => h c (List.mem_cons_of_mem _ hc)) j (by simpa using hj) r vs hr
    unfold Vc.splice at ih ⊢
    simp only [List.flatten_cons, List.set_cons_succ, List.getElem_cons_succ] at ih ⊢
    rw [← ih, List.take_append, List.drop_append, List.take_of_length_le (by omega), List.drop_of_length_le (by omega), h6]
    rw [show (j + 1) * 6 + r - 6 = j * 6 + r by omega, show (j + 1) * 6 + r + vs.length - 6 = j * 6 + r + vs.length by omega]
    simp only [List.append_assoc, List.nil_append]

/-- a slice of terms of the call's own -/
def OwnP (h : Heap) (base : Nat) (v : Value) (p : Pol) : Prop := ∃ css, TermsIn h css p ∧ Own h base t_checkpoly_Term 6 v p.length css.flatten

theorem OwnP.nil (h : Heap) (base : Nat) : OwnP h base (.slice none 0 0) [] := ⟨[], TermsIn.nil h, Own.nil _ _ _ _⟩
theorem OwnP.ext {h h' : Heap} (x : Ext h h') {base : Nat} {v : Value} {p : Pol} (ho : OwnP h base v p) : OwnP h' base v p := by
  obtain ⟨css, ht, ho⟩ := ho; exact ⟨css, ht.ext x, ho.ext x⟩
theorem OwnP.base {h : Heap} {b0 base : Nat} (hb : b0 ≤ base) {v : Value} {p : Pol} (ho : OwnP h base v p) : OwnP h b0 v p := by
  obtain ⟨css, ht, hl, ho⟩ := ho
  refine ⟨css, ht, hl, ?_⟩
  rcases ho with ho | ⟨g, cap, cur, h1, h2, h3⟩
  · exact .inl ho
  · exact .inr ⟨g, cap, cur, h1, Nat.le_trans hb h2, h3⟩
theorem OwnP.keep {h h' : Heap} (x : U32 h h') {base : Nat} {v : Value} {p : Pol} (ho : OwnP h base v p) (hk : ∀ k, v.ownBlock = some k → base ≤ k → h'[k]? = h[k]?) : OwnP h' base v p := by
  obtain ⟨css, ht, ho⟩ := ho; exact ⟨css, ht.u32 x, ho.keep hk⟩

theorem CellsAt.of_flatten {h : Heap} {g : Nat} {css : List (List Value)} (ha : All6 css) (hc : CellsAt h g 0 css.flatten) {j : Nat} (hj : j < css.length) : CellsAt h g (j * 6) css[j] := CellsAt.mk fun i v hi => by
  have h6 := ha _ (List.getElem_mem hj)
  have hlt : i < 6 := by rw [← h6]; exact (List.getElem?_eq_some_iff.1 hi).1
  have := hc.get (j * 6 + i) v (by rw [ha.get j hj i hlt]; exact hi)
  rwa [Nat.zero_add] at this

theorem OwnP.poly {h : Heap} {base : Nat} {v : Value} {p : Pol} (ho : OwnP h base v p) : PolyAt h v p := by
  obtain ⟨css, ht, ho⟩ := ho
  obtain ⟨a, cap, hv, hc, hz, hty⟩ : ∃ a cap, v = .slice a p.length cap ∧ p.length ≤ cap ∧ (a = none → cap = 0) ∧ TyOk h a p := by
    rcases ho.2 with ⟨hv, h0⟩ | ⟨g, cap, cur, hv, hb, hg, hn, hm, hs, ht⟩
    · exact ⟨none, 0, by rw [hv, h0], by omega, fun _ => rfl, fun _ _ _ e => by cases e⟩
    · exact ⟨_, cap, hv, hn, fun e => (by cases e), fun b off s e _ => ⟨cur, (0, 0), by injection e with e; injection e with e1 _ _; rw [← e1]; exact hg⟩⟩
  refine ⟨a, cap, hv, ⟨hc, hz, hty⟩, fun hne => ?_⟩
  obtain ⟨g, cap', hv', h1, h2, h3, hcs, -⟩ := ho.cells (by simpa using hne)
  rw [hv] at hv'
  injection hv' with e1 e2 e3
  refine ⟨g, 0, e1, fun j hj => ⟨css[j]'(by have := ht.1; omega), ht.2 j (by have := ht.1; omega) hj, ?_⟩⟩
  rw [Nat.zero_add]
  exact CellsAt.of_flatten ht.all6 hcs _

/-- an element of a slice of the call's own -/
theorem OwnP.at {h : Heap} {base : Nat} {v : Value} {p : Pol} (ho : OwnP h base v p) (hne : p ≠ []) : ∃ g cap, v = .slice (some ⟨g, 0, none⟩) p.length cap ∧ base ≤ g ∧ g < h.size ∧ p.length ≤ cap ∧ (∃ c, h[g]? = some (.cells c t_checkpoly_Term (0, 0))) := by
  obtain ⟨css, ht, ho⟩ := ho
  obtain ⟨g, cap', hv', h1, h2, h3, hcs, c, hc, -⟩ := ho.cells (by simpa using hne)
  exact ⟨g, cap', hv', h3, lt_of_get hc, h1, c, hc⟩

theorem OwnP.block {h : Heap} {base : Nat} {v : Value} {p : Pol} (ho : OwnP h base v p) {k : Nat} (hk : v.ownBlock = some k) : base ≤ k ∧ k < h.size ∧ ∃ cur, h[k]? = some (.cells cur t_checkpoly_Term (0, 0)) := by
  obtain ⟨css, ht, ho⟩ := ho; exact ho.block hk

/-- append of one term -/
theorem DRun.term {t1 ty : TypeId} {ti : TI} (ht1 : E.ty t1 = some ti) (htd : ti.td = .slice t_checkpoly_Term) {h : Heap} {base : Nat} {v : Value} {p : Pol} (ho : OwnP h base v p) {b : Nat} {cs : List Value} {t : Term1}
    (hn : Whole h b t_checkpoly_Term cs) (ht : TermAt h cs t) (hlen : p.length < 100000000) (hbase : base ≤ h.size) {K : Value → Heap → Prop}
    (hk : ∀ v' h', OwnP h' base v' (p ++ [t]) → Grown h h' v.ownBlock → U32 h h' → K v' h') :
    DRun E (Builtin.append_ #[t1, t1] ty #[v, .slice (some ⟨b, 0, none⟩) 1 1]) h K := by
  obtain ⟨css, hts, ho⟩ := ho
  refine DRun.append hE ht1 htd (e := t_checkpoly_Term) rfl ho (by decide) (b := b) (off := 0) (m := 1) (c := 1) (news := cs) (by rw [ht.len]; rfl) hn.cellsAt (fun u hu => List.all_eq_true.1 ht.ones u hu) (by omega) ?_ hbase ?_
  · show (p.length + 1) * 64 ≤ _; omega
  · intro v' h' ho' hg _
    have hu : U32 h h' := hg.u32 fun k hk => by
      obtain ⟨-, -, c, hc⟩ := ho.block hk
      exact ⟨c, _, _, hc, by decide⟩
    refine hk v' h' ⟨css ++ [cs], ?_, ?_⟩ hg hu
    · exact (hts.append (TermsIn.one ht)).u32 hu
    · simpa using ho'

theorem splice_append {A B vs : List Value} {off : Nat} (h : off + vs.length ≤ A.length) : splice (A ++ B) off vs = splice A off vs ++ B := by
  unfold splice
  rw [List.take_append_of_le_length (by omega), List.drop_append_of_le_length (by omega)]
  simp only [List.append_assoc]
theorem splice_length {A vs : List Value} {off : Nat} (h : off + vs.length ≤ A.length) : (splice A off vs).length = A.length := by
  unfold splice; simp only [List.length_append, List.length_take, List.length_drop]; omega
theorem splice_take {c vs : List Value} {off k : Nat} (h : off + vs.length ≤ k) (hk : k ≤ c.length) : (splice c off vs).take k = splice (c.take k) off vs := by
  have hl : (c.take k).length = k := by rw [List.length_take]; omega
  conv => lhs; rw [← List.take_append_drop k c]
  rw [splice_append (by omega), List.take_append_of_le_length (by rw [splice_length (by omega), hl]; exact Nat.le_refl _), List.take_of_length_le (by rw [splice_length (by omega), hl]; exact Nat.le_refl _)]

/-- a store into a slice of the call's own -/
theorem DStore.own {n g off m cap base size : Nat} {e : TypeId} {v : Value} {h : Heap} {vs xs : List Value} {K : Heap → Prop} (ho : Own h base e size (.slice (some ⟨g, 0, none⟩) n cap) n xs) (hv : v.cells = vs.toArray) (hl : vs.length = m) (hfit : off + m ≤ xs.length) (h1 : vs.all Value.oneCell' = true)
    (hk : ∀ o h', Upd h g o h' → Own h' base e size (.slice (some ⟨g, 0, none⟩) n cap) n (splice xs off vs) → K h') : DStore m g off v h K := by
  obtain ⟨hx, ho⟩ := ho
  rcases ho with ⟨h0, -⟩ | ⟨g', cap', cur, he, hb, hg, hn, hm, hs, ht⟩
  · cases h0
  · injection he with e1 e2 e3
    injection e1 with e1
    injection e1 with e1 _
    subst e1 e3
    have hxl : xs.length ≤ cur.toList.length := by rw [← ht]; simp; omega
    refine DStore.intro (c := cur.toList) (by simpa using hg) hv hl (by omega) (fun u hu => List.all_eq_true.1 h1 u hu) ?_
    intro h' hu
    refine hk _ h' hu ⟨?_, .inr ⟨g, cap, _, rfl, hb, hu.at_, hn, hm, ?_, ?_⟩⟩
    · unfold splice; simp only [List.length_append, List.length_take, List.length_drop]; omega
    · unfold splice; simp only [List.size_toArray, List.length_append, List.length_take, List.length_drop]; rw [← hs]; simp only [Array.length_toList] at *; omega
    · show (splice cur.toList off vs).take (n * size) = _
      rw [splice_take (by omega) (by omega), ht]

/-- the head of a slice of the call's own -/
theorem Own.head {h : Heap} {base : Nat} {e : TypeId} {size n : Nat} {a : Option Addr} {cap : Nat} {xs : List Value} (ho : Own h base e size (.slice a n cap) n xs) (k : Nat) (hk : k ≤ n) : Own h base e size (.slice a k cap) k (xs.take (k * size)) := by
  obtain ⟨hx, ho⟩ := ho
  have hmul : k * size ≤ n * size := Nat.mul_le_mul_right _ hk
  refine ⟨by rw [List.length_take]; omega, ?_⟩
  rcases ho with ⟨h0, hn⟩ | ⟨g, cap', cur, he, hb, hg, hn, hm, hs, ht⟩
  · injection h0 with e1 e2 e3
    exact .inl ⟨by rw [e1, e3, show k = 0 by omega], by omega⟩
  · injection he with e1 e2 e3
    subst e1 e3
    refine .inr ⟨g, cap, cur, rfl, hb, hg, by omega, hm, hs, ?_⟩
    rw [← ht, List.take_take, Nat.min_eq_left hmul]

theorem OwnP.head {h : Heap} {base : Nat} {a : Option Addr} {cap : Nat} {p : Pol} (ho : OwnP h base (.slice a p.length cap) p) (k : Nat) (hk : k ≤ p.length) : OwnP h base (.slice a k cap) (p.take k) := by
  obtain ⟨css, ht, ho⟩ := ho
  refine ⟨css.take k, ht.take k, ?_⟩
  rw [← ht.all6.take, List.length_take, Nat.min_eq_left hk]
  exact ho.head k hk

/-- what a slice of the call's own holds -/
theorem OwnP.get {h : Heap} {base : Nat} {g n cap : Nat} {p : Pol} (ho : OwnP h base (.slice (some ⟨g, 0, none⟩) n cap) p) {j : Nat} (hj : j < p.length) : ∃ cs, TermAt h cs p[j] ∧ CellsAt h g (j * 6) cs := by
  obtain ⟨css, ht, ho⟩ := ho
  obtain ⟨g', cap', hv', h1, h2, h3, hcs, -⟩ := ho.cells (by omega)
  injection hv' with e1 e2 e3
  injection e1 with e1
  injection e1 with e1 _
  subst e1
  exact ⟨css[j]'(by have := ht.1; omega), ht.2 j (by have := ht.1; omega) hj, CellsAt.of_flatten ht.all6 hcs _⟩

theorem set_self_splice {cs vs : List Value} (h : vs.length = cs.length) : splice cs 0 vs = vs := by unfold splice; simp [h]

/-- one element is rewritten -/
theorem DStore.ownTerm {g off cap base : Nat} {v : Value} {h : Heap} {p : Pol} {K : Heap → Prop} (j : Nat) {cs : List Value} {t : Term1} (hoff : off = j * 6) (ho : OwnP h base (.slice (some ⟨g, 0, none⟩) p.length cap) p) (hj : j < p.length) (ht : TermAt h cs t) (hv : v = .agg cs.toArray)
    (hk : ∀ o h', Upd h g o h' → U32 h h' → OwnP h' base (.slice (some ⟨g, 0, none⟩) p.length cap) (p.set j t) → K h') : DStore 6 g off v h K := by
  subst hoff hv
  obtain ⟨css, hts, ho⟩ := ho
  obtain ⟨-, -, c, hc⟩ := ho.block (k := g) rfl
  have hl := hts.1
  refine DStore.own ho rfl ht.len (by rw [hts.all6.len]; omega) ht.ones ?_
  intro o h' hu ho'
  have hu32 : U32 h h' := hu.u32 hc (by decide)
  refine hk o h' hu hu32 ⟨css.set j cs, (hts.set ht).u32 hu32, ?_⟩
  rw [show j * 6 = j * 6 + 0 from rfl, hts.all6.splice j (by omega) 0 cs (by rw [ht.len]; decide), set_self_splice (by rw [ht.len, hts.all6 _ (List.getElem_mem _)]), ] at ho'
  rw [List.length_set]; exact ho'

/-- a coefficient is rewritten -/
theorem DStore.ownCoef {g off cap base : Nat} {v : Value} {h : Heap} {p : Pol} {K : Heap → Prop} (j : Nat) {z : Int} (hoff : off = j * 6) (ho : OwnP h base (.slice (some ⟨g, 0, none⟩) p.length cap) p) (hj : j < p.length) (hz : IntAt h v z)
    (hk : ∀ o h', Upd h g o h' → U32 h h' → OwnP h' base (.slice (some ⟨g, 0, none⟩) p.length cap) (p.set j (z, p[j].2)) → K h') : DStore 2 g off v h K := by
  subst hoff
  obtain ⟨css, hts, ho⟩ := ho
  obtain ⟨-, -, c, hc⟩ := ho.block (k := g) rfl
  have hl := hts.1
  have hz0 := hz
  obtain ⟨a, cp, rfl, -⟩ := hz
  refine DStore.own (vs := [_, _]) ho rfl rfl (by rw [hts.all6.len]; omega) rfl ?_
  intro o h' hu ho'
  have hu32 : U32 h h' := hu.u32 hc (by decide)
  have hjc : j < css.length := by omega
  obtain ⟨hl4, c1, c2, hcs, hi⟩ := hts.2 j hjc hj
  have htn : TermAt h (.bool (decide (z < 0)) :: .slice a (digs z.natAbs).length cp :: expV p[j].2) (z, p[j].2) := ⟨hl4, _, _, rfl, hz0⟩
  refine hk o h' hu hu32 ⟨_, (hts.set htn).u32 hu32, ?_⟩
  rw [show j * 6 = j * 6 + 0 from rfl, hts.all6.splice j hjc 0 _ (by simp), hcs] at ho'
  rw [List.length_set]; exact ho'
end Go.Vc
