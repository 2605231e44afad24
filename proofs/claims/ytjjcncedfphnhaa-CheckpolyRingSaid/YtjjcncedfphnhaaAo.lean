/- append to a slice of the call's own: where the new slice lies. -/
import Derived.Test.YtjjcncedfphnhaaEx
namespace Go.Vc
open Go.Proofs

/-- append of one term; the new slice lies where the old one lay, or is new -/
theorem DRun.term2 {t1 ty : TypeId} {ti : TI} (ht1 : E.ty t1 = some ti) (htd : ti.td = .slice t_checkpoly_Term) {h : Heap} {base : Nat} {v : Value} {p : Pol} (ho : OwnP h base v p) {b : Nat} {cs : List Value} {t : Term1}
    (hn : Whole h b t_checkpoly_Term cs) (ht : TermAt h cs t) (hlen : p.length < 100000000) (hbase : base ≤ h.size) {K : Value → Heap → Prop}
    (hk : ∀ v' h', OwnP h' base v' (p ++ [t]) → Grown h h' v.ownBlock → U32 h h' → (∀ k, v'.ownBlock = some k → v.ownBlock = some k ∨ h.size ≤ k) → K v' h') :
    DRun E (Builtin.append_ #[t1, t1] ty #[v, .slice (some ⟨b, 0, none⟩) 1 1]) h K := by
  obtain ⟨css, hts, ho⟩ := ho
  refine DRun.intro fun w hw => ?_
  subst hw
  have h2 := (hE.tab t1 ti ht1).td
  rw [htd] at h2
  obtain ⟨i, hi, his, hib, hiz⟩ := (hE.tab t_checkpoly_Term _ rfl).info
  have hz := (hE.tab t_checkpoly_Term _ rfl).zsize
  have hnews : ∀ j u, cs[j]? = some u → w.cell? ((⟨b, 0, none⟩ : Addr).add j) = some u := fun j u hu => by rw [addr_add, cell?_eq]; exact hn.cellsAt.get j u hu
  have h1 : ∀ u ∈ cs, u.oneCell' = true := fun u hu => List.all_eq_true.1 ht.ones u hu
  have hl : cs.length = 1 * 6 := by rw [ht.len]
  have hbytes : (p.length + 1) * 64 ≤ 140737488355328 := by omega
  obtain ⟨v', w', hr, ho', hg, hnil⟩ := run_append_own (P := E.P) w base t1 ty t_checkpoly_Term i _ 6 64 h2 hi hiz his hib hz (by decide) v p.length css.flatten ho ⟨b, 0, none⟩ 1 1 cs hl hnews h1 (by unfold maxLen; omega) hbytes hbase
  have hg' : Grown w.heap w'.heap v.ownBlock := ⟨hg.size, fun k hk hne => hg.block k hk hne⟩
  have hu : U32 w.heap w'.heap := hg'.u32 fun k hk => by
    obtain ⟨-, -, c, hc⟩ := Own.block (h := w.heap) ho hk
    exact ⟨c, _, _, hc, by decide⟩
  have hblock : ∀ k, v'.ownBlock = some k → v.ownBlock = some k ∨ w.heap.size ≤ k := by
    rcases ho.2 with ⟨rfl, h0⟩ | ⟨g, cap, cur, rfl, hb, hgg, hnc, hcm, hcs, htake⟩
    · have hown : Own w.heap w.heap.size t_checkpoly_Term 6 (.slice none 0 0) p.length css.flatten := ⟨ho.1, .inl ⟨rfl, h0⟩⟩
      obtain ⟨v2, w2, hr2, ho2, -, -⟩ := run_append_own (P := E.P) w w.heap.size t1 ty t_checkpoly_Term i _ 6 64 h2 hi hiz his hib hz (by decide) _ p.length css.flatten hown ⟨b, 0, none⟩ 1 1 cs hl hnews h1 (by unfold maxLen; omega) hbytes (Nat.le_refl _)
      rw [hr] at hr2
      injection hr2 with e1 e2
      subst e1 e2
      exact fun k hk => .inr (Own.block (h := w'.heap) ho2 hk).1
    · by_cases hroom : p.length + 1 ≤ cap
      · have hr2 := run_append_room (P := E.P) w t1 ty t_checkpoly_Term i h2 hi g p.length cap cur hgg ⟨b, 0, none⟩ 1 1 cs (by rw [his]; exact hl) hnews h1 hroom (by rw [his, hl, hcs]; show p.length * 6 + 1 * 6 ≤ cap * 6; omega)
        rw [hr] at hr2
        injection hr2 with e1 e2
        subst e1
        exact fun k hk => .inl hk
      · have holds := World.ownsRow.cells ho (g := g) rfl
        have hr2 := run_append_grow (P := E.P) w t1 ty t_checkpoly_Term i _ h2 hi hiz ⟨g, 0, none⟩ p.length cap css.flatten (by rw [his]; exact ho.1) holds ⟨b, 0, none⟩ 1 1 cs (by rw [his]; exact hl) hnews (by omega) (by omega) (growslice_fits (by omega) (by rw [hib]; exact hbytes))
        rw [hr] at hr2
        injection hr2 with e1 e2
        subst e1
        intro k hk
        right
        simp [Value.ownBlock] at hk
        omega
  refine ⟨v', w', hr, ⟨hg.os, hg.tape, hg.output⟩, hk v' w'.heap ⟨css ++ [cs], (hts.append (TermsIn.one ht)).u32 hu, ?_⟩ hg' hu hblock⟩
  have : Own w'.heap base t_checkpoly_Term 6 v' (p.length + 1) (css.flatten ++ cs) := ho'
  simpa using this

/-- an append to another row of terms leaves a polynomial -/
theorem PolyAt.away {h h' : Heap} {r : Option Nat} (g : Grown h h' r) (hu : U32 h h') {v : Value} {p : Pol} (hp : PolyAt h v p) (hr : p ≠ [] → ∀ k, r = some k → v.ownBlock ≠ some k) : PolyAt h' v p := by
  obtain ⟨a, cap, rfl, ⟨h1, h2, h3⟩, hA⟩ := hp
  refine ⟨a, cap, rfl, ⟨h1, h2, fun b off s e hne => ?_⟩, fun hne => ?_⟩
  · obtain ⟨c, fr, hb⟩ := h3 b off s e hne
    refine ⟨c, fr, g.at hb fun e' => ?_⟩
    subst e
    exact hr hne b e'.symm rfl
  · obtain ⟨b, off, rfl, hc⟩ := hA hne
    obtain ⟨c, fr, hb⟩ := h3 b off none rfl hne
    have hb' : h'[b]? = h[b]? := by rw [g.at hb fun e' => hr hne b e'.symm rfl, hb]
    refine ⟨b, off, rfl, fun j hj => ?_⟩
    obtain ⟨cs, ht, hcs⟩ := hc j hj
    refine ⟨cs, ht.u32 hu, CellsAt.mk fun k w hk => ?_⟩
    have := hcs.get k w hk
    unfold cell at this ⊢
    rw [hb']; exact this

theorem PolyAt.lt {h : Heap} {v : Value} {p : Pol} (hp : PolyAt h v p) (hne : p ≠ []) {k : Nat} (hk : v.ownBlock = some k) : k < h.size := by
  obtain ⟨a, cap, rfl, ⟨h1, h2, h3⟩, hA⟩ := hp
  obtain ⟨b, off, rfl, -⟩ := hA hne
  simp [Value.ownBlock] at hk
  subst hk
  obtain ⟨c, fr, hb⟩ := h3 b off none rfl hne
  exact lt_of_get hb

theorem slV_block {size cap l n : Nat} {a : Option Addr} {len : Nat} {k : Nat} (h : (slV size a cap l n).ownBlock = some k) : (Value.slice a len cap).ownBlock = some k := by
  unfold slV at h
  cases a with
  | none => split at h <;> simp [Value.ownBlock] at h
  | some ad =>
    obtain ⟨b, off, s⟩ := ad
    split at h
    · exact h
    · simp only [Option.map_some, Value.ownBlock, Addr.add] at h ⊢
      split at h <;> simpa using h
end Go.Vc
