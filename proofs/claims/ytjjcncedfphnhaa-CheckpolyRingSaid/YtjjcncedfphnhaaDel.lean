/- slices.Clone, slices.DeleteFunc on terms. -/
import Derived.Test.YtjjcncedfphnhaaRed
namespace Go.Vc
open Go.Proofs

theorem Own.spliced {h h' : Heap} {g n cap base size off : Nat} {e : TypeId} {vs xs : List Value} {cur : Array Value} (ho : Own h base e size (.slice (some ⟨g, 0, none⟩) n cap) n xs) (hg : h[g]? = some (.cells cur e (0, 0)))
    (hu : Upd h g (.cells (splice cur.toList off vs).toArray e (0, 0)) h') (hfit : off + vs.length ≤ xs.length) : Own h' base e size (.slice (some ⟨g, 0, none⟩) n cap) n (splice xs off vs) := by
  obtain ⟨hx, ho⟩ := ho
  rcases ho with ⟨h0, -⟩ | ⟨g', cap', cur', he, hb, hg', hn, hm, hs, ht⟩
  · cases h0
  · injection he with e1 e2 e3
    injection e1 with e1
    injection e1 with e1 _
    subst e1 e3
    rw [hg] at hg'
    injection hg' with hg'
    injection hg' with hg' _ _
    subst hg'
    have hxl : xs.length ≤ cur.toList.length := by rw [← ht]; simp; omega
    refine ⟨?_, .inr ⟨g, cap, _, rfl, hb, hu.at_, hn, hm, ?_, ?_⟩⟩
    · unfold splice; simp only [List.length_append, List.length_take, List.length_drop]; omega
    · unfold splice; simp only [List.size_toArray, List.length_append, List.length_take, List.length_drop]; rw [← hs]; simp only [Array.length_toList] at *; omega
    · show (splice cur.toList off vs).take (n * size) = _
      rw [splice_take (by omega) (by omega), ht]

theorem DRun.clearTerms {t : TypeId} {ti : TI} {ty : TypeId} (ht : E.ty t = some ti) (htd : ti.td = .slice t_checkpoly_Term) {h : Heap} {base : Nat} {g cap : Nat} {p : Pol} (ho : OwnP h base (.slice (some ⟨g, 0, none⟩) p.length cap) p) (k : Nat) (hk : k ≤ p.length) {K : Value → Heap → Prop}
    (hK : ∀ h', (∃ o, Upd h g o h') → U32 h h' → OwnP h' base (.slice (some ⟨g, 0, none⟩) p.length cap) (p.take k ++ List.replicate (p.length - k) zT) → K (.tuple #[]) h') :
    DRun E (Builtin.clear_ #[t] ty #[slV 6 (some ⟨g, 0, none⟩) cap k p.length]) h K := by
  refine DRun.intro fun w hw => ?_
  subst hw
  have h2 := (hE.tab t ti ht).td
  rw [htd] at h2
  have h2' : E.P.underlying t = some (.slice t_checkpoly_Term) := h2
  obtain ⟨c0, hc0⟩ : ∃ c, w.heap[g]? = some (.cells c t_checkpoly_Term (0, 0)) := by
    obtain ⟨-, -, c, hc⟩ := ho.block (k := g) rfl
    exact ⟨c, hc⟩
  by_cases hkn : k = p.length
  · have e : (slV 6 (some ⟨g, 0, none⟩) cap k p.length) = .slice (if cap = k then some ⟨g, 0, none⟩ else (some (⟨g, 0, none⟩ : Addr)).map (·.add (k * 6))) 0 (cap - k) := by
      unfold slV; rw [hkn, Nat.sub_self]
    have hr : ∀ (ad : Option Addr) (c : Nat), (Builtin.clear_ #[t] ty #[.slice ad 0 c]).run E.P w = .ok (.tuple #[]) w := by
      intro ad c
      cases ad <;> simp [Builtin.clear_, run_underlying h2']
    refine ⟨_, w, by rw [e]; exact hr _ _, Same.rfl, hK w.heap ⟨_, Upd.self hc0⟩ U32.rfl ?_⟩
    rw [hkn, Nat.sub_self, List.replicate_zero, List.append_nil, List.take_length]; exact ho
  · have hkl : k < p.length := by omega
    obtain ⟨css, hts, ho'⟩ := ho
    obtain ⟨g', cap', hv', h1, h2c, h3, hcs, cur, hcur, hcl, hct⟩ := ho'.cells (by omega)
    injection hv' with e1 e2 e3
    injection e1 with e1
    injection e1 with e1 _
    subst e1 e3
    have hz := (hE.tab t_checkpoly_Term _ rfl).zero w
    have e : (slV 6 (some ⟨g, 0, none⟩) cap k p.length) = .slice (some ⟨g, k * 6, none⟩) (p.length - k) (cap - k) := by
      rw [slV_at 6 g 0 cap k p.length (by omega), Nat.zero_add]
    have hzl : (Builtin.zeroCells (Value.agg #[.bool false, .slice none 0 0, .int .i64 0, .int .i64 0, .int .i64 0, .int .i64 0]).cells (p.length - k)) = (List.replicate (p.length - k) zC).flatten.toArray :=
      madeCells_eq (#[.bool false, .slice none 0 0, .int .i64 0, .int .i64 0, .int .i64 0, .int .i64 0] : Array Value) (p.length - k) rfl
    have hall := hts.all6
    have hlen := hts.1
    have hvl : (List.replicate (p.length - k) zC).flatten.length = (p.length - k) * 6 := by rw [(zTermsIn w.heap (p.length - k)).all6.len]; simp
    have hxl : css.flatten.length = p.length * 6 := by rw [hall.len, hlen]
    have hcurl : p.length * 6 ≤ cur.size := by rw [hcl]; omega
    have hones : ∀ v ∈ (List.replicate (p.length - k) zC).flatten, v.oneCell' = true := by
      intro v hv
      obtain ⟨l, hl, hvl⟩ := List.mem_flatten.1 hv
      rw [List.mem_replicate] at hl
      rw [hl.2] at hvl
      exact List.all_eq_true.1 (zTermAt w.heap).ones v hvl
    have hst := run_storeCells_at E.P g (k * 6) t_checkpoly_Term (List.replicate (p.length - k) zC).flatten 0 cur w hcur (by omega) hones
    have hup := setRow_upd (cs' := (splice cur.toList (k * 6) (List.replicate (p.length - k) zC).flatten).toArray) hcur
    have hu32 : U32 w.heap (w.setRow g (splice cur.toList (k * 6) (List.replicate (p.length - k) zC).flatten).toArray).heap := hup.u32 hcur (by decide)
    refine ⟨.tuple #[], w.setRow g (splice cur.toList (k * 6) (List.replicate (p.length - k) zC).flatten).toArray, ?_, same_setRow, hK _ ⟨_, hup⟩ hu32 ?_⟩
    · rw [e]
      unfold Builtin.clear_
      have hnk : p.length - k ≠ 0 := by omega
      simp only [Nat.add_zero] at hst
      have hst' : (storeCells ⟨g, k * 6, none⟩ (List.replicate (p.length - k) zC).flatten).run E.P w = .ok () (w.setRow g (splice cur.toList (k * 6) (List.replicate (p.length - k) zC).flatten).toArray) := hst
      clear hst
      obtain ⟨d, hd⟩ : ∃ d, p.length - k = d + 1 := ⟨p.length - k - 1, by omega⟩
      rw [hd] at hst' hzl ⊢
      simp [run_underlying h2', hz, hzl, hst']
    · have hsp := Own.spliced (off := k * 6) (xs := css.flatten) (vs := (List.replicate (p.length - k) zC).flatten) ho' hcur hup (by rw [hvl, hxl]; omega)
      refine ⟨css.take k ++ List.replicate (p.length - k) zC, ((hts.take k).append (zTermsIn _ _)).u32 hu32, ?_⟩
      have e5 : (p.take k ++ List.replicate (p.length - k) zT).length = p.length := by simp; omega
      have e6 : splice css.flatten (k * 6) (List.replicate (p.length - k) zC).flatten = (css.take k ++ List.replicate (p.length - k) zC).flatten := by
        unfold splice
        rw [hall.take, hvl, List.drop_of_length_le (by omega), List.append_nil, List.flatten_append]
      rw [e5, ← e6]; exact hsp
end Go.Vc
