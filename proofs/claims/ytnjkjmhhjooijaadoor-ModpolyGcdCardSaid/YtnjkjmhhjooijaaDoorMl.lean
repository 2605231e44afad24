/- modular.IsPrime for numbers with a small divisor; the sort of few polynomials. -/
import Derived.Test.YtnjkjmhhjooijaaDoorMk
import Derived.Laws.Strings
namespace Go.Vc
open Go.Proofs

theorem part_int {e : TypeId} {k : IntKind} (hu : E.P.underlying e = some (.int k)) {xs : Array Value} {off : Nat} {v : Value} (hx : xs[off]? = some v) (w : World) : (part e xs off).run E.P w = .ok v w := by
  unfold part
  have ha : (isAgg e).run E.P w = .ok false w := by simp [isAgg, run_underlying hu]
  rw [Sem.run_bind, ha]
  simp [hx]

theorem index_u32x5 (e : List Nat) (k : Nat) (he : e.length = 5) (hk : k < 5) {K : Value → Prop} (hK : K (vnum .u32 (co e k))) : DPure E (Instr.index t_5_uint32 (.agg (e.map (vnum .u32)).toArray) (.int .i64 k)) K := by
  have hv : co e k = e[k]'(by omega) := co_lt (by omega)
  rw [hv] at hK
  refine DPure.intro _ (fun w => ?_) hK
  have hu : E.P.underlying t_5_uint32 = some (.array 5 t_uint32) := by kernel_rfl
  have hi : E.P.underlying t_uint32 = some (.int .u32) := by kernel_rfl
  have hs : (sizeOf t_uint32).run E.P w = .ok 1 w := (hE.tab t_uint32 _ rfl).size w
  unfold Instr.index
  have hp := part_int hi (xs := (e.map (vnum .u32)).toArray) (off := k) (v := vnum .u32 (e[k]'(by omega))) (by simp [he, hk]) w
  simp [asIntOf, run_underlying hu, hs, hp, hk]

/-- the first of these that divides n -/
def smallDivs : List Nat := [2, 3, 5, 7, 61]
theorem isPrime_low (h : Heap) (n : Nat) (hn : n < 2) : Spec E.P f_modular_IsPrime #[vnum .u32 n] h (fun v' h' => h' = h ∧ v' = .bool false) := by
  refine Spec.intro hE (args := [_]) F_modular_IsPrime rfl rfl (Nat.le_of_ble_eq_true rfl) ?_
  refine bsp.dec (p := (n : Int) < 2) (fun _ => ⟨rfl, rfl⟩) (fun hc => ?_)
  exfalso; omega
theorem isPrime_div (h : Heap) (n j : Nat) (hn : n < 4294967296) (hn2 : 2 ≤ n) (hj : j < 5) (hd : n % co smallDivs j = 0) (hfirst : ∀ i, i < j → n % co smallDivs i ≠ 0) :
    Spec E.P f_modular_IsPrime #[vnum .u32 n] h (fun v' h' => h' = h ∧ v' = .bool (decide (n = co smallDivs j))) := by
  refine Spec.intro hE (args := [_]) F_modular_IsPrime rfl rfl (Nat.le_of_ble_eq_true rfl) ?_
  refine bsp.dec (p := (n : Int) < 2) (fun hc => ?_) (fun _ => ?_)
  · exfalso; omega
  refine DPure.build (smallDivs.map (vnum .u32)) (by kernel_rfl) ?_
  refine DLoop.intro hE (ι := Nat) (fun i => [(11, .int .i64 i), (10, .agg (smallDivs.map (vnum .u32)).toArray), (0, vnum .u32 n)]) (fun i h' => h' = h ∧ i ≤ j) (fun i => j - i) 0 rfl ⟨rfl, rfl, rfl, trivial⟩ ⟨rfl, Nat.zero_le _⟩ ?_
  rintro i h' ⟨rfl, hi⟩
  refine bsp.dec (p := (i : Int) < 5) (fun _ => ?_) (fun hc => ?_)
  · refine index_u32x5 smallDivs i rfl (by omega) ?_
    have hpos : co smallDivs i ≠ 0 := by
      match i, (show i < 5 by omega) with
      | 0, _ => decide
      | 1, _ => decide
      | 2, _ => decide
      | 3, _ => decide
      | 4, _ => decide
    refine ⟨by omega, ?_⟩
    refine bsp.intro (b := (Int.tmod (n : Int) (co smallDivs i : Int) == 0)) (fun hb => ?_) (fun hb => ?_) <;> rw [tmod_nat] at hb
    · have hz : n % co smallDivs i = 0 := by simp at hb; omega
      obtain rfl : i = j := by
        rcases Nat.lt_or_ge i j with h | h
        · exact absurd hz (hfirst i h)
        · omega
      refine ⟨rfl, ?_⟩
      show Value.bool _ = Value.bool _
      congr 1
      rw [Bool.eq_iff_iff]
      simp only [beq_iff_eq, decide_eq_true_eq]
      omega
    · have hz : n % co smallDivs i ≠ 0 := by simp at hb; omega
      have : i ≠ j := fun e => hz (by rw [e]; exact hd)
      refine DWrap.is ((i + 1 : Nat) : Int) (by omega) (by omega) ?_
      exact ⟨i + 1, ⟨rfl, rfl, rfl, trivial⟩, ⟨rfl, by omega⟩, by omega⟩
  · exfalso; omega

theorem DPure.strIdx {t : TypeId} {s : ByteArray} {i : Nat} (hu : E.P.underlying t = some .string) (hs : i < s.size) {K : Value → Prop} (hk : ∀ b : Nat, b < 256 → K (.int .u8 b)) : DPure E (Instr.index t (.string s) (.int .u8 (i : Int))) K := by
  refine DPure.intro (.int .u8 ((s[i]).toNat : Nat)) (fun w => ?_) (hk _ (s[i]).toNat_lt)
  rw [run_index_string w _ _ _ _ hu, dif_pos ⟨by omega, by omega⟩]
  rfl

theorem Len64_small (h : Heap) (n : Nat) (hn : n < 256) : Spec E.P f_bits_Len64 #[vnum .u64 n] h (fun v' h' => h' = h ∧ ∃ k : Nat, v' = .int .i64 k ∧ k ≤ 255) := by
  refine Spec.intro hE (args := [_]) F_bits_Len64 rfl rfl (Nat.le_of_ble_eq_true rfl) ?_
  refine DJoin.split hE rfl ?_
  refine bsp.dec (p := (n : Int) ≥ 4294967296) (fun hc => ?_) (fun _ => ?_)
  · exfalso; omega
  refine DJoin.split hE rfl ?_
  refine bsp.dec (p := (n : Int) ≥ 65536) (fun hc => ?_) (fun _ => ?_)
  · exfalso; omega
  refine DJoin.split hE rfl ?_
  refine bsp.dec (p := (n : Int) ≥ 256) (fun hc => ?_) (fun _ => ?_)
  · exfalso; omega
  refine DWrap.eq (m := (n : Nat)) (by rw [IntKind.wrap_u8]; omega) ?_
  have hu : E.P.underlying t_string = some .string := by kernel_rfl
  refine DPure.strIdx hu (Nat.lt_of_lt_of_eq hn (by kernel_rfl)) fun b hb => ?_
  refine DWrap.is (b : Int) rfl (by omega) ?_
  refine DWrap.is (b : Int) (by omega) (by omega) ?_
  exact ⟨rfl, b, rfl, by omega⟩
theorem Len_small (h : Heap) (n : Nat) (hn : n < 256) : Spec E.P f_bits_Len #[vnum .u64 n] h (fun v' h' => h' = h ∧ ∃ k : Nat, v' = .int .i64 k ∧ k ≤ 255) := by
  refine Spec.intro hE (args := [_]) F_bits_Len rfl rfl (Nat.le_of_ble_eq_true rfl) ?_
  exact (Len64_small h n hn).mono fun _ _ hh => hh
end Go.Vc
