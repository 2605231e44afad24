/- IsPrime at 11, 13 and their squares. -/
import Derived.Test.YtnjkjmhhjooijaaDoorMl
namespace Go.Vc

def db32 : List Nat := [0, 1, 28, 2, 29, 14, 24, 3, 30, 22, 20, 15, 25, 17, 4, 8, 31, 27, 13, 23, 21, 19, 16, 7, 26, 12, 18, 6, 11, 5, 10, 9]
/-- the table of trailing zeros lies where the program laid it -/
def TabOk (h : Heap) : Prop := ∀ i, i < 32 → Vc.cell h 0 i = some (vnum .u8 (co db32 i))
theorem TabOk.ext {h h' : Heap} (x : Ext h h') (t : TabOk h) : TabOk h' := fun i hi => x.cell (t i hi)

theorem tz_any (h : Heap) (ht : TabOk h) (x y z u j : Nat) (hx0 : x ≠ 0) (hj : j < 32) (hy : IntKind.wrap .u32 (0 - (x : Int)) = (y : Int)) (hz : bits .and .u32 (x : Int) (y : Int) = (z : Int))
    (hu : IntKind.wrap .u32 ((z : Int) * 125613361) = (u : Int)) (hs : (u : Int).fdiv (2 ^ (min (Int.toNat 27) IntKind.u32.bits)) = (j : Int)) :
    Spec E.P f_bits_TrailingZeros32 #[vnum .u32 x] h (fun v' h' => h' = h ∧ v' = .int .i64 (co db32 j)) := by
  refine Spec.intro hE (args := [_]) F_bits_TrailingZeros32 rfl rfl (Nat.le_of_ble_eq_true rfl) ?_
  refine bsp.no (b := ((x : Int) == 0)) (by simp; omega) ?_
  refine DWrap.eq hy ?_
  refine DWrap.eq (m := (u : Int)) (by rw [hz]; exact hu) ?_
  refine ⟨by omega, ?_⟩
  rw [hs]
  refine DIdx.intro j rfl rfl hj ?_
  refine DLoad.scalar (by simpa using ht j hj) ?_
  have hlt : co db32 j < 32 := by
    have : ∀ i, i < 32 → co db32 i < 32 := by decide
    exact this j hj
  refine DWrap.is (co db32 j : Int) rfl (by omega) ?_
  exact ⟨rfl, rfl⟩

/-- powers of numbers -/
def mpowF (M : Nat) : Nat → Nat → Nat → Nat → Nat
  | 0, _, _, r => r
  | k + 1, n, a, r => if n = 0 then r else mpowF M k (n / 2) (a * a % M) (if n % 2 = 0 then r else r * a % M)
theorem mpowF_zero {M : Nat} : ∀ k a r, mpowF M k 0 a r = r
  | 0, _, _ => rfl
  | k + 1, _, _ => by show (if 0 = 0 then _ else _) = _; rw [if_pos rfl]
theorem mpowF_succ {M k n a r : Nat} (hn : n ≠ 0) : mpowF M (k + 1) n a r = mpowF M k (n / 2) (a * a % M) (if n % 2 = 0 then r else r * a % M) := by
  show (if n = 0 then _ else _) = _
  rw [if_neg hn]
theorem modPow_any (h : Heap) (a n m : Nat) (ha : a < 4294967296) (hn : n < 18446744073709551616) (hm0 : 0 < m) (hm : m < 4294967296) :
    Spec E.P f_modular_Pow #[vnum .u32 a, vnum .u64 n, vnum .u32 m] h (fun v' h' => h' = h ∧ v' = vnum .u32 (mpowF m n n a (1 % m))) := by
  refine Spec.intro hE (args := [_, _, _]) F_modular_Pow rfl rfl (Nat.le_of_ble_eq_true rfl) ?_
  have hmx : mx m = m := by unfold mx; omega
  refine (modulus_any h m hm).mono ?_
  rintro _ h ⟨rfl, rfl⟩
  rw [hmx]
  have hr0 : 1 % m < m := Nat.mod_lt _ hm0
  refine ⟨by omega, ?_⟩
  refine DWrap.eq (m := ((1 % m : Nat) : Int)) (by rw [show Int.tmod 1 (m : Int) = ((1 % m : Nat) : Int) from tmod_nat 1 m, IntKind.wrap_u32]; omega) ?_
  refine DLoop.intro hE (ι := Nat × Nat × Nat × Nat) (fun s => [(7, vnum .u32 s.2.2.2), (0, vnum .u32 s.2.2.1), (1, vnum .u64 s.1), (2, vnum .u32 m)])
    (fun s h' => h' = h ∧ s.1 < 18446744073709551616 ∧ s.1 ≤ s.2.1 ∧ s.2.2.1 < 4294967296 ∧ s.2.2.2 < 4294967296 ∧ mpowF m s.2.1 s.1 s.2.2.1 s.2.2.2 = mpowF m n n a (1 % m)) (fun s => s.1) (n, n, a, 1 % m) rfl ⟨rfl, rfl, rfl, rfl, trivial⟩ ⟨rfl, hn, Nat.le_refl _, ha, by dsimp only; omega, rfl⟩ ?_
  rintro ⟨e, k, b, r⟩ h' ⟨rfl, he, hek, hb, hr, hq⟩
  dsimp only at he hek hb hr hq ⊢
  refine bsp.dec (p := (e : Int) > 0) (fun hgt => ?_) (fun hle => ?_)
  · obtain ⟨k, rfl⟩ : ∃ j, k = j + 1 := ⟨k - 1, by omega⟩
    rw [mpowF_succ (by omega)] at hq
    have hlt : ∀ c d : Nat, c * d % m < m := fun c d => Nat.mod_lt _ hm0
    refine DJoin.cut hE (ι := Nat) (fun q => [(7, vnum .u32 q), (0, vnum .u32 b), (1, vnum .u64 e), (2, vnum .u32 m)]) (fun q h2 => h2 = h' ∧ q = (if e % 2 = 0 then r else r * b % m)) rfl ?_ ?_
    · refine bsp.intro (b := (bits .and .u64 (e : Int) 1 != 0)) (fun hc => ?_) (fun hc => ?_) <;> rw [bits1 e he] at hc
      · have hc' : e % 2 ≠ 0 := by simp at hc; omega
        refine (modMul_any h' r b m hr hb hm).mono ?_
        rintro _ h2 ⟨rfl, rfl⟩
        rw [hmx]
        exact ⟨r * b % m, ⟨rfl, rfl, rfl, rfl, trivial⟩, rfl, by rw [if_neg hc']⟩
      · have hc' : e % 2 = 0 := by simp at hc; omega
        exact ⟨r, ⟨rfl, rfl, rfl, rfl, trivial⟩, rfl, by rw [if_pos hc']⟩
    rintro q h2 ⟨rfl, hqe⟩
    rw [← hqe] at hq
    have hql : q < 4294967296 := by
      rw [hqe]; split
      · exact hr
      · exact Nat.lt_trans (hlt _ _) hm
    refine (modMul_any h2 b b m hb hb hm).mono ?_
    rintro _ h2 ⟨rfl, rfl⟩
    rw [hmx]
    refine ⟨by omega, ?_⟩
    rw [shr1 e]
    exact ⟨(e / 2, k, b * b % m, q), ⟨rfl, rfl, rfl, rfl, trivial⟩, ⟨rfl, by dsimp only; omega, by dsimp only; omega, Nat.lt_trans (hlt _ _) hm, hql, hq⟩, by dsimp only; omega⟩
  · obtain rfl : e = 0 := by omega
    rw [mpowF_zero] at hq
    rw [hq]
    exact ⟨rfl, rfl⟩

/-- is n a probable prime to that base? -/
def probL (n : Nat) : Nat → Nat → Bool
  | 0, _ => false
  | k + 1, x => x * x % n == n - 1 || probL n k (x * x % n)
def probM (n base t : Nat) : Bool := mpowF n ((n - 1) / 2 ^ t) ((n - 1) / 2 ^ t) base (1 % n) == 1 || mpowF n ((n - 1) / 2 ^ t) ((n - 1) / 2 ^ t) base (1 % n) == n - 1 || probL n (t - 1) (mpowF n ((n - 1) / 2 ^ t) ((n - 1) / 2 ^ t) base (1 % n))
theorem mpowF_lt {M : Nat} (hM : 0 < M) : ∀ k n a r, r < M → mpowF M k n a r < M
  | 0, _, _, _, h => h
  | k + 1, n, a, r, h => by
    unfold mpowF
    split
    · exact h
    · refine mpowF_lt hM k _ _ _ ?_
      split
      · exact h
      · exact Nat.mod_lt _ hM
theorem probable_any (h : Heap) (n base t : Nat) (hn2 : 2 ≤ n) (hn : n < 4294967296) (hb : base < 4294967296) (ht : t ≤ 31) :
    Spec E.P f_modular_probable #[vnum .u32 n, vnum .u32 base, .int .i64 t] h (fun v' h' => h' = h ∧ v' = .bool (probM n base t)) := by
  refine Spec.intro hE (args := [_, _, _]) F_modular_probable rfl rfl (Nat.le_of_ble_eq_true rfl) ?_
  refine DWrap.eq (m := ((n - 1 : Nat) : Int)) (by rw [IntKind.wrap_u32]; omega) ?_
  refine DWrap.eq (m := ((n - 1 : Nat) : Int)) (by rw [IntKind.wrap_u64]; omega) ?_
  refine DWrap.eq (m := (t : Int)) (by rw [IntKind.wrap_u64]; omega) ?_
  refine ⟨by omega, ?_⟩
  have hsh : ((n - 1 : Nat) : Int).fdiv (2 ^ min (Int.toNat (t : Int)) IntKind.u64.bits) = (((n - 1) / 2 ^ t : Nat) : Int) := by
    rw [Int.toNat_natCast, Nat.min_eq_left (show t ≤ IntKind.u64.bits by show t ≤ 64; omega), Int.fdiv_eq_ediv_of_nonneg _ (Int.pow_nonneg (by decide)), Int.natCast_ediv, Int.natCast_pow]; rfl
  rw [hsh]
  have hdl : (n - 1) / 2 ^ t ≤ n - 1 := Nat.div_le_self _ _
  refine (modPow_any h base ((n - 1) / 2 ^ t) n hb (by omega) (by omega) hn).mono ?_
  rintro _ h ⟨rfl, rfl⟩
  have hlt := mpowF_lt (M := n) (by omega) ((n - 1) / 2 ^ t) ((n - 1) / 2 ^ t) base (1 % n) (Nat.mod_lt _ (by omega))
  unfold probM
  generalize mpowF n ((n - 1) / 2 ^ t) ((n - 1) / 2 ^ t) base (1 % n) = x at hlt
  refine bsp.intro (b := ((x : Int) == 1)) (fun h1 => ?_) (fun h1 => ?_)
  · have : x = 1 := by simp at h1; omega
    subst this
    exact ⟨rfl, rfl⟩
  have x1 : (x == 1) = false := by simp at h1 ⊢; omega
  rw [x1]
  refine DWrap.eq (m := ((n - 1 : Nat) : Int)) (by rw [IntKind.wrap_u32]; omega) ?_
  refine bsp.intro (b := ((x : Int) == ((n - 1 : Nat) : Int))) (fun h2 => ?_) (fun h2 => ?_)
  · have : (x == n - 1) = true := by simp at h2 ⊢; omega
    rw [this]
    exact ⟨rfl, rfl⟩
  have x2 : (x == n - 1) = false := by simp at h2 ⊢; omega
  rw [x2]
  rw [Bool.false_or, Bool.false_or]
  refine DLoop.intro hE (ι := Nat × Nat × Nat) (fun s => [(8, .int .i64 s.1), (7, vnum .u32 s.2.2), (2, .int .i64 t), (0, vnum .u32 n)])
    (fun s h' => h' = h ∧ 1 ≤ s.1 ∧ s.1 + s.2.1 = max 1 t ∧ s.2.2 < n ∧ probL n s.2.1 s.2.2 = probL n (t - 1) x) (fun s => s.2.1) (1, t - 1, x) rfl ⟨rfl, rfl, rfl, rfl, trivial⟩ ⟨rfl, Nat.le_refl _, by dsimp only; omega, hlt, rfl⟩ ?_
  rintro ⟨i, k, y⟩ h' ⟨rfl, hi, hk, hy, hq⟩
  dsimp only at hi hk hy hq ⊢
  refine bsp.dec (p := (i : Int) < t) (fun hlt2 => ?_) (fun hge => ?_)
  · obtain ⟨k, rfl⟩ : ∃ j, k = j + 1 := ⟨k - 1, by omega⟩
    refine (modMul_any h' y y n (by omega) (by omega) hn).mono ?_
    rintro _ h2 ⟨rfl, rfl⟩
    have hmx : mx n = n := by unfold mx; omega
    rw [hmx]
    have hlt3 := Nat.mod_lt (y * y) (show 0 < n by omega)
    have hq' : (y * y % n == n - 1 || probL n k (y * y % n)) = probL n (t - 1) x := hq
    generalize y * y % n = z at hlt3 hq'
    refine DWrap.eq (m := ((n - 1 : Nat) : Int)) (by rw [IntKind.wrap_u32]; omega) ?_
    refine bsp.intro (b := ((z : Int) == ((n - 1 : Nat) : Int))) (fun h3 => ?_) (fun h3 => ?_)
    · have : (z == n - 1) = true := by simp at h3 ⊢; omega
      rw [this] at hq'
      rw [← hq']
      exact ⟨rfl, rfl⟩
    have x3 : (z == n - 1) = false := by simp at h3 ⊢; omega
    rw [x3, Bool.false_or] at hq'
    refine DWrap.is ((i + 1 : Nat) : Int) (by omega) (by omega) ?_
    exact ⟨(i + 1, k, z), ⟨rfl, rfl, rfl, rfl, trivial⟩, ⟨rfl, by dsimp only; omega, by dsimp only; omega, hlt3, hq'⟩, by dsimp only; omega⟩
  · obtain rfl : k = 0 := by omega
    rw [← hq]
    exact ⟨rfl, rfl⟩

abbrev t_3_uint32 : TypeId := 106
def baseL : List Nat := [2, 7, 61]
theorem index_u32x3 (e : List Nat) (k : Nat) (he : e.length = 3) (hk : k < 3) {K : Value → Prop} (hK : K (vnum .u32 (co e k))) : DPure E (Instr.index t_3_uint32 (.agg (e.map (vnum .u32)).toArray) (.int .i64 k)) K := by
  have hv : co e k = e[k]'(by omega) := co_lt (by omega)
  rw [hv] at hK
  refine DPure.intro _ (fun w => ?_) hK
  have hu : E.P.underlying t_3_uint32 = some (.array 3 t_uint32) := by kernel_rfl
  have hi : E.P.underlying t_uint32 = some (.int .u32) := by kernel_rfl
  have hs : (sizeOf t_uint32).run E.P w = .ok 1 w := (hE.tab t_uint32 _ rfl).size w
  unfold Instr.index
  have hp := part_int hi (xs := (e.map (vnum .u32)).toArray) (off := k) (v := vnum .u32 (e[k]'(by omega))) (by simp [he, hk]) w
  simp [asIntOf, run_underlying hu, hs, hp, hk]
/-- a number that none of the small primes divides: the probable primes to the three bases -/
theorem isPrime_far (h : Heap) (n t : Nat) (hn : n < 4294967296) (hn2 : 2 ≤ n) (hd : ∀ i, i < 5 → n % co smallDivs i ≠ 0) (ht : t ≤ 31)
    (htz : Spec E.P f_bits_TrailingZeros32 #[vnum .u32 (n - 1)] h (fun v' h' => h' = h ∧ v' = .int .i64 t)) :
    Spec E.P f_modular_IsPrime #[vnum .u32 n] h (fun v' h' => h' = h ∧ v' = .bool (probM n 2 t && (probM n 7 t && probM n 61 t))) := by
  refine Spec.intro hE (args := [_]) F_modular_IsPrime rfl rfl (Nat.le_of_ble_eq_true rfl) ?_
  refine bsp.dec (p := (n : Int) < 2) (fun hc => ?_) (fun _ => ?_)
  · exfalso; omega
  refine DPure.build (smallDivs.map (vnum .u32)) (by kernel_rfl) ?_
  refine DLoop.intro hE (ι := Nat) (fun i => [(11, .int .i64 i), (10, .agg (smallDivs.map (vnum .u32)).toArray), (0, vnum .u32 n)]) (fun i h' => h' = h ∧ i ≤ 5) (fun i => 5 - i) 0 rfl ⟨rfl, rfl, rfl, trivial⟩ ⟨rfl, Nat.zero_le _⟩ ?_
  rintro i h' ⟨rfl, hi⟩
  refine bsp.dec (p := (i : Int) < 5) (fun hc => ?_) (fun hc => ?_)
  · refine index_u32x5 smallDivs i rfl (by omega) ?_
    have hpos : co smallDivs i ≠ 0 := by
      match i, (show i < 5 by omega) with
      | 0, _ => decide
      | 1, _ => decide
      | 2, _ => decide
      | 3, _ => decide
      | 4, _ => decide
    refine ⟨by omega, ?_⟩
    have hz := hd i (by omega)
    refine bsp.no (b := (Int.tmod (n : Int) (co smallDivs i : Int) == 0)) (by rw [tmod_nat]; simp; omega) ?_
    refine DWrap.is ((i + 1 : Nat) : Int) (by omega) (by omega) ?_
    exact ⟨i + 1, ⟨rfl, rfl, rfl, trivial⟩, ⟨rfl, by omega⟩, by omega⟩
  refine DWrap.eq (m := ((n - 1 : Nat) : Int)) (by rw [IntKind.wrap_u32]; omega) ?_
  refine htz.mono ?_
  rintro _ h2 ⟨rfl, rfl⟩
  refine DPure.build (baseL.map (vnum .u32)) (by kernel_rfl) ?_
  refine DLoop.intro hE (ι := Nat) (fun i => [(26, .int .i64 i), (25, .agg (baseL.map (vnum .u32)).toArray), (5, .int .i64 t), (0, vnum .u32 n)]) (fun i h' => h' = h2 ∧ i ≤ 3 ∧ ∀ j, j < i → probM n (co baseL j) t = true) (fun i => 3 - i) 0 rfl ⟨rfl, rfl, rfl, rfl, trivial⟩ ⟨rfl, Nat.zero_le _, fun j hj => absurd hj (Nat.not_lt_zero j)⟩ ?_
  rintro i h' ⟨rfl, hi, hpr⟩
  refine bsp.dec (p := (i : Int) < 3) (fun hc => ?_) (fun hc => ?_)
  · refine index_u32x3 baseL i rfl (by omega) ?_
    have hbl : co baseL i < 4294967296 := by
      match i, (show i < 3 by omega) with
      | 0, _ => decide
      | 1, _ => decide
      | 2, _ => decide
    refine (probable_any h' n (co baseL i) t hn2 hn hbl ht).mono ?_
    rintro _ h3 ⟨rfl, rfl⟩
    refine bsp.intro (b := !probM n (co baseL i) t) (fun hb => ?_) (fun hb => ?_)
    · refine ⟨rfl, ?_⟩
      have hb : probM n (co baseL i) t = false := by simpa using hb
      show Value.bool false = _
      congr 1
      match i, (show i < 3 by omega), hb with
      | 0, _, hb => rw [show probM n 2 t = false from hb]; rfl
      | 1, _, hb => rw [show probM n 7 t = false from hb, Bool.false_and, Bool.and_false]
      | 2, _, hb => rw [show probM n 61 t = false from hb, Bool.and_false, Bool.and_false]
    · have hb : probM n (co baseL i) t = true := by simpa using hb
      refine DWrap.is ((i + 1 : Nat) : Int) (by omega) (by omega) ?_
      refine ⟨i + 1, ⟨rfl, rfl, rfl, rfl, trivial⟩, ⟨rfl, by omega, fun j hj => ?_⟩, by omega⟩
      rcases Nat.lt_or_ge j i with h | h
      · exact hpr j h
      · obtain rfl : j = i := by omega
        exact hb
  · refine ⟨rfl, ?_⟩
    rw [show probM n 2 t = true from hpr 0 (by omega), show probM n 7 t = true from hpr 1 (by omega), show probM n 61 t = true from hpr 2 (by omega)]
    rfl

/-- the primes up to 13, and their squares -/
def smallL : List Nat := [2, 3, 5, 7, 11, 13]
theorem isPrime_small (h : Heap) (ht : TabOk h) (p : Nat) (hp : p ∈ smallL) : Spec E.P f_modular_IsPrime #[vnum .u32 p] h (fun v' h' => h' = h ∧ v' = .bool true) := by
  simp only [smallL, List.mem_cons, List.not_mem_nil, or_false] at hp
  rcases hp with rfl | rfl | rfl | rfl | rfl | rfl
  · exact isPrime_div h 2 0 (by decide) (by decide) (by decide) (by decide) (by decide)
  · exact isPrime_div h 3 1 (by decide) (by decide) (by decide) (by decide) (by decide)
  · exact isPrime_div h 5 2 (by decide) (by decide) (by decide) (by decide) (by decide)
  · exact isPrime_div h 7 3 (by decide) (by decide) (by decide) (by decide) (by decide)
  · exact isPrime_far h 11 1 (by decide) (by decide) (by decide) (by decide) (tz_any h ht 10 4294967286 2 251226722 1 (by decide) (by decide) (by decide) (by decide) (by decide) (by decide))
  · exact isPrime_far h 13 2 (by decide) (by decide) (by decide) (by decide) (tz_any h ht 12 4294967284 4 502453444 3 (by decide) (by decide) (by decide) (by decide) (by decide) (by decide))
theorem isPrime_square (h : Heap) (ht : TabOk h) (p : Nat) (hp : p ∈ smallL) : Spec E.P f_modular_IsPrime #[vnum .u32 (p * p)] h (fun v' h' => h' = h ∧ v' = .bool false) := by
  simp only [smallL, List.mem_cons, List.not_mem_nil, or_false] at hp
  rcases hp with rfl | rfl | rfl | rfl | rfl | rfl
  · exact isPrime_div h 4 0 (by decide) (by decide) (by decide) (by decide) (by decide)
  · exact isPrime_div h 9 1 (by decide) (by decide) (by decide) (by decide) (by decide)
  · exact isPrime_div h 25 2 (by decide) (by decide) (by decide) (by decide) (by decide)
  · exact isPrime_div h 49 3 (by decide) (by decide) (by decide) (by decide) (by decide)
  · exact isPrime_far h 121 3 (by decide) (by decide) (by decide) (by decide) (tz_any h ht 120 4294967176 8 1004906888 7 (by decide) (by decide) (by decide) (by decide) (by decide) (by decide))
  · exact isPrime_far h 169 3 (by decide) (by decide) (by decide) (by decide) (tz_any h ht 168 4294967128 8 1004906888 7 (by decide) (by decide) (by decide) (by decide) (by decide) (by decide))

/-- small: one of them -/
theorem small_any (h : Heap) (n : Nat) (hn : n < 256) : Spec E.P f_cylinderlaw10_small #[vnum .u8 n] h (fun v' h' => Ext h h' ∧ v' = vnum .u32 (co smallL (n % 6))) := by
  refine Spec.intro hE (args := [_]) F_cylinderlaw10_small rfl rfl (Nat.le_of_ble_eq_true rfl) ?_
  refine ⟨⟨rfl, by decide, rfl, rfl, rfl, rfl, rfl, rfl, rfl, rfl, rfl, rfl, rfl, rfl, trivial⟩, ?_⟩
  refine DNew.intro ?_
  intro b h1 hb hx1 hs1 hg1
  have hw : Whole h1 b t_uint32 (smallL.map (vnum .u32)) := hg1
  refine DWrap.is (n : Int) rfl (by omega) ?_
  have h6 : n % 6 < 6 := Nat.mod_lt _ (by decide)
  refine ⟨by decide, ?_⟩
  refine DIdx.intro (n % 6) rfl (tmod_nat n 6) (by omega) ?_
  refine DLoad.scalar (v := vnum .u32 (co smallL (n % 6))) ?_ ?_
  · rw [Nat.zero_add]
    refine hw.get (n % 6) ?_
    have : ∀ i, i < 6 → (smallL.map (vnum .u32))[i]? = some (vnum .u32 (co smallL i)) := fun i hi => by
      rw [List.getElem?_map, List.getElem?_eq_getElem (show i < smallL.length from hi), co_lt (show i < smallL.length from hi)]; rfl
    exact this _ h6
  exact ⟨hx1, rfl⟩
theorem small_mem (n : Nat) : co smallL (n % 6) ∈ smallL := by
  have : ∀ i, i < 6 → co smallL i ∈ smallL := by decide
  exact this _ (Nat.mod_lt _ (by decide))
theorem fld_small {p : Nat} (hp : p ∈ smallL) : Fld p where
  two := by
    have : ∀ p ∈ smallL, 2 ≤ p := by decide
    exact this p hp
  lt := by
    have : ∀ p ∈ smallL, p < 4294967296 := by decide
    exact this p hp
  inv a h1 h2 := by
    have : ∀ p ∈ smallL, ∀ a, a < p → 0 < a → ∃ x, x < p ∧ a * x % p = 1 := by decide
    exact this p hp a h2 h1
theorem small_lt {p : Nat} (hp : p ∈ smallL) : p ≤ 13 := by
  have : ∀ p ∈ smallL, p ≤ 13 := by decide
  exact this p hp
end Go.Vc
