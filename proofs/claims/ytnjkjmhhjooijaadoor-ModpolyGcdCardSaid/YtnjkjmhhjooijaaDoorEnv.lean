/- The table of types and the functions of the program, for the calculus. Laid by a program of ours (gen_env.py). -/
import Derived.Test.YtnjkjmhhjooijaaDoorProg
import Derived.Test.YtnjkjmhhjooijaaDoorVc
import Derived.KernelRfl
namespace Go.Vc
open Go.Proofs
def tabOk (P : Program) : List (Nat × TI) → Prop
  | [] => True
  | (t, ti) :: r => ti.ok P t ∧ tabOk P r
theorem tabOk.get {P : Program} : ∀ {l : List (Nat × TI)}, tabOk P l → ∀ t ti, lk l t = some ti → ti.ok P t
  | [], _, t, ti, h => by simp [lk] at h
  | (k, u) :: r, hs, t, ti, h => by
    rw [lk_cons] at h
    by_cases e : k = t
    · subst e; rw [if_pos rfl] at h; simp only [Option.some.injEq] at h; subst h; exact hs.1
    · rw [if_neg e] at h; exact hs.2.get t ti h
def tab : List (Nat × TI) := [
  (3, ⟨.int .i64, 1, 8, .int .i64 0⟩),
  (27, ⟨.int .u64, 1, 8, .int .u64 0⟩),
  (23, ⟨.int .u32, 1, 4, .int .u32 0⟩),
  (32, ⟨.slice 23, 1, 24, .slice none 0 0⟩),
  (66, ⟨.slice 32, 1, 24, .slice none 0 0⟩),
  (4, ⟨.bool, 1, 1, .bool false⟩),
  (77, ⟨.struct [(0, 4), (1, 75)], 2, 32, .agg #[.bool false, .slice none 0 0]⟩),
  (47, ⟨.int .i64, 1, 8, .int .i64 0⟩),
  (2, ⟨.int .i64, 1, 8, .int .i64 0⟩),
  (29, ⟨.slice 27, 1, 24, .slice none 0 0⟩),
  (108, ⟨.int .u64, 1, 8, .int .u64 0⟩),
  (136, ⟨.int .u64, 1, 8, .int .u64 0⟩),
  (75, ⟨.slice 23, 1, 24, .slice none 0 0⟩),
  (5, ⟨.int .u8, 1, 1, .int .u8 0⟩),
  (22, ⟨.slice 23, 1, 24, .slice none 0 0⟩),
  (74, ⟨.slice 77, 1, 24, .slice none 0 0⟩),
  (69, ⟨.array 3 22, 3, 72, .agg #[.slice none 0 0, .slice none 0 0, .slice none 0 0]⟩),
  (85, ⟨.slice 22, 1, 24, .slice none 0 0⟩),
  (24, ⟨.array 2 23, 2, 8, .agg #[.int .u32 0, .int .u32 0]⟩),
  (62, ⟨.int .u16, 1, 2, .int .u16 0⟩),
  (63, ⟨.array 3 62, 3, 6, .agg #[.int .u16 0, .int .u16 0, .int .u16 0]⟩),
  (124, ⟨.int .i64, 1, 8, .int .i64 0⟩),
  (119, ⟨.array 32 5, 32, 32, .agg #[.int .u8 0, .int .u8 0, .int .u8 0, .int .u8 0, .int .u8 0, .int .u8 0, .int .u8 0, .int .u8 0, .int .u8 0, .int .u8 0, .int .u8 0, .int .u8 0, .int .u8 0, .int .u8 0, .int .u8 0, .int .u8 0, .int .u8 0, .int .u8 0, .int .u8 0, .int .u8 0, .int .u8 0, .int .u8 0, .int .u8 0, .int .u8 0, .int .u8 0, .int .u8 0, .int .u8 0, .int .u8 0, .int .u8 0, .int .u8 0, .int .u8 0, .int .u8 0]⟩),
  (9, ⟨.str, 1, 16, .string ⟨#[]⟩⟩),
  (104, ⟨.array 5 23, 5, 20, .agg #[.int .u32 0, .int .u32 0, .int .u32 0, .int .u32 0, .int .u32 0]⟩),
  (106, ⟨.array 3 23, 3, 12, .agg #[.int .u32 0, .int .u32 0, .int .u32 0]⟩),
  (133, ⟨.other, 1, 16, .nilIface⟩),
  (140, ⟨.other, 1, 8, .pointer none⟩)
]
theorem ty3 : TI.ok Tryd.prog 3 ⟨.int .i64, 1, 8, .int .i64 0⟩ := ⟨⟨Tryd.t3, by kernel_rfl, rfl, rfl, rfl⟩, Tryd.underlying3, rfl⟩
theorem ty27 : TI.ok Tryd.prog 27 ⟨.int .u64, 1, 8, .int .u64 0⟩ := ⟨⟨Tryd.t27, by kernel_rfl, rfl, rfl, rfl⟩, Tryd.underlying27, rfl⟩
theorem ty23 : TI.ok Tryd.prog 23 ⟨.int .u32, 1, 4, .int .u32 0⟩ := ⟨⟨Tryd.t23, by kernel_rfl, rfl, rfl, rfl⟩, Tryd.underlying23, rfl⟩
theorem ty32 : TI.ok Tryd.prog 32 ⟨.slice 23, 1, 24, .slice none 0 0⟩ := ⟨⟨Tryd.t32, by kernel_rfl, rfl, rfl, rfl⟩, Tryd.underlying32, rfl⟩
theorem ty66 : TI.ok Tryd.prog 66 ⟨.slice 32, 1, 24, .slice none 0 0⟩ := ⟨⟨Tryd.t66, by kernel_rfl, rfl, rfl, rfl⟩, Tryd.underlying66, rfl⟩
theorem ty4 : TI.ok Tryd.prog 4 ⟨.bool, 1, 1, .bool false⟩ := ⟨⟨Tryd.t4, by kernel_rfl, rfl, rfl, rfl⟩, Tryd.underlying4, rfl⟩
theorem ty77 : TI.ok Tryd.prog 77 ⟨.struct [(0, 4), (1, 75)], 2, 32, .agg #[.bool false, .slice none 0 0]⟩ := ⟨⟨Tryd.t77, by kernel_rfl, rfl, rfl, rfl⟩, ⟨_, Tryd.underlying77, rfl⟩, rfl⟩
theorem ty47 : TI.ok Tryd.prog 47 ⟨.int .i64, 1, 8, .int .i64 0⟩ := ⟨⟨Tryd.t47, by kernel_rfl, rfl, rfl, rfl⟩, Tryd.underlying47, rfl⟩
theorem ty2 : TI.ok Tryd.prog 2 ⟨.int .i64, 1, 8, .int .i64 0⟩ := ⟨⟨Tryd.t2, by kernel_rfl, rfl, rfl, rfl⟩, Tryd.underlying2, rfl⟩
theorem ty29 : TI.ok Tryd.prog 29 ⟨.slice 27, 1, 24, .slice none 0 0⟩ := ⟨⟨Tryd.t29, by kernel_rfl, rfl, rfl, rfl⟩, Tryd.underlying29, rfl⟩
theorem ty108 : TI.ok Tryd.prog 108 ⟨.int .u64, 1, 8, .int .u64 0⟩ := ⟨⟨Tryd.t108, by kernel_rfl, rfl, rfl, rfl⟩, Tryd.underlying108, rfl⟩
theorem ty136 : TI.ok Tryd.prog 136 ⟨.int .u64, 1, 8, .int .u64 0⟩ := ⟨⟨Tryd.t136, by kernel_rfl, rfl, rfl, rfl⟩, Tryd.underlying136, rfl⟩
theorem ty75 : TI.ok Tryd.prog 75 ⟨.slice 23, 1, 24, .slice none 0 0⟩ := ⟨⟨Tryd.t75, by kernel_rfl, rfl, rfl, rfl⟩, Tryd.underlying75, rfl⟩
theorem ty5 : TI.ok Tryd.prog 5 ⟨.int .u8, 1, 1, .int .u8 0⟩ := ⟨⟨Tryd.t5, by kernel_rfl, rfl, rfl, rfl⟩, Tryd.underlying5, rfl⟩
theorem ty22 : TI.ok Tryd.prog 22 ⟨.slice 23, 1, 24, .slice none 0 0⟩ := ⟨⟨Tryd.t22, by kernel_rfl, rfl, rfl, rfl⟩, Tryd.underlying22, rfl⟩
theorem ty74 : TI.ok Tryd.prog 74 ⟨.slice 77, 1, 24, .slice none 0 0⟩ := ⟨⟨Tryd.t74, by kernel_rfl, rfl, rfl, rfl⟩, Tryd.underlying74, rfl⟩
theorem ty69 : TI.ok Tryd.prog 69 ⟨.array 3 22, 3, 72, .agg #[.slice none 0 0, .slice none 0 0, .slice none 0 0]⟩ := ⟨⟨Tryd.t69, by kernel_rfl, rfl, rfl, rfl⟩, Tryd.underlying69, rfl⟩
theorem ty85 : TI.ok Tryd.prog 85 ⟨.slice 22, 1, 24, .slice none 0 0⟩ := ⟨⟨Tryd.t85, by kernel_rfl, rfl, rfl, rfl⟩, Tryd.underlying85, rfl⟩
theorem ty24 : TI.ok Tryd.prog 24 ⟨.array 2 23, 2, 8, .agg #[.int .u32 0, .int .u32 0]⟩ := ⟨⟨Tryd.t24, by kernel_rfl, rfl, rfl, rfl⟩, Tryd.underlying24, rfl⟩
theorem ty62 : TI.ok Tryd.prog 62 ⟨.int .u16, 1, 2, .int .u16 0⟩ := ⟨⟨Tryd.t62, by kernel_rfl, rfl, rfl, rfl⟩, Tryd.underlying62, rfl⟩
theorem ty63 : TI.ok Tryd.prog 63 ⟨.array 3 62, 3, 6, .agg #[.int .u16 0, .int .u16 0, .int .u16 0]⟩ := ⟨⟨Tryd.t63, by kernel_rfl, rfl, rfl, rfl⟩, Tryd.underlying63, rfl⟩
theorem ty124 : TI.ok Tryd.prog 124 ⟨.int .i64, 1, 8, .int .i64 0⟩ := ⟨⟨Tryd.t124, by kernel_rfl, rfl, rfl, rfl⟩, Tryd.underlying124, rfl⟩
theorem ty119 : TI.ok Tryd.prog 119 ⟨.array 32 5, 32, 32, .agg #[.int .u8 0, .int .u8 0, .int .u8 0, .int .u8 0, .int .u8 0, .int .u8 0, .int .u8 0, .int .u8 0, .int .u8 0, .int .u8 0, .int .u8 0, .int .u8 0, .int .u8 0, .int .u8 0, .int .u8 0, .int .u8 0, .int .u8 0, .int .u8 0, .int .u8 0, .int .u8 0, .int .u8 0, .int .u8 0, .int .u8 0, .int .u8 0, .int .u8 0, .int .u8 0, .int .u8 0, .int .u8 0, .int .u8 0, .int .u8 0, .int .u8 0, .int .u8 0]⟩ := ⟨⟨Tryd.t119, by kernel_rfl, rfl, rfl, rfl⟩, Tryd.underlying119, rfl⟩
theorem ty9 : TI.ok Tryd.prog 9 ⟨.str, 1, 16, .string ⟨#[]⟩⟩ := ⟨⟨Tryd.t9, by kernel_rfl, rfl, rfl, rfl⟩, Tryd.underlying9, rfl⟩
theorem ty104 : TI.ok Tryd.prog 104 ⟨.array 5 23, 5, 20, .agg #[.int .u32 0, .int .u32 0, .int .u32 0, .int .u32 0, .int .u32 0]⟩ := ⟨⟨Tryd.t104, by kernel_rfl, rfl, rfl, rfl⟩, Tryd.underlying104, rfl⟩
theorem ty106 : TI.ok Tryd.prog 106 ⟨.array 3 23, 3, 12, .agg #[.int .u32 0, .int .u32 0, .int .u32 0]⟩ := ⟨⟨Tryd.t106, by kernel_rfl, rfl, rfl, rfl⟩, Tryd.underlying106, rfl⟩
theorem ty133 : TI.ok Tryd.prog 133 ⟨.other, 1, 16, .nilIface⟩ := ⟨⟨Tryd.t133, by kernel_rfl, rfl, rfl, rfl⟩, ⟨_, Tryd.underlying133, fun _ h => (by cases h), fun _ _ h => (by cases h)⟩, rfl⟩
theorem ty140 : TI.ok Tryd.prog 140 ⟨.other, 1, 8, .pointer none⟩ := ⟨⟨Tryd.t140, by kernel_rfl, rfl, rfl, rfl⟩, ⟨_, Tryd.underlying140, fun _ h => (by cases h), fun _ _ h => (by cases h)⟩, rfl⟩
theorem tab_ok : tabOk Tryd.prog tab := ⟨ty3, ty27, ty23, ty32, ty66, ty4, ty77, ty47, ty2, ty29, ty108, ty136, ty75, ty5, ty22, ty74, ty69, ty85, ty24, ty62, ty63, ty124, ty119, ty9, ty104, ty106, ty133, ty140, trivial⟩
noncomputable def E : Env := ⟨Tryd.prog, tab, 112⟩
theorem calls_ok : ∀ f, 2 < f → f < 112 → ∀ args w, (callFunc f args).run Tryd.prog w = .ok (.enter f args) w := by
  intro f h2 hf
  match f, h2, hf with
  | 0, h, _ => exact absurd h (by decide)
  | 1, h, _ => exact absurd h (by decide)
  | 2, h, _ => exact absurd h (by decide)
  | 3, _, _ => exact Tryd.call3
  | 4, _, _ => exact Tryd.call4
  | 5, _, _ => exact Tryd.call5
  | 6, _, _ => exact Tryd.call6
  | 7, _, _ => exact Tryd.call7
  | 8, _, _ => exact Tryd.call8
  | 9, _, _ => exact Tryd.call9
  | 10, _, _ => exact Tryd.call10
  | 11, _, _ => exact Tryd.call11
  | 12, _, _ => exact Tryd.call12
  | 13, _, _ => exact Tryd.call13
  | 14, _, _ => exact Tryd.call14
  | 15, _, _ => exact Tryd.call15
  | 16, _, _ => exact Tryd.call16
  | 17, _, _ => exact Tryd.call17
  | 18, _, _ => exact Tryd.call18
  | 19, _, _ => exact Tryd.call19
  | 20, _, _ => exact Tryd.call20
  | 21, _, _ => exact Tryd.call21
  | 22, _, _ => exact Tryd.call22
  | 23, _, _ => exact Tryd.call23
  | 24, _, _ => exact Tryd.call24
  | 25, _, _ => exact Tryd.call25
  | 26, _, _ => exact Tryd.call26
  | 27, _, _ => exact Tryd.call27
  | 28, _, _ => exact Tryd.call28
  | 29, _, _ => exact Tryd.call29
  | 30, _, _ => exact Tryd.call30
  | 31, _, _ => exact Tryd.call31
  | 32, _, _ => exact Tryd.call32
  | 33, _, _ => exact Tryd.call33
  | 34, _, _ => exact Tryd.call34
  | 35, _, _ => exact Tryd.call35
  | 36, _, _ => exact Tryd.call36
  | 37, _, _ => exact Tryd.call37
  | 38, _, _ => exact Tryd.call38
  | 39, _, _ => exact Tryd.call39
  | 40, _, _ => exact Tryd.call40
  | 41, _, _ => exact Tryd.call41
  | 42, _, _ => exact Tryd.call42
  | 43, _, _ => exact Tryd.call43
  | 44, _, _ => exact Tryd.call44
  | 45, _, _ => exact Tryd.call45
  | 46, _, _ => exact Tryd.call46
  | 47, _, _ => exact Tryd.call47
  | 48, _, _ => exact Tryd.call48
  | 49, _, _ => exact Tryd.call49
  | 50, _, _ => exact Tryd.call50
  | 51, _, _ => exact Tryd.call51
  | 52, _, _ => exact Tryd.call52
  | 53, _, _ => exact Tryd.call53
  | 54, _, _ => exact Tryd.call54
  | 55, _, _ => exact Tryd.call55
  | 56, _, _ => exact Tryd.call56
  | 57, _, _ => exact Tryd.call57
  | 58, _, _ => exact Tryd.call58
  | 59, _, _ => exact Tryd.call59
  | 60, _, _ => exact Tryd.call60
  | 61, _, _ => exact Tryd.call61
  | 62, _, _ => exact Tryd.call62
  | 63, _, _ => exact Tryd.call63
  | 64, _, _ => exact Tryd.call64
  | 65, _, _ => exact Tryd.call65
  | 66, _, _ => exact Tryd.call66
  | 67, _, _ => exact Tryd.call67
  | 68, _, _ => exact Tryd.call68
  | 69, _, _ => exact Tryd.call69
  | 70, _, _ => exact Tryd.call70
  | 71, _, _ => exact Tryd.call71
  | 72, _, _ => exact Tryd.call72
  | 73, _, _ => exact Tryd.call73
  | 74, _, _ => exact Tryd.call74
  | 75, _, _ => exact Tryd.call75
  | 76, _, _ => exact Tryd.call76
  | 77, _, _ => exact Tryd.call77
  | 78, _, _ => exact Tryd.call78
  | 79, _, _ => exact Tryd.call79
  | 80, _, _ => exact Tryd.call80
  | 81, _, _ => exact Tryd.call81
  | 82, _, _ => exact Tryd.call82
  | 83, _, _ => exact Tryd.call83
  | 84, _, _ => exact Tryd.call84
  | 85, _, _ => exact Tryd.call85
  | 86, _, _ => exact Tryd.call86
  | 87, _, _ => exact Tryd.call87
  | 88, _, _ => exact Tryd.call88
  | 89, _, _ => exact Tryd.call89
  | 90, _, _ => exact Tryd.call90
  | 91, _, _ => exact Tryd.call91
  | 92, _, _ => exact Tryd.call92
  | 93, _, _ => exact Tryd.call93
  | 94, _, _ => exact Tryd.call94
  | 95, _, _ => exact Tryd.call95
  | 96, _, _ => exact Tryd.call96
  | 97, _, _ => exact Tryd.call97
  | 98, _, _ => exact Tryd.call98
  | 99, _, _ => exact Tryd.call99
  | 100, _, _ => exact Tryd.call100
  | 101, _, _ => exact Tryd.call101
  | 102, _, _ => exact Tryd.call102
  | 103, _, _ => exact Tryd.call103
  | 104, _, _ => exact Tryd.call104
  | 105, _, _ => exact Tryd.call105
  | 106, _, _ => exact Tryd.call106
  | 107, _, _ => exact Tryd.call107
  | 108, _, _ => exact Tryd.call108
  | 109, _, _ => exact Tryd.call109
  | 110, _, _ => exact Tryd.call110
  | 111, _, _ => exact Tryd.call111
  | (n + 112), _, h => exact absurd h (Nat.not_lt.2 (Nat.le_add_left _ _))
abbrev f_cylinderlaw10_ModpolyArithmetic : FuncId := 3
theorem F_cylinderlaw10_ModpolyArithmetic : E.P.funcs[f_cylinderlaw10_ModpolyArithmetic]? = some Tryd.f3 := Tryd.func3
abbrev f_cylinderlaw10_ModpolyValues : FuncId := 4
theorem F_cylinderlaw10_ModpolyValues : E.P.funcs[f_cylinderlaw10_ModpolyValues]? = some Tryd.f4 := Tryd.func4
abbrev f_cylinderlaw10_ModpolySquarefree : FuncId := 5
theorem F_cylinderlaw10_ModpolySquarefree : E.P.funcs[f_cylinderlaw10_ModpolySquarefree]? = some Tryd.f5 := Tryd.func5
abbrev f_cylinderlaw10_ModpolyDivide : FuncId := 6
theorem F_cylinderlaw10_ModpolyDivide : E.P.funcs[f_cylinderlaw10_ModpolyDivide]? = some Tryd.f6 := Tryd.func6
abbrev f_cylinderlaw10_ModpolyIrreducible : FuncId := 7
theorem F_cylinderlaw10_ModpolyIrreducible : E.P.funcs[f_cylinderlaw10_ModpolyIrreducible]? = some Tryd.f7 := Tryd.func7
abbrev f_cylinderlaw10_ModpolyPower : FuncId := 8
theorem F_cylinderlaw10_ModpolyPower : E.P.funcs[f_cylinderlaw10_ModpolyPower]? = some Tryd.f8 := Tryd.func8
abbrev f_cylinderlaw10_ModpolyFrobenius : FuncId := 9
theorem F_cylinderlaw10_ModpolyFrobenius : E.P.funcs[f_cylinderlaw10_ModpolyFrobenius]? = some Tryd.f9 := Tryd.func9
abbrev f_cylinderlaw10_ModpolyFactors : FuncId := 10
theorem F_cylinderlaw10_ModpolyFactors : E.P.funcs[f_cylinderlaw10_ModpolyFactors]? = some Tryd.f10 := Tryd.func10
abbrev f_cylinderlaw10_ModpolyGcd : FuncId := 11
theorem F_cylinderlaw10_ModpolyGcd : E.P.funcs[f_cylinderlaw10_ModpolyGcd]? = some Tryd.f11 := Tryd.func11
abbrev f_cylinderlaw10_ModpolyReduce : FuncId := 12
theorem F_cylinderlaw10_ModpolyReduce : E.P.funcs[f_cylinderlaw10_ModpolyReduce]? = some Tryd.f12 := Tryd.func12
abbrev f_cylinderlaw10_fit : FuncId := 13
theorem F_cylinderlaw10_fit : E.P.funcs[f_cylinderlaw10_fit]? = some Tryd.f13 := Tryd.func13
abbrev f_cylinderlaw10_few : FuncId := 14
theorem F_cylinderlaw10_few : E.P.funcs[f_cylinderlaw10_few]? = some Tryd.f14 := Tryd.func14
abbrev f_cylinderlaw10_modulus : FuncId := 15
theorem F_cylinderlaw10_modulus : E.P.funcs[f_cylinderlaw10_modulus]? = some Tryd.f15 := Tryd.func15
abbrev f_cylinderlaw10_coefs : FuncId := 16
theorem F_cylinderlaw10_coefs : E.P.funcs[f_cylinderlaw10_coefs]? = some Tryd.f16 := Tryd.func16
abbrev f_cylinderlaw10_is : FuncId := 17
theorem F_cylinderlaw10_is : E.P.funcs[f_cylinderlaw10_is]? = some Tryd.f17 := Tryd.func17
abbrev f_modpoly_Normal : FuncId := 18
theorem F_modpoly_Normal : E.P.funcs[f_modpoly_Normal]? = some Tryd.f18 := Tryd.func18
abbrev f_modpoly_Add : FuncId := 19
theorem F_modpoly_Add : E.P.funcs[f_modpoly_Add]? = some Tryd.f19 := Tryd.func19
abbrev f_cylinderref10_Sum : FuncId := 20
theorem F_cylinderref10_Sum : E.P.funcs[f_cylinderref10_Sum]? = some Tryd.f20 := Tryd.func20
abbrev f_modpoly_Sub : FuncId := 21
theorem F_modpoly_Sub : E.P.funcs[f_modpoly_Sub]? = some Tryd.f21 := Tryd.func21
abbrev f_modpoly_Mul : FuncId := 22
theorem F_modpoly_Mul : E.P.funcs[f_modpoly_Mul]? = some Tryd.f22 := Tryd.func22
abbrev f_cylinderref10_Product : FuncId := 23
theorem F_cylinderref10_Product : E.P.funcs[f_cylinderref10_Product]? = some Tryd.f23 := Tryd.func23
abbrev f_modpoly_Scale : FuncId := 24
theorem F_modpoly_Scale : E.P.funcs[f_modpoly_Scale]? = some Tryd.f24 := Tryd.func24
abbrev f_modpoly_Degree : FuncId := 25
theorem F_modpoly_Degree : E.P.funcs[f_modpoly_Degree]? = some Tryd.f25 := Tryd.func25
abbrev f_modpoly_Eval : FuncId := 26
theorem F_modpoly_Eval : E.P.funcs[f_modpoly_Eval]? = some Tryd.f26 := Tryd.func26
abbrev f_cylinderref10_Value : FuncId := 27
theorem F_cylinderref10_Value : E.P.funcs[f_cylinderref10_Value]? = some Tryd.f27 := Tryd.func27
abbrev f_modular_Mul : FuncId := 28
theorem F_modular_Mul : E.P.funcs[f_modular_Mul]? = some Tryd.f28 := Tryd.func28
abbrev f_modpoly_Derivative : FuncId := 29
theorem F_modpoly_Derivative : E.P.funcs[f_modpoly_Derivative]? = some Tryd.f29 := Tryd.func29
abbrev f_cylinderref10_Trim : FuncId := 30
theorem F_cylinderref10_Trim : E.P.funcs[f_cylinderref10_Trim]? = some Tryd.f30 := Tryd.func30
abbrev f_modpoly_Compare : FuncId := 31
theorem F_modpoly_Compare : E.P.funcs[f_modpoly_Compare]? = some Tryd.f31 := Tryd.func31
abbrev f_modpoly_Same : FuncId := 32
theorem F_modpoly_Same : E.P.funcs[f_modpoly_Same]? = some Tryd.f32 := Tryd.func32
abbrev f_cylinderlaw10_small : FuncId := 33
theorem F_cylinderlaw10_small : E.P.funcs[f_cylinderlaw10_small]? = some Tryd.f33 := Tryd.func33
abbrev f_modpoly_Squarefree : FuncId := 34
theorem F_modpoly_Squarefree : E.P.funcs[f_modpoly_Squarefree]? = some Tryd.f34 := Tryd.func34
abbrev f_modpoly_Gcd : FuncId := 35
theorem F_modpoly_Gcd : E.P.funcs[f_modpoly_Gcd]? = some Tryd.f35 := Tryd.func35
abbrev f_modpoly_Divide : FuncId := 36
theorem F_modpoly_Divide : E.P.funcs[f_modpoly_Divide]? = some Tryd.f36 := Tryd.func36
abbrev f_modpoly_Monic : FuncId := 37
theorem F_modpoly_Monic : E.P.funcs[f_modpoly_Monic]? = some Tryd.f37 := Tryd.func37
abbrev f_cylinderref07_IsPrime : FuncId := 38
theorem F_cylinderref07_IsPrime : E.P.funcs[f_cylinderref07_IsPrime]? = some Tryd.f38 := Tryd.func38
abbrev f_cylinderlaw10_canonical : FuncId := 39
theorem F_cylinderlaw10_canonical : E.P.funcs[f_cylinderlaw10_canonical]? = some Tryd.f39 := Tryd.func39
abbrev f_cylinderref10_Monics : FuncId := 40
theorem F_cylinderref10_Monics : E.P.funcs[f_cylinderref10_Monics]? = some Tryd.f40 := Tryd.func40
abbrev f_modpoly_Irreducible : FuncId := 41
theorem F_modpoly_Irreducible : E.P.funcs[f_modpoly_Irreducible]? = some Tryd.f41 := Tryd.func41
abbrev f_cylinderref10_Irreducible : FuncId := 42
theorem F_cylinderref10_Irreducible : E.P.funcs[f_cylinderref10_Irreducible]? = some Tryd.f42 := Tryd.func42
abbrev f_modpoly_PowMod : FuncId := 43
theorem F_modpoly_PowMod : E.P.funcs[f_modpoly_PowMod]? = some Tryd.f43 := Tryd.func43
abbrev f_modpoly_Factors : FuncId := 44
theorem F_modpoly_Factors : E.P.funcs[f_modpoly_Factors]? = some Tryd.f44 := Tryd.func44
abbrev f_modpoly_Xgcd : FuncId := 45
theorem F_modpoly_Xgcd : E.P.funcs[f_modpoly_Xgcd]? = some Tryd.f45 := Tryd.func45
abbrev f_modular_Reduce : FuncId := 46
theorem F_modular_Reduce : E.P.funcs[f_modular_Reduce]? = some Tryd.f46 := Tryd.func46
abbrev f_modpoly_Reduce : FuncId := 47
theorem F_modpoly_Reduce : E.P.funcs[f_modpoly_Reduce]? = some Tryd.f47 := Tryd.func47
abbrev f_modpoly_Symmetric : FuncId := 48
theorem F_modpoly_Symmetric : E.P.funcs[f_modpoly_Symmetric]? = some Tryd.f48 := Tryd.func48
abbrev f_integer_Same : FuncId := 49
theorem F_integer_Same : E.P.funcs[f_integer_Same]? = some Tryd.f49 := Tryd.func49
abbrev f_integer_Of : FuncId := 50
theorem F_integer_Of : E.P.funcs[f_integer_Of]? = some Tryd.f50 := Tryd.func50
abbrev f_modular_Symmetric : FuncId := 51
theorem F_modular_Symmetric : E.P.funcs[f_modular_Symmetric]? = some Tryd.f51 := Tryd.func51
abbrev f_cylinderref07_Modulus : FuncId := 52
theorem F_cylinderref07_Modulus : E.P.funcs[f_cylinderref07_Modulus]? = some Tryd.f52 := Tryd.func52
abbrev f_cylinderref10_Mod : FuncId := 53
theorem F_cylinderref10_Mod : E.P.funcs[f_cylinderref10_Mod]? = some Tryd.f53 := Tryd.func53
abbrev f_modpoly_trim : FuncId := 54
theorem F_modpoly_trim : E.P.funcs[f_modpoly_trim]? = some Tryd.f54 := Tryd.func54
abbrev f_modular_Add : FuncId := 55
theorem F_modular_Add : E.P.funcs[f_modular_Add]? = some Tryd.f55 := Tryd.func55
abbrev f_modular_Sub : FuncId := 56
theorem F_modular_Sub : E.P.funcs[f_modular_Sub]? = some Tryd.f56 := Tryd.func56
abbrev f_modular_modulus : FuncId := 57
theorem F_modular_modulus : E.P.funcs[f_modular_modulus]? = some Tryd.f57 := Tryd.func57
abbrev f_modular_IsPrime : FuncId := 58
theorem F_modular_IsPrime : E.P.funcs[f_modular_IsPrime]? = some Tryd.f58 := Tryd.func58
abbrev f_modpoly_squarefree : FuncId := 59
theorem F_modpoly_squarefree : E.P.funcs[f_modpoly_squarefree]? = some Tryd.f59 := Tryd.func59
abbrev f_modpoly_gcd : FuncId := 60
theorem F_modpoly_gcd : E.P.funcs[f_modpoly_gcd]? = some Tryd.f60 := Tryd.func60
abbrev f_modpoly_divide : FuncId := 61
theorem F_modpoly_divide : E.P.funcs[f_modpoly_divide]? = some Tryd.f61 := Tryd.func61
abbrev f_modpoly_monic : FuncId := 62
theorem F_modpoly_monic : E.P.funcs[f_modpoly_monic]? = some Tryd.f62 := Tryd.func62
abbrev f_modpoly_remainder : FuncId := 63
theorem F_modpoly_remainder : E.P.funcs[f_modpoly_remainder]? = some Tryd.f63 := Tryd.func63
abbrev f_modpoly_powMod : FuncId := 64
theorem F_modpoly_powMod : E.P.funcs[f_modpoly_powMod]? = some Tryd.f64 := Tryd.func64
abbrev f_cylinderref10_Divides : FuncId := 65
theorem F_cylinderref10_Divides : E.P.funcs[f_cylinderref10_Divides]? = some Tryd.f65 := Tryd.func65
abbrev f_cylinderref10_Monic : FuncId := 66
theorem F_cylinderref10_Monic : E.P.funcs[f_cylinderref10_Monic]? = some Tryd.f66 := Tryd.func66
abbrev f_modpoly_byDegree : FuncId := 67
theorem F_modpoly_byDegree : E.P.funcs[f_modpoly_byDegree]? = some Tryd.f67 := Tryd.func67
abbrev f_slices_SortFunc : FuncId := 68
theorem F_slices_SortFunc : E.P.funcs[f_slices_SortFunc]? = some Tryd.f68 := Tryd.func68
abbrev f_modpoly_Factors_1 : FuncId := 69
theorem F_modpoly_Factors_1 : E.P.funcs[f_modpoly_Factors_1]? = some Tryd.f69 := Tryd.func69
abbrev f_modular_Inverse : FuncId := 70
theorem F_modular_Inverse : E.P.funcs[f_modular_Inverse]? = some Tryd.f70 := Tryd.func70
abbrev f_modpoly_cofactor : FuncId := 71
theorem F_modpoly_cofactor : E.P.funcs[f_modpoly_cofactor]? = some Tryd.f71 := Tryd.func71
abbrev f_natural_DivSmall : FuncId := 72
theorem F_natural_DivSmall : E.P.funcs[f_natural_DivSmall]? = some Tryd.f72 := Tryd.func72
abbrev f_modular_Neg : FuncId := 73
theorem F_modular_Neg : E.P.funcs[f_modular_Neg]? = some Tryd.f73 := Tryd.func73
abbrev f_unipoly_Normal : FuncId := 74
theorem F_unipoly_Normal : E.P.funcs[f_unipoly_Normal]? = some Tryd.f74 := Tryd.func74
abbrev f_integer_Cmp : FuncId := 75
theorem F_integer_Cmp : E.P.funcs[f_integer_Cmp]? = some Tryd.f75 := Tryd.func75
abbrev f_natural_Of : FuncId := 76
theorem F_natural_Of : E.P.funcs[f_natural_Of]? = some Tryd.f76 := Tryd.func76
abbrev f_bits_TrailingZeros32 : FuncId := 77
theorem F_bits_TrailingZeros32 : E.P.funcs[f_bits_TrailingZeros32]? = some Tryd.f77 := Tryd.func77
abbrev f_modular_probable : FuncId := 78
theorem F_modular_probable : E.P.funcs[f_modular_probable]? = some Tryd.f78 := Tryd.func78
abbrev f_modpoly_equalDegree : FuncId := 79
theorem F_modpoly_equalDegree : E.P.funcs[f_modpoly_equalDegree]? = some Tryd.f79 := Tryd.func79
abbrev f_slices_pdqsortCmpFunc : FuncId := 80
theorem F_slices_pdqsortCmpFunc : E.P.funcs[f_slices_pdqsortCmpFunc]? = some Tryd.f80 := Tryd.func80
abbrev f_bits_Len : FuncId := 81
theorem F_bits_Len : E.P.funcs[f_bits_Len]? = some Tryd.f81 := Tryd.func81
abbrev f_natural_trim : FuncId := 82
theorem F_natural_trim : E.P.funcs[f_natural_trim]? = some Tryd.f82 := Tryd.func82
abbrev f_bits_Div32 : FuncId := 83
theorem F_bits_Div32 : E.P.funcs[f_bits_Div32]? = some Tryd.f83 := Tryd.func83
abbrev f_unipoly_transform : FuncId := 84
theorem F_unipoly_transform : E.P.funcs[f_unipoly_transform]? = some Tryd.f84 := Tryd.func84
abbrev f_unipoly_trim : FuncId := 85
theorem F_unipoly_trim : E.P.funcs[f_unipoly_trim]? = some Tryd.f85 := Tryd.func85
abbrev f_integer_Normal : FuncId := 86
theorem F_integer_Normal : E.P.funcs[f_integer_Normal]? = some Tryd.f86 := Tryd.func86
abbrev f_integer_Sign : FuncId := 87
theorem F_integer_Sign : E.P.funcs[f_integer_Sign]? = some Tryd.f87 := Tryd.func87
abbrev f_natural_Cmp : FuncId := 88
theorem F_natural_Cmp : E.P.funcs[f_natural_Cmp]? = some Tryd.f88 := Tryd.func88
abbrev f_natural_Normal : FuncId := 89
theorem F_natural_Normal : E.P.funcs[f_natural_Normal]? = some Tryd.f89 := Tryd.func89
abbrev f_modular_Pow : FuncId := 90
theorem F_modular_Pow : E.P.funcs[f_modular_Pow]? = some Tryd.f90 := Tryd.func90
abbrev f_modpoly_separator : FuncId := 91
theorem F_modpoly_separator : E.P.funcs[f_modpoly_separator]? = some Tryd.f91 := Tryd.func91
abbrev f_modpoly_trial : FuncId := 92
theorem F_modpoly_trial : E.P.funcs[f_modpoly_trial]? = some Tryd.f92 := Tryd.func92
abbrev f_slices_insertionSortCmpFunc : FuncId := 93
theorem F_slices_insertionSortCmpFunc : E.P.funcs[f_slices_insertionSortCmpFunc]? = some Tryd.f93 := Tryd.func93
abbrev f_slices_heapSortCmpFunc : FuncId := 94
theorem F_slices_heapSortCmpFunc : E.P.funcs[f_slices_heapSortCmpFunc]? = some Tryd.f94 := Tryd.func94
abbrev f_slices_breakPatternsCmpFunc : FuncId := 95
theorem F_slices_breakPatternsCmpFunc : E.P.funcs[f_slices_breakPatternsCmpFunc]? = some Tryd.f95 := Tryd.func95
abbrev f_slices_choosePivotCmpFunc : FuncId := 96
theorem F_slices_choosePivotCmpFunc : E.P.funcs[f_slices_choosePivotCmpFunc]? = some Tryd.f96 := Tryd.func96
abbrev f_slices_reverseRangeCmpFunc : FuncId := 97
theorem F_slices_reverseRangeCmpFunc : E.P.funcs[f_slices_reverseRangeCmpFunc]? = some Tryd.f97 := Tryd.func97
abbrev f_slices_partialInsertionSortCmpFunc : FuncId := 98
theorem F_slices_partialInsertionSortCmpFunc : E.P.funcs[f_slices_partialInsertionSortCmpFunc]? = some Tryd.f98 := Tryd.func98
abbrev f_slices_partitionEqualCmpFunc : FuncId := 99
theorem F_slices_partitionEqualCmpFunc : E.P.funcs[f_slices_partitionEqualCmpFunc]? = some Tryd.f99 := Tryd.func99
abbrev f_slices_partitionCmpFunc : FuncId := 100
theorem F_slices_partitionCmpFunc : E.P.funcs[f_slices_partitionCmpFunc]? = some Tryd.f100 := Tryd.func100
abbrev f_bits_Len32 : FuncId := 101
theorem F_bits_Len32 : E.P.funcs[f_bits_Len32]? = some Tryd.f101 := Tryd.func101
abbrev f_bits_Len64 : FuncId := 102
theorem F_bits_Len64 : E.P.funcs[f_bits_Len64]? = some Tryd.f102 := Tryd.func102
abbrev f_integer_From : FuncId := 103
theorem F_integer_From : E.P.funcs[f_integer_From]? = some Tryd.f103 := Tryd.func103
abbrev f_natural_IsZero : FuncId := 104
theorem F_natural_IsZero : E.P.funcs[f_natural_IsZero]? = some Tryd.f104 := Tryd.func104
abbrev f_slices_siftDownCmpFunc : FuncId := 105
theorem F_slices_siftDownCmpFunc : E.P.funcs[f_slices_siftDownCmpFunc]? = some Tryd.f105 := Tryd.func105
abbrev f_slices_nextPowerOfTwo : FuncId := 106
theorem F_slices_nextPowerOfTwo : E.P.funcs[f_slices_nextPowerOfTwo]? = some Tryd.f106 := Tryd.func106
abbrev f_slices_xorshift_Next : FuncId := 107
theorem F_slices_xorshift_Next : E.P.funcs[f_slices_xorshift_Next]? = some Tryd.f107 := Tryd.func107
abbrev f_slices_medianAdjacentCmpFunc : FuncId := 108
theorem F_slices_medianAdjacentCmpFunc : E.P.funcs[f_slices_medianAdjacentCmpFunc]? = some Tryd.f108 := Tryd.func108
abbrev f_slices_medianCmpFunc : FuncId := 109
theorem F_slices_medianCmpFunc : E.P.funcs[f_slices_medianCmpFunc]? = some Tryd.f109 := Tryd.func109
abbrev f_integer_signed : FuncId := 110
theorem F_integer_signed : E.P.funcs[f_integer_signed]? = some Tryd.f110 := Tryd.func110
abbrev f_slices_order2CmpFunc : FuncId := 111
theorem F_slices_order2CmpFunc : E.P.funcs[f_slices_order2CmpFunc]? = some Tryd.f111 := Tryd.func111
abbrev t_int64 : TypeId := 2
abbrev t_int : TypeId := 3
abbrev t_bool : TypeId := 4
abbrev t_uint8 : TypeId := 5
abbrev t_string : TypeId := 9
abbrev t_sl_uint32 : TypeId := 22
abbrev t_uint32 : TypeId := 23
abbrev t_2_uint32 : TypeId := 24
abbrev t_uint64 : TypeId := 27
abbrev t_sl_uint64 : TypeId := 29
abbrev t_modpoly_Poly : TypeId := 32
abbrev t_api_Errno : TypeId := 47
abbrev t_uint16 : TypeId := 62
abbrev t_ar3_uint16 : TypeId := 63
abbrev t_sl_modpoly_Poly : TypeId := 66
abbrev t_ar3_sl_uint32 : TypeId := 69
abbrev t_unipoly_Poly : TypeId := 74
abbrev t_natural_Nat : TypeId := 75
abbrev t_integer_Int : TypeId := 77
abbrev t_sl_sl_uint32 : TypeId := 85
abbrev t_5_uint32 : TypeId := 104
abbrev t_ar3_uint32 : TypeId := 106
abbrev t_uint : TypeId := 108
abbrev t_32_uint8 : TypeId := 119
abbrev t_slices_sortedHint : TypeId := 124
abbrev t_error : TypeId := 133
abbrev t_slices_xorshift : TypeId := 136
theorem hE : E.Ok := ⟨fun _ _ h => tab_ok.get _ _ h, calls_ok, by kernel_rfl⟩
end Go.Vc
