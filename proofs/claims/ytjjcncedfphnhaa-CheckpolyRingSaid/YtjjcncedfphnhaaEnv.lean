/- The table of types and the functions of the program, for the calculus. Laid by a program of ours (gen_env.py). -/
import Derived.Test.YtjjcncedfphnhaaProg
import Derived.Test.YtjjcncedfphnhaaVc
import Derived.KernelRfl
namespace Go.Vc
open Go.Proofs
def tabOk (P : Program) : List (Nat × TI) → Prop
  | [] => True
  | (t, ti) :: r => ti.ok P t ∧ tabOk P r
theorem tabOk.get {P : Program} : ∀ {l : List (Nat × TI)}, tabOk P l → ∀ t ti, lk l t = some ti → ti.ok P t
  | [], _, t, ti, h => by simp [lk] at h
  | (k, u) :: r, hs, t, ti, h => by
    rw [lk_cons] at h
    by_cases e : k = t
    · subst e; rw [if_pos rfl] at h; simp only [Option.some.injEq] at h; subst h; exact hs.1
    · rw [if_neg e] at h; exact hs.2.get t ti h
def tab : List (Nat × TI) := [
  (3, ⟨.int .i64, 1, 8, .int .i64 0⟩),
  (80, ⟨.struct [(0, 46), (2, 34)], 6, 64, .agg #[.bool false, .slice none 0 0, .int .i64 0, .int .i64 0, .int .i64 0, .int .i64 0]⟩),
  (46, ⟨.struct [(0, 4), (1, 44)], 2, 32, .agg #[.bool false, .slice none 0 0]⟩),
  (105, ⟨.int .u32, 1, 4, .int .u32 0⟩),
  (26, ⟨.slice 80, 1, 24, .slice none 0 0⟩),
  (34, ⟨.array 4 3, 4, 32, .agg #[.int .i64 0, .int .i64 0, .int .i64 0, .int .i64 0]⟩),
  (44, ⟨.slice 105, 1, 24, .slice none 0 0⟩),
  (4, ⟨.bool, 1, 1, .bool false⟩),
  (38, ⟨.slice 26, 1, 24, .slice none 0 0⟩),
  (32, ⟨.int .i8, 1, 1, .int .i8 0⟩),
  (94, ⟨.int .u64, 1, 8, .int .u64 0⟩),
  (62, ⟨.slice 38, 1, 24, .slice none 0 0⟩),
  (108, ⟨.int .u64, 1, 8, .int .u64 0⟩),
  (5, ⟨.int .u8, 1, 1, .int .u8 0⟩),
  (119, ⟨.slice 26, 1, 24, .slice none 0 0⟩),
  (25, ⟨.slice 80, 1, 24, .slice none 0 0⟩),
  (33, ⟨.array 4 32, 4, 4, .agg #[.int .i8 0, .int .i8 0, .int .i8 0, .int .i8 0]⟩),
  (39, ⟨.slice 3, 1, 24, .slice none 0 0⟩),
  (64, ⟨.int .i64, 1, 8, .int .i64 0⟩),
  (71, ⟨.slice 32, 1, 24, .slice none 0 0⟩),
  (22, ⟨.slice 78, 1, 24, .slice none 0 0⟩),
  (63, ⟨.slice 39, 1, 24, .slice none 0 0⟩),
  (78, ⟨.struct [(0, 32), (1, 76)], 5, 5, .agg #[.int .i8 0, .int .u8 0, .int .u8 0, .int .u8 0, .int .u8 0]⟩),
  (117, ⟨.slice 119, 1, 24, .slice none 0 0⟩),
  (2, ⟨.int .i64, 1, 8, .int .i64 0⟩),
  (61, ⟨.array 3 60, 9, 216, .agg #[.slice none 0 0, .slice none 0 0, .slice none 0 0, .slice none 0 0, .slice none 0 0, .slice none 0 0, .slice none 0 0, .slice none 0 0, .slice none 0 0]⟩),
  (60, ⟨.array 3 22, 3, 72, .agg #[.slice none 0 0, .slice none 0 0, .slice none 0 0]⟩),
  (76, ⟨.array 4 5, 4, 4, .agg #[.int .u8 0, .int .u8 0, .int .u8 0, .int .u8 0]⟩),
  (9, ⟨.str, 1, 16, .string ⟨#[]⟩⟩),
  (43, ⟨.slice 105, 1, 24, .slice none 0 0⟩),
  (69, ⟨.array 4 33, 16, 16, .agg #[.int .i8 0, .int .i8 0, .int .i8 0, .int .i8 0, .int .i8 0, .int .i8 0, .int .i8 0, .int .i8 0, .int .i8 0, .int .i8 0, .int .i8 0, .int .i8 0, .int .i8 0, .int .i8 0, .int .i8 0, .int .i8 0]⟩),
  (149, ⟨.other, 1, 16, .nilIface⟩)
]
theorem ty3 : TI.ok Try.prog 3 ⟨.int .i64, 1, 8, .int .i64 0⟩ := ⟨⟨Try.t3, by kernel_rfl, rfl, rfl, rfl⟩, Try.underlying3, rfl⟩
theorem ty80 : TI.ok Try.prog 80 ⟨.struct [(0, 46), (2, 34)], 6, 64, .agg #[.bool false, .slice none 0 0, .int .i64 0, .int .i64 0, .int .i64 0, .int .i64 0]⟩ := ⟨⟨Try.t80, by kernel_rfl, rfl, rfl, rfl⟩, ⟨_, Try.underlying80, rfl⟩, rfl⟩
theorem ty46 : TI.ok Try.prog 46 ⟨.struct [(0, 4), (1, 44)], 2, 32, .agg #[.bool false, .slice none 0 0]⟩ := ⟨⟨Try.t46, by kernel_rfl, rfl, rfl, rfl⟩, ⟨_, Try.underlying46, rfl⟩, rfl⟩
theorem ty105 : TI.ok Try.prog 105 ⟨.int .u32, 1, 4, .int .u32 0⟩ := ⟨⟨Try.t105, by kernel_rfl, rfl, rfl, rfl⟩, Try.underlying105, rfl⟩
theorem ty26 : TI.ok Try.prog 26 ⟨.slice 80, 1, 24, .slice none 0 0⟩ := ⟨⟨Try.t26, by kernel_rfl, rfl, rfl, rfl⟩, Try.underlying26, rfl⟩
theorem ty34 : TI.ok Try.prog 34 ⟨.array 4 3, 4, 32, .agg #[.int .i64 0, .int .i64 0, .int .i64 0, .int .i64 0]⟩ := ⟨⟨Try.t34, by kernel_rfl, rfl, rfl, rfl⟩, Try.underlying34, rfl⟩
theorem ty44 : TI.ok Try.prog 44 ⟨.slice 105, 1, 24, .slice none 0 0⟩ := ⟨⟨Try.t44, by kernel_rfl, rfl, rfl, rfl⟩, Try.underlying44, rfl⟩
theorem ty4 : TI.ok Try.prog 4 ⟨.bool, 1, 1, .bool false⟩ := ⟨⟨Try.t4, by kernel_rfl, rfl, rfl, rfl⟩, Try.underlying4, rfl⟩
theorem ty38 : TI.ok Try.prog 38 ⟨.slice 26, 1, 24, .slice none 0 0⟩ := ⟨⟨Try.t38, by kernel_rfl, rfl, rfl, rfl⟩, Try.underlying38, rfl⟩
theorem ty32 : TI.ok Try.prog 32 ⟨.int .i8, 1, 1, .int .i8 0⟩ := ⟨⟨Try.t32, by kernel_rfl, rfl, rfl, rfl⟩, Try.underlying32, rfl⟩
theorem ty94 : TI.ok Try.prog 94 ⟨.int .u64, 1, 8, .int .u64 0⟩ := ⟨⟨Try.t94, by kernel_rfl, rfl, rfl, rfl⟩, Try.underlying94, rfl⟩
theorem ty62 : TI.ok Try.prog 62 ⟨.slice 38, 1, 24, .slice none 0 0⟩ := ⟨⟨Try.t62, by kernel_rfl, rfl, rfl, rfl⟩, Try.underlying62, rfl⟩
theorem ty108 : TI.ok Try.prog 108 ⟨.int .u64, 1, 8, .int .u64 0⟩ := ⟨⟨Try.t108, by kernel_rfl, rfl, rfl, rfl⟩, Try.underlying108, rfl⟩
theorem ty5 : TI.ok Try.prog 5 ⟨.int .u8, 1, 1, .int .u8 0⟩ := ⟨⟨Try.t5, by kernel_rfl, rfl, rfl, rfl⟩, Try.underlying5, rfl⟩
theorem ty119 : TI.ok Try.prog 119 ⟨.slice 26, 1, 24, .slice none 0 0⟩ := ⟨⟨Try.t119, by kernel_rfl, rfl, rfl, rfl⟩, Try.underlying119, rfl⟩
theorem ty25 : TI.ok Try.prog 25 ⟨.slice 80, 1, 24, .slice none 0 0⟩ := ⟨⟨Try.t25, by kernel_rfl, rfl, rfl, rfl⟩, Try.underlying25, rfl⟩
theorem ty33 : TI.ok Try.prog 33 ⟨.array 4 32, 4, 4, .agg #[.int .i8 0, .int .i8 0, .int .i8 0, .int .i8 0]⟩ := ⟨⟨Try.t33, by kernel_rfl, rfl, rfl, rfl⟩, Try.underlying33, rfl⟩
theorem ty39 : TI.ok Try.prog 39 ⟨.slice 3, 1, 24, .slice none 0 0⟩ := ⟨⟨Try.t39, by kernel_rfl, rfl, rfl, rfl⟩, Try.underlying39, rfl⟩
theorem ty64 : TI.ok Try.prog 64 ⟨.int .i64, 1, 8, .int .i64 0⟩ := ⟨⟨Try.t64, by kernel_rfl, rfl, rfl, rfl⟩, Try.underlying64, rfl⟩
theorem ty71 : TI.ok Try.prog 71 ⟨.slice 32, 1, 24, .slice none 0 0⟩ := ⟨⟨Try.t71, by kernel_rfl, rfl, rfl, rfl⟩, Try.underlying71, rfl⟩
theorem ty22 : TI.ok Try.prog 22 ⟨.slice 78, 1, 24, .slice none 0 0⟩ := ⟨⟨Try.t22, by kernel_rfl, rfl, rfl, rfl⟩, Try.underlying22, rfl⟩
theorem ty63 : TI.ok Try.prog 63 ⟨.slice 39, 1, 24, .slice none 0 0⟩ := ⟨⟨Try.t63, by kernel_rfl, rfl, rfl, rfl⟩, Try.underlying63, rfl⟩
theorem ty78 : TI.ok Try.prog 78 ⟨.struct [(0, 32), (1, 76)], 5, 5, .agg #[.int .i8 0, .int .u8 0, .int .u8 0, .int .u8 0, .int .u8 0]⟩ := ⟨⟨Try.t78, by kernel_rfl, rfl, rfl, rfl⟩, ⟨_, Try.underlying78, rfl⟩, rfl⟩
theorem ty117 : TI.ok Try.prog 117 ⟨.slice 119, 1, 24, .slice none 0 0⟩ := ⟨⟨Try.t117, by kernel_rfl, rfl, rfl, rfl⟩, Try.underlying117, rfl⟩
theorem ty2 : TI.ok Try.prog 2 ⟨.int .i64, 1, 8, .int .i64 0⟩ := ⟨⟨Try.t2, by kernel_rfl, rfl, rfl, rfl⟩, Try.underlying2, rfl⟩
theorem ty61 : TI.ok Try.prog 61 ⟨.array 3 60, 9, 216, .agg #[.slice none 0 0, .slice none 0 0, .slice none 0 0, .slice none 0 0, .slice none 0 0, .slice none 0 0, .slice none 0 0, .slice none 0 0, .slice none 0 0]⟩ := ⟨⟨Try.t61, by kernel_rfl, rfl, rfl, rfl⟩, Try.underlying61, rfl⟩
theorem ty60 : TI.ok Try.prog 60 ⟨.array 3 22, 3, 72, .agg #[.slice none 0 0, .slice none 0 0, .slice none 0 0]⟩ := ⟨⟨Try.t60, by kernel_rfl, rfl, rfl, rfl⟩, Try.underlying60, rfl⟩
theorem ty76 : TI.ok Try.prog 76 ⟨.array 4 5, 4, 4, .agg #[.int .u8 0, .int .u8 0, .int .u8 0, .int .u8 0]⟩ := ⟨⟨Try.t76, by kernel_rfl, rfl, rfl, rfl⟩, Try.underlying76, rfl⟩
theorem ty9 : TI.ok Try.prog 9 ⟨.str, 1, 16, .string ⟨#[]⟩⟩ := ⟨⟨Try.t9, by kernel_rfl, rfl, rfl, rfl⟩, Try.underlying9, rfl⟩
theorem ty43 : TI.ok Try.prog 43 ⟨.slice 105, 1, 24, .slice none 0 0⟩ := ⟨⟨Try.t43, by kernel_rfl, rfl, rfl, rfl⟩, Try.underlying43, rfl⟩
theorem ty69 : TI.ok Try.prog 69 ⟨.array 4 33, 16, 16, .agg #[.int .i8 0, .int .i8 0, .int .i8 0, .int .i8 0, .int .i8 0, .int .i8 0, .int .i8 0, .int .i8 0, .int .i8 0, .int .i8 0, .int .i8 0, .int .i8 0, .int .i8 0, .int .i8 0, .int .i8 0, .int .i8 0]⟩ := ⟨⟨Try.t69, by kernel_rfl, rfl, rfl, rfl⟩, Try.underlying69, rfl⟩
theorem ty149 : TI.ok Try.prog 149 ⟨.other, 1, 16, .nilIface⟩ := ⟨⟨Try.t149, by kernel_rfl, rfl, rfl, rfl⟩, ⟨_, Try.underlying149, fun _ h => (by cases h), fun _ _ h => (by cases h)⟩, rfl⟩
theorem tab_ok : tabOk Try.prog tab := ⟨ty3, ty80, ty46, ty105, ty26, ty34, ty44, ty4, ty38, ty32, ty94, ty62, ty108, ty5, ty119, ty25, ty33, ty39, ty64, ty71, ty22, ty63, ty78, ty117, ty2, ty61, ty60, ty76, ty9, ty43, ty69, ty149, trivial⟩
noncomputable def E : Env := ⟨Try.prog, tab, 127⟩
theorem calls_ok : ∀ f, 2 < f → f < 127 → ∀ args w, (callFunc f args).run Try.prog w = .ok (.enter f args) w := by
  intro f h2 hf
  match f, h2, hf with
  | 0, h, _ => exact absurd h (by decide)
  | 1, h, _ => exact absurd h (by decide)
  | 2, h, _ => exact absurd h (by decide)
  | 3, _, _ => exact Try.call3
  | 4, _, _ => exact Try.call4
  | 5, _, _ => exact Try.call5
  | 6, _, _ => exact Try.call6
  | 7, _, _ => exact Try.call7
  | 8, _, _ => exact Try.call8
  | 9, _, _ => exact Try.call9
  | 10, _, _ => exact Try.call10
  | 11, _, _ => exact Try.call11
  | 12, _, _ => exact Try.call12
  | 13, _, _ => exact Try.call13
  | 14, _, _ => exact Try.call14
  | 15, _, _ => exact Try.call15
  | 16, _, _ => exact Try.call16
  | 17, _, _ => exact Try.call17
  | 18, _, _ => exact Try.call18
  | 19, _, _ => exact Try.call19
  | 20, _, _ => exact Try.call20
  | 21, _, _ => exact Try.call21
  | 22, _, _ => exact Try.call22
  | 23, _, _ => exact Try.call23
  | 24, _, _ => exact Try.call24
  | 25, _, _ => exact Try.call25
  | 26, _, _ => exact Try.call26
  | 27, _, _ => exact Try.call27
  | 28, _, _ => exact Try.call28
  | 29, _, _ => exact Try.call29
  | 30, _, _ => exact Try.call30
  | 31, _, _ => exact Try.call31
  | 32, _, _ => exact Try.call32
  | 33, _, _ => exact Try.call33
  | 34, _, _ => exact Try.call34
  | 35, _, _ => exact Try.call35
  | 36, _, _ => exact Try.call36
  | 37, _, _ => exact Try.call37
  | 38, _, _ => exact Try.call38
  | 39, _, _ => exact Try.call39
  | 40, _, _ => exact Try.call40
  | 41, _, _ => exact Try.call41
  | 42, _, _ => exact Try.call42
  | 43, _, _ => exact Try.call43
  | 44, _, _ => exact Try.call44
  | 45, _, _ => exact Try.call45
  | 46, _, _ => exact Try.call46
  | 47, _, _ => exact Try.call47
  | 48, _, _ => exact Try.call48
  | 49, _, _ => exact Try.call49
  | 50, _, _ => exact Try.call50
  | 51, _, _ => exact Try.call51
  | 52, _, _ => exact Try.call52
  | 53, _, _ => exact Try.call53
  | 54, _, _ => exact Try.call54
  | 55, _, _ => exact Try.call55
  | 56, _, _ => exact Try.call56
  | 57, _, _ => exact Try.call57
  | 58, _, _ => exact Try.call58
  | 59, _, _ => exact Try.call59
  | 60, _, _ => exact Try.call60
  | 61, _, _ => exact Try.call61
  | 62, _, _ => exact Try.call62
  | 63, _, _ => exact Try.call63
  | 64, _, _ => exact Try.call64
  | 65, _, _ => exact Try.call65
  | 66, _, _ => exact Try.call66
  | 67, _, _ => exact Try.call67
  | 68, _, _ => exact Try.call68
  | 69, _, _ => exact Try.call69
  | 70, _, _ => exact Try.call70
  | 71, _, _ => exact Try.call71
  | 72, _, _ => exact Try.call72
  | 73, _, _ => exact Try.call73
  | 74, _, _ => exact Try.call74
  | 75, _, _ => exact Try.call75
  | 76, _, _ => exact Try.call76
  | 77, _, _ => exact Try.call77
  | 78, _, _ => exact Try.call78
  | 79, _, _ => exact Try.call79
  | 80, _, _ => exact Try.call80
  | 81, _, _ => exact Try.call81
  | 82, _, _ => exact Try.call82
  | 83, _, _ => exact Try.call83
  | 84, _, _ => exact Try.call84
  | 85, _, _ => exact Try.call85
  | 86, _, _ => exact Try.call86
  | 87, _, _ => exact Try.call87
  | 88, _, _ => exact Try.call88
  | 89, _, _ => exact Try.call89
  | 90, _, _ => exact Try.call90
  | 91, _, _ => exact Try.call91
  | 92, _, _ => exact Try.call92
  | 93, _, _ => exact Try.call93
  | 94, _, _ => exact Try.call94
  | 95, _, _ => exact Try.call95
  | 96, _, _ => exact Try.call96
  | 97, _, _ => exact Try.call97
  | 98, _, _ => exact Try.call98
  | 99, _, _ => exact Try.call99
  | 100, _, _ => exact Try.call100
  | 101, _, _ => exact Try.call101
  | 102, _, _ => exact Try.call102
  | 103, _, _ => exact Try.call103
  | 104, _, _ => exact Try.call104
  | 105, _, _ => exact Try.call105
  | 106, _, _ => exact Try.call106
  | 107, _, _ => exact Try.call107
  | 108, _, _ => exact Try.call108
  | 109, _, _ => exact Try.call109
  | 110, _, _ => exact Try.call110
  | 111, _, _ => exact Try.call111
  | 112, _, _ => exact Try.call112
  | 113, _, _ => exact Try.call113
  | 114, _, _ => exact Try.call114
  | 115, _, _ => exact Try.call115
  | 116, _, _ => exact Try.call116
  | 117, _, _ => exact Try.call117
  | 118, _, _ => exact Try.call118
  | 119, _, _ => exact Try.call119
  | 120, _, _ => exact Try.call120
  | 121, _, _ => exact Try.call121
  | 122, _, _ => exact Try.call122
  | 123, _, _ => exact Try.call123
  | 124, _, _ => exact Try.call124
  | 125, _, _ => exact Try.call125
  | 126, _, _ => exact Try.call126
  | (n + 127), _, h => exact absurd h (Nat.not_lt.2 (Nat.le_add_left _ _))
abbrev f_cylinderlaw54_CheckpolyCompare : FuncId := 3
theorem F_cylinderlaw54_CheckpolyCompare : E.P.funcs[f_cylinderlaw54_CheckpolyCompare]? = some Try.f3 := Try.func3
abbrev f_cylinderlaw54_CheckpolySums : FuncId := 4
theorem F_cylinderlaw54_CheckpolySums : E.P.funcs[f_cylinderlaw54_CheckpolySums]? = some Try.f4 := Try.func4
abbrev f_cylinderlaw54_CheckpolyReducta : FuncId := 5
theorem F_cylinderlaw54_CheckpolyReducta : E.P.funcs[f_cylinderlaw54_CheckpolyReducta]? = some Try.f5 := Try.func5
abbrev f_cylinderlaw54_CheckpolyExact : FuncId := 6
theorem F_cylinderlaw54_CheckpolyExact : E.P.funcs[f_cylinderlaw54_CheckpolyExact]? = some Try.f6 := Try.func6
abbrev f_cylinderlaw54_CheckpolyRing : FuncId := 7
theorem F_cylinderlaw54_CheckpolyRing : E.P.funcs[f_cylinderlaw54_CheckpolyRing]? = some Try.f7 := Try.func7
abbrev f_cylinderlaw54_CheckpolyDet : FuncId := 8
theorem F_cylinderlaw54_CheckpolyDet : E.P.funcs[f_cylinderlaw54_CheckpolyDet]? = some Try.f8 := Try.func8
abbrev f_cylinderlaw54_CheckpolyRows : FuncId := 9
theorem F_cylinderlaw54_CheckpolyRows : E.P.funcs[f_cylinderlaw54_CheckpolyRows]? = some Try.f9 := Try.func9
abbrev f_cylinderlaw54_CheckpolyCommon : FuncId := 10
theorem F_cylinderlaw54_CheckpolyCommon : E.P.funcs[f_cylinderlaw54_CheckpolyCommon]? = some Try.f10 := Try.func10
abbrev f_cylinderlaw54_CheckpolyPsc : FuncId := 11
theorem F_cylinderlaw54_CheckpolyPsc : E.P.funcs[f_cylinderlaw54_CheckpolyPsc]? = some Try.f11 := Try.func11
abbrev f_cylinderlaw54_awake : FuncId := 12
theorem F_cylinderlaw54_awake : E.P.funcs[f_cylinderlaw54_awake]? = some Try.f12 := Try.func12
abbrev f_cylinderref31_Few : FuncId := 13
theorem F_cylinderref31_Few : E.P.funcs[f_cylinderref31_Few]? = some Try.f13 := Try.func13
abbrev f_checkpoly_Normal : FuncId := 14
theorem F_checkpoly_Normal : E.P.funcs[f_checkpoly_Normal]? = some Try.f14 := Try.func14
abbrev f_cylinderlaw54_Poly : FuncId := 15
theorem F_cylinderlaw54_Poly : E.P.funcs[f_cylinderlaw54_Poly]? = some Try.f15 := Try.func15
abbrev f_checkpoly_Compare : FuncId := 16
theorem F_checkpoly_Compare : E.P.funcs[f_checkpoly_Compare]? = some Try.f16 := Try.func16
abbrev f_cylinderlaw54_equal : FuncId := 17
theorem F_cylinderlaw54_equal : E.P.funcs[f_cylinderlaw54_equal]? = some Try.f17 := Try.func17
abbrev f_cylinderlaw54_order : FuncId := 18
theorem F_cylinderlaw54_order : E.P.funcs[f_cylinderlaw54_order]? = some Try.f18 := Try.func18
abbrev f_cylinderlaw54_wide : FuncId := 19
theorem F_cylinderlaw54_wide : E.P.funcs[f_cylinderlaw54_wide]? = some Try.f19 := Try.func19
abbrev f_cylinderref54_At : FuncId := 20
theorem F_cylinderref54_At : E.P.funcs[f_cylinderref54_At]? = some Try.f20 := Try.func20
abbrev f_checkpoly_Add : FuncId := 21
theorem F_checkpoly_Add : E.P.funcs[f_checkpoly_Add]? = some Try.f21 := Try.func21
abbrev f_checkpoly_Sub : FuncId := 22
theorem F_checkpoly_Sub : E.P.funcs[f_checkpoly_Sub]? = some Try.f22 := Try.func22
abbrev f_cylinderlaw54_Canonical : FuncId := 23
theorem F_cylinderlaw54_Canonical : E.P.funcs[f_cylinderlaw54_Canonical]? = some Try.f23 := Try.func23
abbrev f_cylinderlaw54_is : FuncId := 24
theorem F_cylinderlaw54_is : E.P.funcs[f_cylinderlaw54_is]? = some Try.f24 := Try.func24
abbrev f_checkpoly_Mul : FuncId := 25
theorem F_checkpoly_Mul : E.P.funcs[f_checkpoly_Mul]? = some Try.f25 := Try.func25
abbrev f_integer_Cmp : FuncId := 26
theorem F_integer_Cmp : E.P.funcs[f_integer_Cmp]? = some Try.f26 := Try.func26
abbrev f_cylinderlaw54_value : FuncId := 27
theorem F_cylinderlaw54_value : E.P.funcs[f_cylinderlaw54_value]? = some Try.f27 := Try.func27
abbrev f_integer_Mul : FuncId := 28
theorem F_integer_Mul : E.P.funcs[f_integer_Mul]? = some Try.f28 := Try.func28
abbrev f_integer_Of : FuncId := 29
theorem F_integer_Of : E.P.funcs[f_integer_Of]? = some Try.f29 := Try.func29
abbrev f_checkpoly_Same : FuncId := 30
theorem F_checkpoly_Same : E.P.funcs[f_checkpoly_Same]? = some Try.f30 := Try.func30
abbrev f_checkpoly_Reducta : FuncId := 31
theorem F_checkpoly_Reducta : E.P.funcs[f_checkpoly_Reducta]? = some Try.f31 := Try.func31
abbrev f_checkpoly_Degree : FuncId := 32
theorem F_checkpoly_Degree : E.P.funcs[f_checkpoly_Degree]? = some Try.f32 := Try.func32
abbrev f_checkpoly_Coef : FuncId := 33
theorem F_checkpoly_Coef : E.P.funcs[f_checkpoly_Coef]? = some Try.f33 := Try.func33
abbrev f_checkpoly_Level : FuncId := 34
theorem F_checkpoly_Level : E.P.funcs[f_checkpoly_Level]? = some Try.f34 := Try.func34
abbrev f_checkpoly_Var : FuncId := 35
theorem F_checkpoly_Var : E.P.funcs[f_checkpoly_Var]? = some Try.f35 := Try.func35
abbrev f_checkpoly_Exact : FuncId := 36
theorem F_checkpoly_Exact : E.P.funcs[f_checkpoly_Exact]? = some Try.f36 := Try.func36
abbrev f_cylinderlaw54_num : FuncId := 37
theorem F_cylinderlaw54_num : E.P.funcs[f_cylinderlaw54_num]? = some Try.f37 := Try.func37
abbrev f_checkpoly_Det : FuncId := 38
theorem F_checkpoly_Det : E.P.funcs[f_checkpoly_Det]? = some Try.f38 := Try.func38
abbrev f_cylinderref54_Det : FuncId := 39
theorem F_cylinderref54_Det : E.P.funcs[f_cylinderref54_Det]? = some Try.f39 := Try.func39
abbrev f_cylinderlaw54_line : FuncId := 40
theorem F_cylinderlaw54_line : E.P.funcs[f_cylinderlaw54_line]? = some Try.f40 := Try.func40
abbrev f_checkpoly_Psc : FuncId := 41
theorem F_checkpoly_Psc : E.P.funcs[f_checkpoly_Psc]? = some Try.f41 := Try.func41
abbrev f_cylinderlaw54_matrix : FuncId := 42
theorem F_cylinderlaw54_matrix : E.P.funcs[f_cylinderlaw54_matrix]? = some Try.f42 := Try.func42
abbrev f_integer_Sign : FuncId := 43
theorem F_integer_Sign : E.P.funcs[f_integer_Sign]? = some Try.f43 := Try.func43
abbrev f_slices_Min : FuncId := 44
theorem F_slices_Min : E.P.funcs[f_slices_Min]? = some Try.f44 := Try.func44
abbrev f_integer_Normal : FuncId := 45
theorem F_integer_Normal : E.P.funcs[f_integer_Normal]? = some Try.f45 := Try.func45
abbrev f_checkpoly_Normal_1 : FuncId := 46
theorem F_checkpoly_Normal_1 : E.P.funcs[f_checkpoly_Normal_1]? = some Try.f46 := Try.func46
abbrev f_checkpoly_compareExp : FuncId := 47
theorem F_checkpoly_compareExp : E.P.funcs[f_checkpoly_compareExp]? = some Try.f47 := Try.func47
abbrev f_slices_IsSortedFunc : FuncId := 48
theorem F_slices_IsSortedFunc : E.P.funcs[f_slices_IsSortedFunc]? = some Try.f48 := Try.func48
abbrev f_slices_SortStableFunc : FuncId := 49
theorem F_slices_SortStableFunc : E.P.funcs[f_slices_SortStableFunc]? = some Try.f49 := Try.func49
abbrev f_integer_Add : FuncId := 50
theorem F_integer_Add : E.P.funcs[f_integer_Add]? = some Try.f50 := Try.func50
abbrev f_cylinderref31_Int : FuncId := 51
theorem F_cylinderref31_Int : E.P.funcs[f_cylinderref31_Int]? = some Try.f51 := Try.func51
abbrev f_checkpoly_compare : FuncId := 52
theorem F_checkpoly_compare : E.P.funcs[f_checkpoly_compare]? = some Try.f52 := Try.func52
abbrev f_cylinderlaw54_greater : FuncId := 53
theorem F_cylinderlaw54_greater : E.P.funcs[f_cylinderlaw54_greater]? = some Try.f53 := Try.func53
abbrev f_checkpoly_add : FuncId := 54
theorem F_checkpoly_add : E.P.funcs[f_checkpoly_add]? = some Try.f54 := Try.func54
abbrev f_checkpoly_negate : FuncId := 55
theorem F_checkpoly_negate : E.P.funcs[f_checkpoly_negate]? = some Try.f55 := Try.func55
abbrev f_checkpoly_mul : FuncId := 56
theorem F_checkpoly_mul : E.P.funcs[f_checkpoly_mul]? = some Try.f56 := Try.func56
abbrev f_natural_Cmp : FuncId := 57
theorem F_natural_Cmp : E.P.funcs[f_natural_Cmp]? = some Try.f57 := Try.func57
abbrev f_integer_signed : FuncId := 58
theorem F_integer_signed : E.P.funcs[f_integer_signed]? = some Try.f58 := Try.func58
abbrev f_natural_Mul : FuncId := 59
theorem F_natural_Mul : E.P.funcs[f_natural_Mul]? = some Try.f59 := Try.func59
abbrev f_natural_Of : FuncId := 60
theorem F_natural_Of : E.P.funcs[f_natural_Of]? = some Try.f60 := Try.func60
abbrev f_checkpoly_reducta : FuncId := 61
theorem F_checkpoly_reducta : E.P.funcs[f_checkpoly_reducta]? = some Try.f61 := Try.func61
abbrev f_checkpoly_degree : FuncId := 62
theorem F_checkpoly_degree : E.P.funcs[f_checkpoly_degree]? = some Try.f62 := Try.func62
abbrev f_checkpoly_coef : FuncId := 63
theorem F_checkpoly_coef : E.P.funcs[f_checkpoly_coef]? = some Try.f63 := Try.func63
abbrev f_checkpoly_level : FuncId := 64
theorem F_checkpoly_level : E.P.funcs[f_checkpoly_level]? = some Try.f64 := Try.func64
abbrev f_checkpoly_exact : FuncId := 65
theorem F_checkpoly_exact : E.P.funcs[f_checkpoly_exact]? = some Try.f65 := Try.func65
abbrev f_checkpoly_Const : FuncId := 66
theorem F_checkpoly_Const : E.P.funcs[f_checkpoly_Const]? = some Try.f66 := Try.func66
abbrev f_checkpoly_det : FuncId := 67
theorem F_checkpoly_det : E.P.funcs[f_checkpoly_det]? = some Try.f67 := Try.func67
abbrev f_checkpoly_Chain : FuncId := 68
theorem F_checkpoly_Chain : E.P.funcs[f_checkpoly_Chain]? = some Try.f68 := Try.func68
abbrev f_cylinderlaw54_row : FuncId := 69
theorem F_cylinderlaw54_row : E.P.funcs[f_cylinderlaw54_row]? = some Try.f69 := Try.func69
abbrev f_natural_IsZero : FuncId := 70
theorem F_natural_IsZero : E.P.funcs[f_natural_IsZero]? = some Try.f70 := Try.func70
abbrev f_integer_From : FuncId := 71
theorem F_integer_From : E.P.funcs[f_integer_From]? = some Try.f71 := Try.func71
abbrev f_cmp_Compare : FuncId := 72
theorem F_cmp_Compare : E.P.funcs[f_cmp_Compare]? = some Try.f72 := Try.func72
abbrev f_slices_stableCmpFunc : FuncId := 73
theorem F_slices_stableCmpFunc : E.P.funcs[f_slices_stableCmpFunc]? = some Try.f73 := Try.func73
abbrev f_natural_Add : FuncId := 74
theorem F_natural_Add : E.P.funcs[f_natural_Add]? = some Try.f74 := Try.func74
abbrev f_natural_Sub : FuncId := 75
theorem F_natural_Sub : E.P.funcs[f_natural_Sub]? = some Try.f75 := Try.func75
abbrev f_integer_Neg : FuncId := 76
theorem F_integer_Neg : E.P.funcs[f_integer_Neg]? = some Try.f76 := Try.func76
abbrev f_checkpoly_times : FuncId := 77
theorem F_checkpoly_times : E.P.funcs[f_checkpoly_times]? = some Try.f77 := Try.func77
abbrev f_natural_trim : FuncId := 78
theorem F_natural_trim : E.P.funcs[f_natural_trim]? = some Try.f78 := Try.func78
abbrev f_natural_product : FuncId := 79
theorem F_natural_product : E.P.funcs[f_natural_product]? = some Try.f79 := Try.func79
abbrev f_natural_Normal : FuncId := 80
theorem F_natural_Normal : E.P.funcs[f_natural_Normal]? = some Try.f80 := Try.func80
abbrev f_checkpoly_isConst : FuncId := 81
theorem F_checkpoly_isConst : E.P.funcs[f_checkpoly_isConst]? = some Try.f81 := Try.func81
abbrev f_slices_Clone : FuncId := 82
theorem F_slices_Clone : E.P.funcs[f_slices_Clone]? = some Try.f82 := Try.func82
abbrev f_slices_DeleteFunc : FuncId := 83
theorem F_slices_DeleteFunc : E.P.funcs[f_slices_DeleteFunc]? = some Try.f83 := Try.func83
abbrev f_checkpoly_reducta_1 : FuncId := 84
theorem F_checkpoly_reducta_1 : E.P.funcs[f_checkpoly_reducta_1]? = some Try.f84 := Try.func84
abbrev f_checkpoly_ranges : FuncId := 85
theorem F_checkpoly_ranges : E.P.funcs[f_checkpoly_ranges]? = some Try.f85 := Try.func85
abbrev f_checkpoly_quotient : FuncId := 86
theorem F_checkpoly_quotient : E.P.funcs[f_checkpoly_quotient]? = some Try.f86 := Try.func86
abbrev f_checkpoly_one : FuncId := 87
theorem F_checkpoly_one : E.P.funcs[f_checkpoly_one]? = some Try.f87 := Try.func87
abbrev f_checkpoly_sub : FuncId := 88
theorem F_checkpoly_sub : E.P.funcs[f_checkpoly_sub]? = some Try.f88 := Try.func88
abbrev f_checkpoly_quo : FuncId := 89
theorem F_checkpoly_quo : E.P.funcs[f_checkpoly_quo]? = some Try.f89 := Try.func89
abbrev f_checkpoly_chained : FuncId := 90
theorem F_checkpoly_chained : E.P.funcs[f_checkpoly_chained]? = some Try.f90 := Try.func90
abbrev f_checkpoly_chain : FuncId := 91
theorem F_checkpoly_chain : E.P.funcs[f_checkpoly_chain]? = some Try.f91 := Try.func91
abbrev f_checkpoly_split : FuncId := 92
theorem F_checkpoly_split : E.P.funcs[f_checkpoly_split]? = some Try.f92 := Try.func92
abbrev f_checkpoly_dense_lead : FuncId := 93
theorem F_checkpoly_dense_lead : E.P.funcs[f_checkpoly_dense_lead]? = some Try.f93 := Try.func93
abbrev f_checkpoly_dense_join : FuncId := 94
theorem F_checkpoly_dense_join : E.P.funcs[f_checkpoly_dense_join]? = some Try.f94 := Try.func94
abbrev f_cmp_isNaN : FuncId := 95
theorem F_cmp_isNaN : E.P.funcs[f_cmp_isNaN]? = some Try.f95 := Try.func95
abbrev f_slices_insertionSortCmpFunc : FuncId := 96
theorem F_slices_insertionSortCmpFunc : E.P.funcs[f_slices_insertionSortCmpFunc]? = some Try.f96 := Try.func96
abbrev f_slices_symMergeCmpFunc : FuncId := 97
theorem F_slices_symMergeCmpFunc : E.P.funcs[f_slices_symMergeCmpFunc]? = some Try.f97 := Try.func97
abbrev f_natural_Add_1 : FuncId := 98
theorem F_natural_Add_1 : E.P.funcs[f_natural_Add_1]? = some Try.f98 := Try.func98
abbrev f_bits_Add32 : FuncId := 99
theorem F_bits_Add32 : E.P.funcs[f_bits_Add32]? = some Try.f99 := Try.func99
abbrev f_natural_Sub_1 : FuncId := 100
theorem F_natural_Sub_1 : E.P.funcs[f_natural_Sub_1]? = some Try.f100 := Try.func100
abbrev f_bits_Sub32 : FuncId := 101
theorem F_bits_Sub32 : E.P.funcs[f_bits_Sub32]? = some Try.f101 := Try.func101
abbrev f_natural_schoolbook : FuncId := 102
theorem F_natural_schoolbook : E.P.funcs[f_natural_schoolbook]? = some Try.f102 := Try.func102
abbrev f_natural_addInto : FuncId := 103
theorem F_natural_addInto : E.P.funcs[f_natural_addInto]? = some Try.f103 := Try.func103
abbrev f_slices_IndexFunc : FuncId := 104
theorem F_slices_IndexFunc : E.P.funcs[f_slices_IndexFunc]? = some Try.f104 := Try.func104
abbrev f_division_Exact : FuncId := 105
theorem F_division_Exact : E.P.funcs[f_division_Exact]? = some Try.f105 := Try.func105
abbrev f_checkpoly_dense_minus : FuncId := 106
theorem F_checkpoly_dense_minus : E.P.funcs[f_checkpoly_dense_minus]? = some Try.f106 := Try.func106
abbrev f_checkpoly_power : FuncId := 107
theorem F_checkpoly_power : E.P.funcs[f_checkpoly_power]? = some Try.f107 := Try.func107
abbrev f_checkpoly_pseudoRem : FuncId := 108
theorem F_checkpoly_pseudoRem : E.P.funcs[f_checkpoly_pseudoRem]? = some Try.f108 := Try.func108
abbrev f_checkpoly_dense_scale : FuncId := 109
theorem F_checkpoly_dense_scale : E.P.funcs[f_checkpoly_dense_scale]? = some Try.f109 := Try.func109
abbrev f_slices_rotateCmpFunc : FuncId := 110
theorem F_slices_rotateCmpFunc : E.P.funcs[f_slices_rotateCmpFunc]? = some Try.f110 := Try.func110
abbrev f_bits_Mul32 : FuncId := 111
theorem F_bits_Mul32 : E.P.funcs[f_bits_Mul32]? = some Try.f111 := Try.func111
abbrev f_division_Quo : FuncId := 112
theorem F_division_Quo : E.P.funcs[f_division_Quo]? = some Try.f112 := Try.func112
abbrev f_division_isZero : FuncId := 113
theorem F_division_isZero : E.P.funcs[f_division_isZero]? = some Try.f113 := Try.func113
abbrev f_slices_Clone_1 : FuncId := 114
theorem F_slices_Clone_1 : E.P.funcs[f_slices_Clone_1]? = some Try.f114 := Try.func114
abbrev f_checkpoly_dense_trim : FuncId := 115
theorem F_checkpoly_dense_trim : E.P.funcs[f_checkpoly_dense_trim]? = some Try.f115 := Try.func115
abbrev f_slices_swapRangeCmpFunc : FuncId := 116
theorem F_slices_swapRangeCmpFunc : E.P.funcs[f_slices_swapRangeCmpFunc]? = some Try.f116 := Try.func116
abbrev f_division_divide : FuncId := 117
theorem F_division_divide : E.P.funcs[f_division_divide]? = some Try.f117 := Try.func117
abbrev f_natural_DivSmall : FuncId := 118
theorem F_natural_DivSmall : E.P.funcs[f_natural_DivSmall]? = some Try.f118 := Try.func118
abbrev f_bits_LeadingZeros32 : FuncId := 119
theorem F_bits_LeadingZeros32 : E.P.funcs[f_bits_LeadingZeros32]? = some Try.f119 := Try.func119
abbrev f_natural_Shl : FuncId := 120
theorem F_natural_Shl : E.P.funcs[f_natural_Shl]? = some Try.f120 := Try.func120
abbrev f_division_estimate : FuncId := 121
theorem F_division_estimate : E.P.funcs[f_division_estimate]? = some Try.f121 := Try.func121
abbrev f_division_subtractMultiple : FuncId := 122
theorem F_division_subtractMultiple : E.P.funcs[f_division_subtractMultiple]? = some Try.f122 := Try.func122
abbrev f_division_addBack : FuncId := 123
theorem F_division_addBack : E.P.funcs[f_division_addBack]? = some Try.f123 := Try.func123
abbrev f_natural_Shr : FuncId := 124
theorem F_natural_Shr : E.P.funcs[f_natural_Shr]? = some Try.f124 := Try.func124
abbrev f_bits_Div32 : FuncId := 125
theorem F_bits_Div32 : E.P.funcs[f_bits_Div32]? = some Try.f125 := Try.func125
abbrev f_bits_Len32 : FuncId := 126
theorem F_bits_Len32 : E.P.funcs[f_bits_Len32]? = some Try.f126 := Try.func126
abbrev t_int64 : TypeId := 2
abbrev t_int : TypeId := 3
abbrev t_bool : TypeId := 4
abbrev t_uint8 : TypeId := 5
abbrev t_string : TypeId := 9
abbrev t_sl_cylinderref31_Mono : TypeId := 22
abbrev t_sl_checkpoly_Term : TypeId := 25
abbrev t_checkpoly_Poly : TypeId := 26
abbrev t_int8 : TypeId := 32
abbrev t_ar4_int8 : TypeId := 33
abbrev t_ar4_int : TypeId := 34
abbrev t_sl_checkpoly_Poly : TypeId := 38
abbrev t_sl_int : TypeId := 39
abbrev t_sl_uint32 : TypeId := 43
abbrev t_natural_Nat : TypeId := 44
abbrev t_integer_Int : TypeId := 46
abbrev t_ar3_sl_cylinderref31_Mono : TypeId := 60
abbrev t_ar3_ar3_sl_cylinderref31_Mono : TypeId := 61
abbrev t_sl_sl_checkpoly_Poly : TypeId := 62
abbrev t_sl_sl_int : TypeId := 63
abbrev t_api_Errno : TypeId := 64
abbrev t_ar4_ar4_int8 : TypeId := 69
abbrev t_sl_int8 : TypeId := 71
abbrev t_ar4_uint8 : TypeId := 76
abbrev t_cylinderref31_Mono : TypeId := 78
abbrev t_checkpoly_Term : TypeId := 80
abbrev t_uint64 : TypeId := 94
abbrev t_uint32 : TypeId := 105
abbrev t_uint : TypeId := 108
abbrev t_sl_checkpoly_dense : TypeId := 117
abbrev t_checkpoly_dense : TypeId := 119
abbrev t_error : TypeId := 149
theorem hE : E.Ok := ⟨fun _ _ h => tab_ok.get _ _ h, calls_ok, by kernel_rfl⟩
end Go.Vc
