/- Facts about the types and functions of this seat: each by the kernel. -/
import Derived.Test.YtdbgeahmhfocaaaEngW
import Derived.Test.YtdbgeahmhfocaaaRows
namespace Go.Proofs.Ytdbgeahmhfocaaa
open Go
theorem mix : Try.prog.follows .mixedOrders = true := by kernel_rfl
@[go_sem] theorem kd1 : kd Try.prog 1 = .func := by kernel_rfl
@[go_sem] theorem tk1 : tk Try.prog 1 = some (false, 1) := by kernel_rfl
@[go_sem] theorem zr1 : zr Try.prog 1 = some (.nilFunc) := by kernel_rfl
@[go_sem] theorem kd3 : kd Try.prog 3 = .int .i64 := by kernel_rfl
@[go_sem] theorem tk3 : tk Try.prog 3 = some (false, 1) := by kernel_rfl
@[go_sem] theorem zr3 : zr Try.prog 3 = some (.int .i64 0) := by kernel_rfl
@[go_sem] theorem kd4 : kd Try.prog 4 = .bool := by kernel_rfl
@[go_sem] theorem tk4 : tk Try.prog 4 = some (false, 1) := by kernel_rfl
@[go_sem] theorem zr4 : zr Try.prog 4 = some (.bool false) := by kernel_rfl
@[go_sem] theorem kd5 : kd Try.prog 5 = .int .u8 := by kernel_rfl
@[go_sem] theorem tk5 : tk Try.prog 5 = some (false, 1) := by kernel_rfl
@[go_sem] theorem zr5 : zr Try.prog 5 = some (.int .u8 0) := by kernel_rfl
@[go_sem] theorem kd22 : kd Try.prog 22 = .slice := by kernel_rfl
@[go_sem] theorem tk22 : tk Try.prog 22 = some (false, 1) := by kernel_rfl
@[go_sem] theorem zr22 : zr Try.prog 22 = some (.slice none 0 0) := by kernel_rfl
@[go_sem] theorem ik22 : ik Try.prog 22 = some (none, 1, false) := by kernel_rfl
@[go_sem] theorem se22 : se Try.prog 22 = some (3, 1, 8) := by kernel_rfl
@[go_sem] theorem kd23 : kd Try.prog 23 = .slice := by kernel_rfl
@[go_sem] theorem tk23 : tk Try.prog 23 = some (false, 1) := by kernel_rfl
@[go_sem] theorem zr23 : zr Try.prog 23 = some (.slice none 0 0) := by kernel_rfl
@[go_sem] theorem ik23 : ik Try.prog 23 = some (none, 1, false) := by kernel_rfl
@[go_sem] theorem se23 : se Try.prog 23 = some (22, 1, 24) := by kernel_rfl
@[go_sem] theorem kd25 : kd Try.prog 25 = .pointer := by kernel_rfl
@[go_sem] theorem tk25 : tk Try.prog 25 = some (false, 1) := by kernel_rfl
@[go_sem] theorem zr25 : zr Try.prog 25 = some (.pointer none) := by kernel_rfl
@[go_sem] theorem kd27 : kd Try.prog 27 = .slice := by kernel_rfl
@[go_sem] theorem tk27 : tk Try.prog 27 = some (false, 1) := by kernel_rfl
@[go_sem] theorem zr27 : zr Try.prog 27 = some (.slice none 0 0) := by kernel_rfl
@[go_sem] theorem ik27 : ik Try.prog 27 = some (none, 1, false) := by kernel_rfl
@[go_sem] theorem se27 : se Try.prog 27 = some (4, 1, 1) := by kernel_rfl
@[go_sem] theorem kd28 : kd Try.prog 28 = .slice := by kernel_rfl
@[go_sem] theorem tk28 : tk Try.prog 28 = some (false, 1) := by kernel_rfl
@[go_sem] theorem zr28 : zr Try.prog 28 = some (.slice none 0 0) := by kernel_rfl
@[go_sem] theorem ik28 : ik Try.prog 28 = some (none, 1, false) := by kernel_rfl
@[go_sem] theorem se28 : se Try.prog 28 = some (34, 1, 8) := by kernel_rfl
@[go_sem] theorem kd30 : kd Try.prog 30 = .pointer := by kernel_rfl
@[go_sem] theorem tk30 : tk Try.prog 30 = some (false, 1) := by kernel_rfl
@[go_sem] theorem zr30 : zr Try.prog 30 = some (.pointer none) := by kernel_rfl
@[go_sem] theorem kd32 : kd Try.prog 32 = .func := by kernel_rfl
@[go_sem] theorem tk32 : tk Try.prog 32 = some (false, 1) := by kernel_rfl
@[go_sem] theorem zr32 : zr Try.prog 32 = some (.nilFunc) := by kernel_rfl
@[go_sem] theorem kd34 : kd Try.prog 34 = .func := by kernel_rfl
@[go_sem] theorem tk34 : tk Try.prog 34 = some (false, 1) := by kernel_rfl
@[go_sem] theorem zr34 : zr Try.prog 34 = some (.nilFunc) := by kernel_rfl
@[go_sem] theorem kd40 : kd Try.prog 40 = .func := by kernel_rfl
@[go_sem] theorem tk40 : tk Try.prog 40 = some (false, 1) := by kernel_rfl
@[go_sem] theorem zr40 : zr Try.prog 40 = some (.nilFunc) := by kernel_rfl
@[go_sem] theorem kd41 : kd Try.prog 41 = .func := by kernel_rfl
@[go_sem] theorem tk41 : tk Try.prog 41 = some (false, 1) := by kernel_rfl
@[go_sem] theorem zr41 : zr Try.prog 41 = some (.nilFunc) := by kernel_rfl
@[go_sem] theorem kd42 : kd Try.prog 42 = .int .i64 := by kernel_rfl
@[go_sem] theorem tk42 : tk Try.prog 42 = some (false, 1) := by kernel_rfl
@[go_sem] theorem zr42 : zr Try.prog 42 = some (.int .i64 0) := by kernel_rfl
@[go_sem] theorem kd44 : kd Try.prog 44 = .struct := by kernel_rfl
@[go_sem] theorem tk44 : tk Try.prog 44 = some (true, 3) := by kernel_rfl
@[go_sem] theorem zr44 : zr Try.prog 44 = some (.agg #[.slice none 0 0, .int .i64 0, .int .i64 0]) := by kernel_rfl
@[go_sem] theorem kd46 : kd Try.prog 46 = .pointer := by kernel_rfl
@[go_sem] theorem tk46 : tk Try.prog 46 = some (false, 1) := by kernel_rfl
@[go_sem] theorem zr46 : zr Try.prog 46 = some (.pointer none) := by kernel_rfl
@[go_sem] theorem kd52 : kd Try.prog 52 = .struct := by kernel_rfl
@[go_sem] theorem tk52 : tk Try.prog 52 = some (true, 2) := by kernel_rfl
@[go_sem] theorem zr52 : zr Try.prog 52 = some (.agg #[.int .i64 0, .int .i64 0]) := by kernel_rfl
@[go_sem] theorem bp52 : bp Try.prog 52 = some (#[.int .i64 0, .int .i64 0], .inl [(0, 1), (1, 1)]) := by kernel_rfl
@[go_sem] theorem kd54 : kd Try.prog 54 = .struct := by kernel_rfl
@[go_sem] theorem tk54 : tk Try.prog 54 = some (true, 3) := by kernel_rfl
@[go_sem] theorem zr54 : zr Try.prog 54 = some (.agg #[.int .i64 0, .int .i64 0, .int .i64 0]) := by kernel_rfl
@[go_sem] theorem bp54 : bp Try.prog 54 = some (#[.int .i64 0, .int .i64 0, .int .i64 0], .inl [(0, 2), (2, 1)]) := by kernel_rfl
@[go_sem] theorem kd58 : kd Try.prog 58 = .slice := by kernel_rfl
@[go_sem] theorem tk58 : tk Try.prog 58 = some (false, 1) := by kernel_rfl
@[go_sem] theorem zr58 : zr Try.prog 58 = some (.slice none 0 0) := by kernel_rfl
@[go_sem] theorem ik58 : ik Try.prog 58 = some (none, 3, true) := by kernel_rfl
@[go_sem] theorem se58 : se Try.prog 58 = some (54, 3, 24) := by kernel_rfl
@[go_sem] theorem kd60 : kd Try.prog 60 = .struct := by kernel_rfl
@[go_sem] theorem tk60 : tk Try.prog 60 = some (true, 1) := by kernel_rfl
@[go_sem] theorem zr60 : zr Try.prog 60 = some (.agg #[.slice none 0 0]) := by kernel_rfl
@[go_sem] theorem bp60 : bp Try.prog 60 = some (#[.slice none 0 0], .inl [(0, 1)]) := by kernel_rfl
@[go_sem] theorem kd64 : kd Try.prog 64 = .pointer := by kernel_rfl
@[go_sem] theorem tk64 : tk Try.prog 64 = some (false, 1) := by kernel_rfl
@[go_sem] theorem zr64 : zr Try.prog 64 = some (.pointer none) := by kernel_rfl
@[go_sem] theorem kd67 : kd Try.prog 67 = .struct := by kernel_rfl
@[go_sem] theorem tk67 : tk Try.prog 67 = some (true, 4) := by kernel_rfl
@[go_sem] theorem zr67 : zr Try.prog 67 = some (.agg #[.slice none 0 0, .int .i64 0, .int .i64 0, .slice none 0 0]) := by kernel_rfl
@[go_sem] theorem bp67 : bp Try.prog 67 = some (#[.slice none 0 0, .int .i64 0, .int .i64 0, .slice none 0 0], .inl [(0, 3), (3, 1)]) := by kernel_rfl
@[go_sem] theorem kd71 : kd Try.prog 71 = .func := by kernel_rfl
@[go_sem] theorem tk71 : tk Try.prog 71 = some (false, 1) := by kernel_rfl
@[go_sem] theorem zr71 : zr Try.prog 71 = some (.nilFunc) := by kernel_rfl
@[go_sem] theorem fo44_0 : fo Try.prog 44 0 = some 0 := by kernel_rfl
@[go_sem] theorem fo44_1 : fo Try.prog 44 1 = some 1 := by kernel_rfl
@[go_sem] theorem fo44_2 : fo Try.prog 44 2 = some 2 := by kernel_rfl
@[go_sem] theorem fo52_0 : fo Try.prog 52 0 = some 0 := by kernel_rfl
@[go_sem] theorem fo52_1 : fo Try.prog 52 1 = some 1 := by kernel_rfl
@[go_sem] theorem fo54_0 : fo Try.prog 54 0 = some 0 := by kernel_rfl
@[go_sem] theorem fo54_1 : fo Try.prog 54 1 = some 2 := by kernel_rfl
@[go_sem] theorem fo60_0 : fo Try.prog 60 0 = some 0 := by kernel_rfl
@[go_sem] theorem fo67_0 : fo Try.prog 67 0 = some 0 := by kernel_rfl
@[go_sem] theorem fo67_1 : fo Try.prog 67 1 = some 3 := by kernel_rfl
noncomputable def b3 : Code := Try.f3.body.getD .skip
theorem is3 : FnIs Try.prog 3 95 b3 #[ResultVar.tmp 6] := ⟨mix, ⟨Try.f3, Try.func3, rfl, rfl, rfl, by kernel_rfl⟩, by kernel_rfl⟩
noncomputable def b4 : Code := Try.f4.body.getD .skip
theorem is4 : FnIs Try.prog 4 144 b4 #[ResultVar.tmp 6] := ⟨mix, ⟨Try.f4, Try.func4, rfl, rfl, rfl, by kernel_rfl⟩, by kernel_rfl⟩
noncomputable def b5 : Code := Try.f5.body.getD .skip
theorem is5 : FnIs Try.prog 5 35 b5 #[ResultVar.tmp 0] := ⟨mix, ⟨Try.f5, Try.func5, rfl, rfl, rfl, by kernel_rfl⟩, by kernel_rfl⟩
noncomputable def b6 : Code := Try.f6.body.getD .skip
theorem is6 : FnIs Try.prog 6 15 b6 #[ResultVar.tmp 2] := ⟨mix, ⟨Try.f6, Try.func6, rfl, rfl, rfl, by kernel_rfl⟩, by kernel_rfl⟩
noncomputable def b7 : Code := Try.f7.body.getD .skip
theorem is7 : FnIs Try.prog 7 36 b7 #[ResultVar.tmp 4] := ⟨mix, ⟨Try.f7, Try.func7, rfl, rfl, rfl, by kernel_rfl⟩, by kernel_rfl⟩
noncomputable def b8 : Code := Try.f8.body.getD .skip
theorem is8 : FnIs Try.prog 8 6 b8 #[ResultVar.tmp 2] := ⟨mix, ⟨Try.f8, Try.func8, rfl, rfl, rfl, by kernel_rfl⟩, by kernel_rfl⟩
noncomputable def b9 : Code := Try.f9.body.getD .skip
theorem is9 : FnIs Try.prog 9 20 b9 #[ResultVar.tmp 11] := ⟨mix, ⟨Try.f9, Try.func9, rfl, rfl, rfl, by kernel_rfl⟩, by kernel_rfl⟩
noncomputable def b10 : Code := Try.f10.body.getD .skip
theorem is10 : FnIs Try.prog 10 22 b10 #[ResultVar.tmp 8] := ⟨mix, ⟨Try.f10, Try.func10, rfl, rfl, rfl, by kernel_rfl⟩, by kernel_rfl⟩
noncomputable def b11 : Code := Try.f11.body.getD .skip
theorem is11 : FnIs Try.prog 11 14 b11 #[ResultVar.tmp 10] := ⟨mix, ⟨Try.f11, Try.func11, rfl, rfl, rfl, by kernel_rfl⟩, by kernel_rfl⟩
noncomputable def b12 : Code := Try.f12.body.getD .skip
theorem is12 : FnIs Try.prog 12 6 b12 #[ResultVar.tmp 4] := ⟨mix, ⟨Try.f12, Try.func12, rfl, rfl, rfl, by kernel_rfl⟩, by kernel_rfl⟩
noncomputable def b13 : Code := Try.f13.body.getD .skip
theorem is13 : FnIs Try.prog 13 31 b13 #[] := ⟨mix, ⟨Try.f13, Try.func13, rfl, rfl, rfl, by kernel_rfl⟩, by kernel_rfl⟩
noncomputable def b14 : Code := Try.f14.body.getD .skip
theorem is14 : FnIs Try.prog 14 28 b14 #[ResultVar.tmp 4] := ⟨mix, ⟨Try.f14, Try.func14, rfl, rfl, rfl, by kernel_rfl⟩, by kernel_rfl⟩
noncomputable def b15 : Code := Try.f15.body.getD .skip
theorem is15 : FnIs Try.prog 15 13 b15 #[ResultVar.tmp 9] := ⟨mix, ⟨Try.f15, Try.func15, rfl, rfl, rfl, by kernel_rfl⟩, by kernel_rfl⟩
noncomputable def b16 : Code := Try.f16.body.getD .skip
theorem is16 : FnIs Try.prog 16 9 b16 #[ResultVar.tmp 4] := ⟨mix, ⟨Try.f16, Try.func16, rfl, rfl, rfl, by kernel_rfl⟩, by kernel_rfl⟩
noncomputable def b17 : Code := Try.f17.body.getD .skip
theorem is17 : FnIs Try.prog 17 18 b17 #[ResultVar.tmp 11] := ⟨mix, ⟨Try.f17, Try.func17, rfl, rfl, rfl, by kernel_rfl⟩, by kernel_rfl⟩
noncomputable def b18 : Code := Try.f18.body.getD .skip
theorem is18 : FnIs Try.prog 18 13 b18 #[ResultVar.tmp 8] := ⟨mix, ⟨Try.f18, Try.func18, rfl, rfl, rfl, by kernel_rfl⟩, by kernel_rfl⟩
noncomputable def b19 : Code := Try.f19.body.getD .skip
theorem is19 : FnIs Try.prog 19 14 b19 #[ResultVar.tmp 10] := ⟨mix, ⟨Try.f19, Try.func19, rfl, rfl, rfl, by kernel_rfl⟩, by kernel_rfl⟩
noncomputable def b20 : Code := Try.f20.body.getD .skip
theorem is20 : FnIs Try.prog 20 15 b20 #[] := ⟨mix, ⟨Try.f20, Try.func20, rfl, rfl, rfl, by kernel_rfl⟩, by kernel_rfl⟩
noncomputable def b21 : Code := Try.f21.body.getD .skip
theorem is21 : FnIs Try.prog 21 12 b21 #[ResultVar.tmp 5] := ⟨mix, ⟨Try.f21, Try.func21, rfl, rfl, rfl, by kernel_rfl⟩, by kernel_rfl⟩
noncomputable def b22 : Code := Try.f22.body.getD .skip
theorem is22 : FnIs Try.prog 22 17 b22 #[ResultVar.tmp 8] := ⟨mix, ⟨Try.f22, Try.func22, rfl, rfl, rfl, by kernel_rfl⟩, by kernel_rfl⟩
noncomputable def b23 : Code := Try.f23.body.getD .skip
theorem is23 : FnIs Try.prog 23 7 b23 #[ResultVar.tmp 2] := ⟨mix, ⟨Try.f23, Try.func23, rfl, rfl, rfl, by kernel_rfl⟩, by kernel_rfl⟩
noncomputable def b24 : Code := Try.f24.body.getD .skip
theorem is24 : FnIs Try.prog 24 40 b24 #[ResultVar.cell 4 44] := ⟨mix, ⟨Try.f24, Try.func24, rfl, rfl, rfl, by kernel_rfl⟩, by kernel_rfl⟩
noncomputable def b25 : Code := Try.f25.body.getD .skip
theorem is25 : FnIs Try.prog 25 26 b25 #[ResultVar.tmp 4] := ⟨mix, ⟨Try.f25, Try.func25, rfl, rfl, rfl, by kernel_rfl⟩, by kernel_rfl⟩
noncomputable def b26 : Code := Try.f26.body.getD .skip
theorem is26 : FnIs Try.prog 26 9 b26 #[ResultVar.tmp 2] := ⟨mix, ⟨Try.f26, Try.func26, rfl, rfl, rfl, by kernel_rfl⟩, by kernel_rfl⟩
noncomputable def b27 : Code := Try.f27.body.getD .skip
theorem is27 : FnIs Try.prog 27 8 b27 #[ResultVar.tmp 4] := ⟨mix, ⟨Try.f27, Try.func27, rfl, rfl, rfl, by kernel_rfl⟩, by kernel_rfl⟩
noncomputable def b28 : Code := Try.f28.body.getD .skip
theorem is28 : FnIs Try.prog 28 12 b28 #[ResultVar.tmp 6] := ⟨mix, ⟨Try.f28, Try.func28, rfl, rfl, rfl, by kernel_rfl⟩, by kernel_rfl⟩
noncomputable def b29 : Code := Try.f29.body.getD .skip
theorem is29 : FnIs Try.prog 29 5 b29 #[ResultVar.tmp 3] := ⟨mix, ⟨Try.f29, Try.func29, rfl, rfl, rfl, by kernel_rfl⟩, by kernel_rfl⟩
noncomputable def b30 : Code := Try.f30.body.getD .skip
theorem is30 : FnIs Try.prog 30 9 b30 #[ResultVar.tmp 2] := ⟨mix, ⟨Try.f30, Try.func30, rfl, rfl, rfl, by kernel_rfl⟩, by kernel_rfl⟩
noncomputable def b31 : Code := Try.f31.body.getD .skip
theorem is31 : FnIs Try.prog 31 28 b31 #[ResultVar.tmp 4] := ⟨mix, ⟨Try.f31, Try.func31, rfl, rfl, rfl, by kernel_rfl⟩, by kernel_rfl⟩
noncomputable def b32 : Code := Try.f32.body.getD .skip
theorem is32 : FnIs Try.prog 32 26 b32 #[ResultVar.tmp 4] := ⟨mix, ⟨Try.f32, Try.func32, rfl, rfl, rfl, by kernel_rfl⟩, by kernel_rfl⟩
noncomputable def b33 : Code := Try.f33.body.getD .skip
theorem is33 : FnIs Try.prog 33 26 b33 #[ResultVar.tmp 4] := ⟨mix, ⟨Try.f33, Try.func33, rfl, rfl, rfl, by kernel_rfl⟩, by kernel_rfl⟩
noncomputable def b34 : Code := Try.f34.body.getD .skip
theorem is34 : FnIs Try.prog 34 8 b34 #[ResultVar.tmp 6] := ⟨mix, ⟨Try.f34, Try.func34, rfl, rfl, rfl, by kernel_rfl⟩, by kernel_rfl⟩
noncomputable def b35 : Code := Try.f35.body.getD .skip
theorem is35 : FnIs Try.prog 35 7 b35 #[ResultVar.tmp 3] := ⟨mix, ⟨Try.f35, Try.func35, rfl, rfl, rfl, by kernel_rfl⟩, by kernel_rfl⟩
noncomputable def b36 : Code := Try.f36.body.getD .skip
theorem is36 : FnIs Try.prog 36 3 b36 #[] := ⟨mix, ⟨Try.f36, Try.func36, rfl, rfl, rfl, by kernel_rfl⟩, by kernel_rfl⟩
noncomputable def b37 : Code := Try.f37.body.getD .skip
theorem is37 : FnIs Try.prog 37 7 b37 #[ResultVar.tmp 2] := ⟨mix, ⟨Try.f37, Try.func37, rfl, rfl, rfl, by kernel_rfl⟩, by kernel_rfl⟩
noncomputable def b38 : Code := Try.f38.body.getD .skip
theorem is38 : FnIs Try.prog 38 7 b38 #[ResultVar.tmp 2] := ⟨mix, ⟨Try.f38, Try.func38, rfl, rfl, rfl, by kernel_rfl⟩, by kernel_rfl⟩
noncomputable def b39 : Code := Try.f39.body.getD .skip
theorem is39 : FnIs Try.prog 39 11 b39 #[ResultVar.tmp 4] := ⟨mix, ⟨Try.f39, Try.func39, rfl, rfl, rfl, by kernel_rfl⟩, by kernel_rfl⟩
noncomputable def b40 : Code := Try.f40.body.getD .skip
theorem is40 : FnIs Try.prog 40 10 b40 #[ResultVar.tmp 2, ResultVar.tmp 3] := ⟨mix, ⟨Try.f40, Try.func40, rfl, rfl, rfl, by kernel_rfl⟩, by kernel_rfl⟩
noncomputable def b41 : Code := Try.f41.body.getD .skip
theorem is41 : FnIs Try.prog 41 4 b41 #[] := ⟨mix, ⟨Try.f41, Try.func41, rfl, rfl, rfl, by kernel_rfl⟩, by kernel_rfl⟩
noncomputable def b42 : Code := Try.f42.body.getD .skip
theorem is42 : FnIs Try.prog 42 7 b42 #[ResultVar.cell 2 3] := ⟨mix, ⟨Try.f42, Try.func42, rfl, rfl, rfl, by kernel_rfl⟩, by kernel_rfl⟩
noncomputable def b43 : Code := Try.f43.body.getD .skip
theorem is43 : FnIs Try.prog 43 8 b43 #[ResultVar.tmp 2] := ⟨mix, ⟨Try.f43, Try.func43, rfl, rfl, rfl, by kernel_rfl⟩, by kernel_rfl⟩
noncomputable def b44 : Code := Try.f44.body.getD .skip
theorem is44 : FnIs Try.prog 44 8 b44 #[] := ⟨mix, ⟨Try.f44, Try.func44, rfl, rfl, rfl, by kernel_rfl⟩, by kernel_rfl⟩
noncomputable def b45 : Code := Try.f45.body.getD .skip
theorem is45 : FnIs Try.prog 45 11 b45 #[ResultVar.cell 6 4] := ⟨mix, ⟨Try.f45, Try.func45, rfl, rfl, rfl, by kernel_rfl⟩, by kernel_rfl⟩
noncomputable def b46 : Code := Try.f46.body.getD .skip
theorem is46 : FnIs Try.prog 46 8 b46 #[ResultVar.tmp 2] := ⟨mix, ⟨Try.f46, Try.func46, rfl, rfl, rfl, by kernel_rfl⟩, by kernel_rfl⟩
noncomputable def b47 : Code := Try.f47.body.getD .skip
theorem is47 : FnIs Try.prog 47 10 b47 #[] := ⟨mix, ⟨Try.f47, Try.func47, rfl, rfl, rfl, by kernel_rfl⟩, by kernel_rfl⟩
noncomputable def b48 : Code := Try.f48.body.getD .skip
theorem is48 : FnIs Try.prog 48 19 b48 #[ResultVar.tmp 4] := ⟨mix, ⟨Try.f48, Try.func48, rfl, rfl, rfl, by kernel_rfl⟩, by kernel_rfl⟩
noncomputable def b49 : Code := Try.f49.body.getD .skip
theorem is49 : FnIs Try.prog 49 11 b49 #[ResultVar.tmp 4] := ⟨mix, ⟨Try.f49, Try.func49, rfl, rfl, rfl, by kernel_rfl⟩, by kernel_rfl⟩
noncomputable def b50 : Code := Try.f50.body.getD .skip
theorem is50 : FnIs Try.prog 50 8 b50 #[ResultVar.tmp 2] := ⟨mix, ⟨Try.f50, Try.func50, rfl, rfl, rfl, by kernel_rfl⟩, by kernel_rfl⟩
noncomputable def b51 : Code := Try.f51.body.getD .skip
theorem is51 : FnIs Try.prog 51 14 b51 #[ResultVar.tmp 2] := ⟨mix, ⟨Try.f51, Try.func51, rfl, rfl, rfl, by kernel_rfl⟩, by kernel_rfl⟩
noncomputable def b52 : Code := Try.f52.body.getD .skip
theorem is52 : FnIs Try.prog 52 69 b52 #[ResultVar.tmp 4] := ⟨mix, ⟨Try.f52, Try.func52, rfl, rfl, rfl, by kernel_rfl⟩, by kernel_rfl⟩
noncomputable def b53 : Code := Try.f53.body.getD .skip
theorem is53 : FnIs Try.prog 53 8 b53 #[ResultVar.tmp 2] := ⟨mix, ⟨Try.f53, Try.func53, rfl, rfl, rfl, by kernel_rfl⟩, by kernel_rfl⟩
noncomputable def b54 : Code := Try.f54.body.getD .skip
theorem is54 : FnIs Try.prog 54 20 b54 #[ResultVar.tmp 2] := ⟨mix, ⟨Try.f54, Try.func54, rfl, rfl, rfl, by kernel_rfl⟩, by kernel_rfl⟩
noncomputable def b55 : Code := Try.f55.body.getD .skip
theorem is55 : FnIs Try.prog 55 10 b55 #[ResultVar.tmp 2] := ⟨mix, ⟨Try.f55, Try.func55, rfl, rfl, rfl, by kernel_rfl⟩, by kernel_rfl⟩
noncomputable def b56 : Code := Try.f56.body.getD .skip
theorem is56 : FnIs Try.prog 56 10 b56 #[ResultVar.tmp 2] := ⟨mix, ⟨Try.f56, Try.func56, rfl, rfl, rfl, by kernel_rfl⟩, by kernel_rfl⟩
noncomputable def b57 : Code := Try.f57.body.getD .skip
theorem is57 : FnIs Try.prog 57 11 b57 #[ResultVar.tmp 3, ResultVar.tmp 4] := ⟨mix, ⟨Try.f57, Try.func57, rfl, rfl, rfl, by kernel_rfl⟩, by kernel_rfl⟩
noncomputable def b58 : Code := Try.f58.body.getD .skip
theorem is58 : FnIs Try.prog 58 15 b58 #[] := ⟨mix, ⟨Try.f58, Try.func58, rfl, rfl, rfl, by kernel_rfl⟩, by kernel_rfl⟩
noncomputable def b59 : Code := Try.f59.body.getD .skip
theorem is59 : FnIs Try.prog 59 6 b59 #[] := ⟨mix, ⟨Try.f59, Try.func59, rfl, rfl, rfl, by kernel_rfl⟩, by kernel_rfl⟩
noncomputable def b60 : Code := Try.f60.body.getD .skip
theorem is60 : FnIs Try.prog 60 15 b60 #[] := ⟨mix, ⟨Try.f60, Try.func60, rfl, rfl, rfl, by kernel_rfl⟩, by kernel_rfl⟩
noncomputable def b61 : Code := Try.f61.body.getD .skip
theorem is61 : FnIs Try.prog 61 9 b61 #[ResultVar.tmp 4] := ⟨mix, ⟨Try.f61, Try.func61, rfl, rfl, rfl, by kernel_rfl⟩, by kernel_rfl⟩
noncomputable def b62 : Code := Try.f62.body.getD .skip
theorem is62 : FnIs Try.prog 62 5 b62 #[ResultVar.tmp 2] := ⟨mix, ⟨Try.f62, Try.func62, rfl, rfl, rfl, by kernel_rfl⟩, by kernel_rfl⟩
noncomputable def b63 : Code := Try.f63.body.getD .skip
theorem is63 : FnIs Try.prog 63 19 b63 #[ResultVar.tmp 4] := ⟨mix, ⟨Try.f63, Try.func63, rfl, rfl, rfl, by kernel_rfl⟩, by kernel_rfl⟩
end Go.Proofs.Ytdbgeahmhfocaaa
