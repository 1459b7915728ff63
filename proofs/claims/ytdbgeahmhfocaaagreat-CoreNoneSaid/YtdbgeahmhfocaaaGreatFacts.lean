/- Facts about the types and functions of this seat: each by the kernel. -/
import Derived.Test.YtdbgeahmhfocaaaGreatEngW
import Derived.Test.YtdbgeahmhfocaaaGreatRows
namespace Go.Proofs.YtdbgeahmhfocaaaGreat
open Go
theorem mix : Tryz.prog.follows .mixedOrders = true := by kernel_rfl
@[go_sem] theorem kd1 : kd Tryz.prog 1 = .func := by kernel_rfl
@[go_sem] theorem tk1 : tk Tryz.prog 1 = some (false, 1) := by kernel_rfl
@[go_sem] theorem zr1 : zr Tryz.prog 1 = some (.nilFunc) := by kernel_rfl
@[go_sem] theorem kd3 : kd Tryz.prog 3 = .int .i64 := by kernel_rfl
@[go_sem] theorem tk3 : tk Tryz.prog 3 = some (false, 1) := by kernel_rfl
@[go_sem] theorem zr3 : zr Tryz.prog 3 = some (.int .i64 0) := by kernel_rfl
@[go_sem] theorem kd4 : kd Tryz.prog 4 = .bool := by kernel_rfl
@[go_sem] theorem tk4 : tk Tryz.prog 4 = some (false, 1) := by kernel_rfl
@[go_sem] theorem zr4 : zr Tryz.prog 4 = some (.bool false) := by kernel_rfl
@[go_sem] theorem kd5 : kd Tryz.prog 5 = .int .u8 := by kernel_rfl
@[go_sem] theorem tk5 : tk Tryz.prog 5 = some (false, 1) := by kernel_rfl
@[go_sem] theorem zr5 : zr Tryz.prog 5 = some (.int .u8 0) := by kernel_rfl
@[go_sem] theorem kd9 : kd Tryz.prog 9 = .string := by kernel_rfl
@[go_sem] theorem tk9 : tk Tryz.prog 9 = some (false, 1) := by kernel_rfl
@[go_sem] theorem zr9 : zr Tryz.prog 9 = some (.string ⟨#[]⟩) := by kernel_rfl
@[go_sem] theorem kd22 : kd Tryz.prog 22 = .slice := by kernel_rfl
@[go_sem] theorem tk22 : tk Tryz.prog 22 = some (false, 1) := by kernel_rfl
@[go_sem] theorem zr22 : zr Tryz.prog 22 = some (.slice none 0 0) := by kernel_rfl
@[go_sem] theorem ik22 : ik Tryz.prog 22 = some (none, 1, false) := by kernel_rfl
@[go_sem] theorem se22 : se Tryz.prog 22 = some (3, 1, 8) := by kernel_rfl
@[go_sem] theorem kd23 : kd Tryz.prog 23 = .slice := by kernel_rfl
@[go_sem] theorem tk23 : tk Tryz.prog 23 = some (false, 1) := by kernel_rfl
@[go_sem] theorem zr23 : zr Tryz.prog 23 = some (.slice none 0 0) := by kernel_rfl
@[go_sem] theorem ik23 : ik Tryz.prog 23 = some (none, 3, true) := by kernel_rfl
@[go_sem] theorem se23 : se Tryz.prog 23 = some (40, 3, 40) := by kernel_rfl
@[go_sem] theorem kd24 : kd Tryz.prog 24 = .slice := by kernel_rfl
@[go_sem] theorem tk24 : tk Tryz.prog 24 = some (false, 1) := by kernel_rfl
@[go_sem] theorem zr24 : zr Tryz.prog 24 = some (.slice none 0 0) := by kernel_rfl
@[go_sem] theorem ik24 : ik Tryz.prog 24 = some (none, 1, false) := by kernel_rfl
@[go_sem] theorem se24 : se Tryz.prog 24 = some (46, 1, 24) := by kernel_rfl
@[go_sem] theorem kd27 : kd Tryz.prog 27 = .pointer := by kernel_rfl
@[go_sem] theorem tk27 : tk Tryz.prog 27 = some (false, 1) := by kernel_rfl
@[go_sem] theorem zr27 : zr Tryz.prog 27 = some (.pointer none) := by kernel_rfl
@[go_sem] theorem kd29 : kd Tryz.prog 29 = .slice := by kernel_rfl
@[go_sem] theorem tk29 : tk Tryz.prog 29 = some (false, 1) := by kernel_rfl
@[go_sem] theorem zr29 : zr Tryz.prog 29 = some (.slice none 0 0) := by kernel_rfl
@[go_sem] theorem ik29 : ik Tryz.prog 29 = some (none, 1, false) := by kernel_rfl
@[go_sem] theorem se29 : se Tryz.prog 29 = some (33, 1, 24) := by kernel_rfl
@[go_sem] theorem kd31 : kd Tryz.prog 31 = .struct := by kernel_rfl
@[go_sem] theorem tk31 : tk Tryz.prog 31 = some (true, 1) := by kernel_rfl
@[go_sem] theorem zr31 : zr Tryz.prog 31 = some (.agg #[.slice none 0 0]) := by kernel_rfl
@[go_sem] theorem bp31 : bp Tryz.prog 31 = some (#[.slice none 0 0], .inl [(0, 1)]) := by kernel_rfl
@[go_sem] theorem kd32 : kd Tryz.prog 32 = .slice := by kernel_rfl
@[go_sem] theorem tk32 : tk Tryz.prog 32 = some (false, 1) := by kernel_rfl
@[go_sem] theorem zr32 : zr Tryz.prog 32 = some (.slice none 0 0) := by kernel_rfl
@[go_sem] theorem ik32 : ik Tryz.prog 32 = some (none, 1, false) := by kernel_rfl
@[go_sem] theorem se32 : se Tryz.prog 32 = some (23, 1, 24) := by kernel_rfl
@[go_sem] theorem kd33 : kd Tryz.prog 33 = .slice := by kernel_rfl
@[go_sem] theorem tk33 : tk Tryz.prog 33 = some (false, 1) := by kernel_rfl
@[go_sem] theorem zr33 : zr Tryz.prog 33 = some (.slice none 0 0) := by kernel_rfl
@[go_sem] theorem ik33 : ik Tryz.prog 33 = some (none, 1, false) := by kernel_rfl
@[go_sem] theorem se33 : se Tryz.prog 33 = some (9, 1, 16) := by kernel_rfl
@[go_sem] theorem kd35 : kd Tryz.prog 35 = .struct := by kernel_rfl
@[go_sem] theorem tk35 : tk Tryz.prog 35 = some (true, 4) := by kernel_rfl
@[go_sem] theorem zr35 : zr Tryz.prog 35 = some (.agg #[.slice none 0 0, .slice none 0 0, .slice none 0 0, .int .i64 0]) := by kernel_rfl
@[go_sem] theorem bp35 : bp Tryz.prog 35 = some (#[.slice none 0 0, .slice none 0 0, .slice none 0 0, .int .i64 0], .inl [(0, 1), (1, 1), (2, 1), (3, 1)]) := by kernel_rfl
@[go_sem] theorem kd37 : kd Tryz.prog 37 = .struct := by kernel_rfl
@[go_sem] theorem tk37 : tk Tryz.prog 37 = some (true, 8) := by kernel_rfl
@[go_sem] theorem zr37 : zr Tryz.prog 37 = some (.agg #[.slice none 0 0, .int .i64 0, .slice none 0 0, .slice none 0 0, .slice none 0 0, .slice none 0 0, .slice none 0 0, .int .i64 0]) := by kernel_rfl
@[go_sem] theorem bp37 : bp Tryz.prog 37 = some (#[.slice none 0 0, .int .i64 0, .slice none 0 0, .slice none 0 0, .slice none 0 0, .slice none 0 0, .slice none 0 0, .int .i64 0], .inl [(0, 1), (1, 1), (2, 1), (3, 1), (4, 4)]) := by kernel_rfl
@[go_sem] theorem kd40 : kd Tryz.prog 40 = .struct := by kernel_rfl
@[go_sem] theorem tk40 : tk Tryz.prog 40 = some (true, 3) := by kernel_rfl
@[go_sem] theorem zr40 : zr Tryz.prog 40 = some (.agg #[.string ⟨#[]⟩, .string ⟨#[]⟩, .bool false]) := by kernel_rfl
@[go_sem] theorem bp40 : bp Tryz.prog 40 = some (#[.string ⟨#[]⟩, .string ⟨#[]⟩, .bool false], .inl [(0, 1), (1, 1), (2, 1)]) := by kernel_rfl
@[go_sem] theorem kd41 : kd Tryz.prog 41 = .func := by kernel_rfl
@[go_sem] theorem tk41 : tk Tryz.prog 41 = some (false, 1) := by kernel_rfl
@[go_sem] theorem zr41 : zr Tryz.prog 41 = some (.nilFunc) := by kernel_rfl
@[go_sem] theorem kd43 : kd Tryz.prog 43 = .pointer := by kernel_rfl
@[go_sem] theorem tk43 : tk Tryz.prog 43 = some (false, 1) := by kernel_rfl
@[go_sem] theorem zr43 : zr Tryz.prog 43 = some (.pointer none) := by kernel_rfl
@[go_sem] theorem kd45 : kd Tryz.prog 45 = .slice := by kernel_rfl
@[go_sem] theorem tk45 : tk Tryz.prog 45 = some (false, 1) := by kernel_rfl
@[go_sem] theorem zr45 : zr Tryz.prog 45 = some (.slice none 0 0) := by kernel_rfl
@[go_sem] theorem ik45 : ik Tryz.prog 45 = some (none, 1, false) := by kernel_rfl
@[go_sem] theorem se45 : se Tryz.prog 45 = some (50, 1, 8) := by kernel_rfl
@[go_sem] theorem kd46 : kd Tryz.prog 46 = .slice := by kernel_rfl
@[go_sem] theorem tk46 : tk Tryz.prog 46 = some (false, 1) := by kernel_rfl
@[go_sem] theorem zr46 : zr Tryz.prog 46 = some (.slice none 0 0) := by kernel_rfl
@[go_sem] theorem ik46 : ik Tryz.prog 46 = some (none, 5, true) := by kernel_rfl
@[go_sem] theorem se46 : se Tryz.prog 46 = some (48, 5, 56) := by kernel_rfl
@[go_sem] theorem kd48 : kd Tryz.prog 48 = .struct := by kernel_rfl
@[go_sem] theorem tk48 : tk Tryz.prog 48 = some (true, 5) := by kernel_rfl
@[go_sem] theorem zr48 : zr Tryz.prog 48 = some (.agg #[.int .i64 0, .int .i64 0, .string ⟨#[]⟩, .string ⟨#[]⟩, .bool false]) := by kernel_rfl
@[go_sem] theorem bp48 : bp Tryz.prog 48 = some (#[.int .i64 0, .int .i64 0, .string ⟨#[]⟩, .string ⟨#[]⟩, .bool false], .inl [(0, 1), (1, 1), (2, 1), (3, 1), (4, 1)]) := by kernel_rfl
@[go_sem] theorem kd50 : kd Tryz.prog 50 = .func := by kernel_rfl
@[go_sem] theorem tk50 : tk Tryz.prog 50 = some (false, 1) := by kernel_rfl
@[go_sem] theorem zr50 : zr Tryz.prog 50 = some (.nilFunc) := by kernel_rfl
@[go_sem] theorem kd52 : kd Tryz.prog 52 = .int .i64 := by kernel_rfl
@[go_sem] theorem tk52 : tk Tryz.prog 52 = some (false, 1) := by kernel_rfl
@[go_sem] theorem zr52 : zr Tryz.prog 52 = some (.int .i64 0) := by kernel_rfl
@[go_sem] theorem kd54 : kd Tryz.prog 54 = .struct := by kernel_rfl
@[go_sem] theorem tk54 : tk Tryz.prog 54 = some (true, 3) := by kernel_rfl
@[go_sem] theorem zr54 : zr Tryz.prog 54 = some (.agg #[.slice none 0 0, .int .i64 0, .int .i64 0]) := by kernel_rfl
@[go_sem] theorem kd56 : kd Tryz.prog 56 = .slice := by kernel_rfl
@[go_sem] theorem tk56 : tk Tryz.prog 56 = some (false, 1) := by kernel_rfl
@[go_sem] theorem zr56 : zr Tryz.prog 56 = some (.slice none 0 0) := by kernel_rfl
@[go_sem] theorem ik56 : ik Tryz.prog 56 = some (none, 15, true) := by kernel_rfl
@[go_sem] theorem se56 : se Tryz.prog 56 = some (69, 15, 152) := by kernel_rfl
@[go_sem] theorem kd62 : kd Tryz.prog 62 = .slice := by kernel_rfl
@[go_sem] theorem tk62 : tk Tryz.prog 62 = some (false, 1) := by kernel_rfl
@[go_sem] theorem zr62 : zr Tryz.prog 62 = some (.slice none 0 0) := by kernel_rfl
@[go_sem] theorem ik62 : ik Tryz.prog 62 = some (none, 1, false) := by kernel_rfl
@[go_sem] theorem se62 : se Tryz.prog 62 = some (52, 1, 8) := by kernel_rfl
@[go_sem] theorem kd64 : kd Tryz.prog 64 = .struct := by kernel_rfl
@[go_sem] theorem tk64 : tk Tryz.prog 64 = some (true, 6) := by kernel_rfl
@[go_sem] theorem zr64 : zr Tryz.prog 64 = some (.agg #[.int .i64 0, .int .i64 0, .int .i64 0, .string ⟨#[]⟩, .string ⟨#[]⟩, .bool false]) := by kernel_rfl
@[go_sem] theorem bp64 : bp Tryz.prog 64 = some (#[.int .i64 0, .int .i64 0, .int .i64 0, .string ⟨#[]⟩, .string ⟨#[]⟩, .bool false], .inl [(0, 1), (1, 1), (2, 1), (3, 3)]) := by kernel_rfl
@[go_sem] theorem kd65 : kd Tryz.prog 65 = .func := by kernel_rfl
@[go_sem] theorem tk65 : tk Tryz.prog 65 = some (false, 1) := by kernel_rfl
@[go_sem] theorem zr65 : zr Tryz.prog 65 = some (.nilFunc) := by kernel_rfl
@[go_sem] theorem kd69 : kd Tryz.prog 69 = .struct := by kernel_rfl
@[go_sem] theorem tk69 : tk Tryz.prog 69 = some (true, 15) := by kernel_rfl
@[go_sem] theorem zr69 : zr Tryz.prog 69 = some (.agg #[.int .i64 0, .int .i64 0, .int .i64 0, .int .i64 0, .string ⟨#[]⟩, .string ⟨#[]⟩, .bool false, .int .i64 0, .int .i64 0, .int .i64 0, .string ⟨#[]⟩, .string ⟨#[]⟩, .bool false, .int .i64 0, .int .i64 0]) := by kernel_rfl
@[go_sem] theorem bp69 : bp Tryz.prog 69 = some (#[.int .i64 0, .int .i64 0, .int .i64 0, .int .i64 0, .string ⟨#[]⟩, .string ⟨#[]⟩, .bool false, .int .i64 0, .int .i64 0, .int .i64 0, .string ⟨#[]⟩, .string ⟨#[]⟩, .bool false, .int .i64 0, .int .i64 0], .inl [(0, 1), (1, 1), (2, 5), (7, 6), (13, 1), (14, 1)]) := by kernel_rfl
@[go_sem] theorem kd71 : kd Tryz.prog 71 = .pointer := by kernel_rfl
@[go_sem] theorem tk71 : tk Tryz.prog 71 = some (false, 1) := by kernel_rfl
@[go_sem] theorem zr71 : zr Tryz.prog 71 = some (.pointer none) := by kernel_rfl
@[go_sem] theorem kd73 : kd Tryz.prog 73 = .pointer := by kernel_rfl
@[go_sem] theorem tk73 : tk Tryz.prog 73 = some (false, 1) := by kernel_rfl
@[go_sem] theorem zr73 : zr Tryz.prog 73 = some (.pointer none) := by kernel_rfl
@[go_sem] theorem kd77 : kd Tryz.prog 77 = .struct := by kernel_rfl
@[go_sem] theorem tk77 : tk Tryz.prog 77 = some (true, 2) := by kernel_rfl
@[go_sem] theorem zr77 : zr Tryz.prog 77 = some (.agg #[.pointer none, .int .i64 0]) := by kernel_rfl
@[go_sem] theorem bp77 : bp Tryz.prog 77 = some (#[.pointer none, .int .i64 0], .inl [(0, 1), (1, 1)]) := by kernel_rfl
@[go_sem] theorem kd78 : kd Tryz.prog 78 = .pointer := by kernel_rfl
@[go_sem] theorem tk78 : tk Tryz.prog 78 = some (false, 1) := by kernel_rfl
@[go_sem] theorem zr78 : zr Tryz.prog 78 = some (.pointer none) := by kernel_rfl
@[go_sem] theorem kd81 : kd Tryz.prog 81 = .struct := by kernel_rfl
@[go_sem] theorem tk81 : tk Tryz.prog 81 = some (true, 3) := by kernel_rfl
@[go_sem] theorem zr81 : zr Tryz.prog 81 = some (.agg #[.pointer none, .pointer none, .pointer none]) := by kernel_rfl
@[go_sem] theorem bp81 : bp Tryz.prog 81 = some (#[.pointer none, .pointer none, .pointer none], .inl [(0, 1), (1, 1), (2, 1)]) := by kernel_rfl
@[go_sem] theorem kd82 : kd Tryz.prog 82 = .pointer := by kernel_rfl
@[go_sem] theorem tk82 : tk Tryz.prog 82 = some (false, 1) := by kernel_rfl
@[go_sem] theorem zr82 : zr Tryz.prog 82 = some (.pointer none) := by kernel_rfl
@[go_sem] theorem kd83 : kd Tryz.prog 83 = .pointer := by kernel_rfl
@[go_sem] theorem tk83 : tk Tryz.prog 83 = some (false, 1) := by kernel_rfl
@[go_sem] theorem zr83 : zr Tryz.prog 83 = some (.pointer none) := by kernel_rfl
@[go_sem] theorem kd84 : kd Tryz.prog 84 = .array := by kernel_rfl
@[go_sem] theorem tk84 : tk Tryz.prog 84 = some (true, 4) := by kernel_rfl
@[go_sem] theorem zr84 : zr Tryz.prog 84 = some (.agg #[.pointer none, .pointer none, .pointer none, .pointer none]) := by kernel_rfl
@[go_sem] theorem ik84 : ik Tryz.prog 84 = some (some 4, 1, false) := by kernel_rfl
@[go_sem] theorem kd85 : kd Tryz.prog 85 = .slice := by kernel_rfl
@[go_sem] theorem tk85 : tk Tryz.prog 85 = some (false, 1) := by kernel_rfl
@[go_sem] theorem zr85 : zr Tryz.prog 85 = some (.slice none 0 0) := by kernel_rfl
@[go_sem] theorem ik85 : ik Tryz.prog 85 = some (none, 1, false) := by kernel_rfl
@[go_sem] theorem se85 : se Tryz.prog 85 = some (100, 1, 8) := by kernel_rfl
@[go_sem] theorem kd87 : kd Tryz.prog 87 = .struct := by kernel_rfl
@[go_sem] theorem tk87 : tk Tryz.prog 87 = some (true, 10) := by kernel_rfl
@[go_sem] theorem zr87 : zr Tryz.prog 87 = some (.agg #[.pointer none, .pointer none, .pointer none, .pointer none, .pointer none, .pointer none, .pointer none, .pointer none, .slice none 0 0, .int .i64 0]) := by kernel_rfl
@[go_sem] theorem bp87 : bp Tryz.prog 87 = some (#[.pointer none, .pointer none, .pointer none, .pointer none, .pointer none, .pointer none, .pointer none, .pointer none, .slice none 0 0, .int .i64 0], .inl [(0, 3), (3, 1), (4, 4), (8, 1), (9, 1)]) := by kernel_rfl
@[go_sem] theorem kd92 : kd Tryz.prog 92 = .struct := by kernel_rfl
@[go_sem] theorem tk92 : tk Tryz.prog 92 = some (true, 2) := by kernel_rfl
@[go_sem] theorem zr92 : zr Tryz.prog 92 = some (.agg #[.int .i64 0, .int .i64 0]) := by kernel_rfl
@[go_sem] theorem bp92 : bp Tryz.prog 92 = some (#[.int .i64 0, .int .i64 0], .inl [(0, 1), (1, 1)]) := by kernel_rfl
@[go_sem] theorem kd94 : kd Tryz.prog 94 = .pointer := by kernel_rfl
@[go_sem] theorem tk94 : tk Tryz.prog 94 = some (false, 1) := by kernel_rfl
@[go_sem] theorem zr94 : zr Tryz.prog 94 = some (.pointer none) := by kernel_rfl
@[go_sem] theorem kd99 : kd Tryz.prog 99 = .struct := by kernel_rfl
@[go_sem] theorem tk99 : tk Tryz.prog 99 = some (true, 3) := by kernel_rfl
@[go_sem] theorem zr99 : zr Tryz.prog 99 = some (.agg #[.slice none 0 0, .slice none 0 0, .int .i64 0]) := by kernel_rfl
@[go_sem] theorem bp99 : bp Tryz.prog 99 = some (#[.slice none 0 0, .slice none 0 0, .int .i64 0], .inl [(0, 2), (2, 1)]) := by kernel_rfl
@[go_sem] theorem kd100 : kd Tryz.prog 100 = .pointer := by kernel_rfl
@[go_sem] theorem tk100 : tk Tryz.prog 100 = some (false, 1) := by kernel_rfl
@[go_sem] theorem zr100 : zr Tryz.prog 100 = some (.pointer none) := by kernel_rfl
@[go_sem] theorem kd104 : kd Tryz.prog 104 = .map := by kernel_rfl
@[go_sem] theorem tk104 : tk Tryz.prog 104 = some (false, 1) := by kernel_rfl
@[go_sem] theorem zr104 : zr Tryz.prog 104 = some (.map none) := by kernel_rfl
@[go_sem] theorem mky104 : mky Tryz.prog 104 = some (.int .i64 0) := by kernel_rfl
@[go_sem] theorem um104 : Tryz.prog.underlying 104 = some (.map 3 3) := by kernel_rfl
@[simp] theorem uk3 : Tryz.prog.underlying 3 = some (.int .i64) := by kernel_rfl
@[go_sem] theorem kd106 : kd Tryz.prog 106 = .struct := by kernel_rfl
@[go_sem] theorem tk106 : tk Tryz.prog 106 = some (true, 3) := by kernel_rfl
@[go_sem] theorem zr106 : zr Tryz.prog 106 = some (.agg #[.slice none 0 0, .int .i64 0, .map none]) := by kernel_rfl
@[go_sem] theorem bp106 : bp Tryz.prog 106 = some (#[.slice none 0 0, .int .i64 0, .map none], .inl [(0, 1), (1, 1), (2, 1)]) := by kernel_rfl
@[go_sem] theorem kd110 : kd Tryz.prog 110 = .func := by kernel_rfl
@[go_sem] theorem tk110 : tk Tryz.prog 110 = some (false, 1) := by kernel_rfl
@[go_sem] theorem zr110 : zr Tryz.prog 110 = some (.nilFunc) := by kernel_rfl
@[go_sem] theorem kd111 : kd Tryz.prog 111 = .pointer := by kernel_rfl
@[go_sem] theorem tk111 : tk Tryz.prog 111 = some (false, 1) := by kernel_rfl
@[go_sem] theorem zr111 : zr Tryz.prog 111 = some (.pointer none) := by kernel_rfl
@[go_sem] theorem kd114 : kd Tryz.prog 114 = .struct := by kernel_rfl
@[go_sem] theorem tk114 : tk Tryz.prog 114 = some (true, 4) := by kernel_rfl
@[go_sem] theorem zr114 : zr Tryz.prog 114 = some (.agg #[.slice none 0 0, .int .i64 0, .int .i64 0, .slice none 0 0]) := by kernel_rfl
@[go_sem] theorem bp114 : bp Tryz.prog 114 = some (#[.slice none 0 0, .int .i64 0, .int .i64 0, .slice none 0 0], .inl [(0, 3), (3, 1)]) := by kernel_rfl
@[go_sem] theorem kd117 : kd Tryz.prog 117 = .func := by kernel_rfl
@[go_sem] theorem tk117 : tk Tryz.prog 117 = some (false, 1) := by kernel_rfl
@[go_sem] theorem zr117 : zr Tryz.prog 117 = some (.nilFunc) := by kernel_rfl
@[go_sem] theorem kd119 : kd Tryz.prog 119 = .pointer := by kernel_rfl
@[go_sem] theorem tk119 : tk Tryz.prog 119 = some (false, 1) := by kernel_rfl
@[go_sem] theorem zr119 : zr Tryz.prog 119 = some (.pointer none) := by kernel_rfl
@[go_sem] theorem kd120 : kd Tryz.prog 120 = .slice := by kernel_rfl
@[go_sem] theorem tk120 : tk Tryz.prog 120 = some (false, 1) := by kernel_rfl
@[go_sem] theorem zr120 : zr Tryz.prog 120 = some (.slice none 0 0) := by kernel_rfl
@[go_sem] theorem ik120 : ik Tryz.prog 120 = some (none, 1, false) := by kernel_rfl
@[go_sem] theorem se120 : se Tryz.prog 120 = some (4, 1, 1) := by kernel_rfl
@[go_sem] theorem kd122 : kd Tryz.prog 122 = .struct := by kernel_rfl
@[go_sem] theorem tk122 : tk Tryz.prog 122 = some (true, 3) := by kernel_rfl
@[go_sem] theorem zr122 : zr Tryz.prog 122 = some (.agg #[.slice none 0 0, .slice none 0 0, .slice none 0 0]) := by kernel_rfl
@[go_sem] theorem bp122 : bp Tryz.prog 122 = some (#[.slice none 0 0, .slice none 0 0, .slice none 0 0], .inl [(0, 1), (1, 1), (2, 1)]) := by kernel_rfl
@[go_sem] theorem kd124 : kd Tryz.prog 124 = .pointer := by kernel_rfl
@[go_sem] theorem tk124 : tk Tryz.prog 124 = some (false, 1) := by kernel_rfl
@[go_sem] theorem zr124 : zr Tryz.prog 124 = some (.pointer none) := by kernel_rfl
@[go_sem] theorem kd129 : kd Tryz.prog 129 = .func := by kernel_rfl
@[go_sem] theorem tk129 : tk Tryz.prog 129 = some (false, 1) := by kernel_rfl
@[go_sem] theorem zr129 : zr Tryz.prog 129 = some (.nilFunc) := by kernel_rfl
@[go_sem] theorem kd130 : kd Tryz.prog 130 = .array := by kernel_rfl
@[go_sem] theorem tk130 : tk Tryz.prog 130 = some (true, 3) := by kernel_rfl
@[go_sem] theorem zr130 : zr Tryz.prog 130 = some (.agg #[.slice none 0 0, .slice none 0 0, .slice none 0 0]) := by kernel_rfl
@[go_sem] theorem ik130 : ik Tryz.prog 130 = some (some 3, 1, false) := by kernel_rfl
@[go_sem] theorem kd132 : kd Tryz.prog 132 = .struct := by kernel_rfl
@[go_sem] theorem tk132 : tk Tryz.prog 132 = some (true, 5) := by kernel_rfl
@[go_sem] theorem zr132 : zr Tryz.prog 132 = some (.agg #[.int .i64 0, .slice none 0 0, .slice none 0 0, .slice none 0 0, .slice none 0 0]) := by kernel_rfl
@[go_sem] theorem bp132 : bp Tryz.prog 132 = some (#[.int .i64 0, .slice none 0 0, .slice none 0 0, .slice none 0 0, .slice none 0 0], .inl [(0, 1), (1, 1), (2, 3)]) := by kernel_rfl
@[go_sem] theorem kd133 : kd Tryz.prog 133 = .slice := by kernel_rfl
@[go_sem] theorem tk133 : tk Tryz.prog 133 = some (false, 1) := by kernel_rfl
@[go_sem] theorem zr133 : zr Tryz.prog 133 = some (.slice none 0 0) := by kernel_rfl
@[go_sem] theorem ik133 : ik Tryz.prog 133 = some (none, 4, true) := by kernel_rfl
@[go_sem] theorem se133 : se Tryz.prog 133 = some (140, 4, 32) := by kernel_rfl
@[go_sem] theorem kd135 : kd Tryz.prog 135 = .struct := by kernel_rfl
@[go_sem] theorem tk135 : tk Tryz.prog 135 = some (true, 3) := by kernel_rfl
@[go_sem] theorem zr135 : zr Tryz.prog 135 = some (.agg #[.slice none 0 0, .slice none 0 0, .int .i64 0]) := by kernel_rfl
@[go_sem] theorem bp135 : bp Tryz.prog 135 = some (#[.slice none 0 0, .slice none 0 0, .int .i64 0], .inl [(0, 1), (1, 1), (2, 1)]) := by kernel_rfl
@[go_sem] theorem kd136 : kd Tryz.prog 136 = .slice := by kernel_rfl
@[go_sem] theorem tk136 : tk Tryz.prog 136 = some (false, 1) := by kernel_rfl
@[go_sem] theorem zr136 : zr Tryz.prog 136 = some (.slice none 0 0) := by kernel_rfl
@[go_sem] theorem ik136 : ik Tryz.prog 136 = some (none, 3, true) := by kernel_rfl
@[go_sem] theorem se136 : se Tryz.prog 136 = some (168, 3, 24) := by kernel_rfl
@[go_sem] theorem kd138 : kd Tryz.prog 138 = .struct := by kernel_rfl
@[go_sem] theorem tk138 : tk Tryz.prog 138 = some (true, 1) := by kernel_rfl
@[go_sem] theorem zr138 : zr Tryz.prog 138 = some (.agg #[.slice none 0 0]) := by kernel_rfl
@[go_sem] theorem bp138 : bp Tryz.prog 138 = some (#[.slice none 0 0], .inl [(0, 1)]) := by kernel_rfl
@[go_sem] theorem kd140 : kd Tryz.prog 140 = .struct := by kernel_rfl
@[go_sem] theorem tk140 : tk Tryz.prog 140 = some (true, 4) := by kernel_rfl
@[go_sem] theorem zr140 : zr Tryz.prog 140 = some (.agg #[.pointer none, .int .i64 0, .int .i64 0, .bool false]) := by kernel_rfl
@[go_sem] theorem bp140 : bp Tryz.prog 140 = some (#[.pointer none, .int .i64 0, .int .i64 0, .bool false], .inl [(0, 2), (2, 1), (3, 1)]) := by kernel_rfl
@[go_sem] theorem kd141 : kd Tryz.prog 141 = .pointer := by kernel_rfl
@[go_sem] theorem tk141 : tk Tryz.prog 141 = some (false, 1) := by kernel_rfl
@[go_sem] theorem zr141 : zr Tryz.prog 141 = some (.pointer none) := by kernel_rfl
@[go_sem] theorem kd144 : kd Tryz.prog 144 = .struct := by kernel_rfl
@[go_sem] theorem tk144 : tk Tryz.prog 144 = some (true, 3) := by kernel_rfl
@[go_sem] theorem zr144 : zr Tryz.prog 144 = some (.agg #[.int .i64 0, .int .i64 0, .int .i64 0]) := by kernel_rfl
@[go_sem] theorem bp144 : bp Tryz.prog 144 = some (#[.int .i64 0, .int .i64 0, .int .i64 0], .inl [(0, 2), (2, 1)]) := by kernel_rfl
@[go_sem] theorem kd146 : kd Tryz.prog 146 = .struct := by kernel_rfl
@[go_sem] theorem tk146 : tk Tryz.prog 146 = some (true, 2) := by kernel_rfl
@[go_sem] theorem zr146 : zr Tryz.prog 146 = some (.agg #[.pointer none, .int .i64 0]) := by kernel_rfl
@[go_sem] theorem bp146 : bp Tryz.prog 146 = some (#[.pointer none, .int .i64 0], .inl [(0, 1), (1, 1)]) := by kernel_rfl
@[go_sem] theorem kd147 : kd Tryz.prog 147 = .slice := by kernel_rfl
@[go_sem] theorem tk147 : tk Tryz.prog 147 = some (false, 1) := by kernel_rfl
@[go_sem] theorem zr147 : zr Tryz.prog 147 = some (.slice none 0 0) := by kernel_rfl
@[go_sem] theorem ik147 : ik Tryz.prog 147 = some (none, 4, true) := by kernel_rfl
@[go_sem] theorem se147 : se Tryz.prog 147 = some (151, 4, 48) := by kernel_rfl
@[go_sem] theorem kd149 : kd Tryz.prog 149 = .struct := by kernel_rfl
@[go_sem] theorem tk149 : tk Tryz.prog 149 = some (true, 4) := by kernel_rfl
@[go_sem] theorem zr149 : zr Tryz.prog 149 = some (.agg #[.slice none 0 0, .int .i64 0, .int .i64 0, .int .i64 0]) := by kernel_rfl
@[go_sem] theorem bp149 : bp Tryz.prog 149 = some (#[.slice none 0 0, .int .i64 0, .int .i64 0, .int .i64 0], .inl [(0, 1), (1, 1), (2, 1), (3, 1)]) := by kernel_rfl
@[go_sem] theorem kd151 : kd Tryz.prog 151 = .struct := by kernel_rfl
@[go_sem] theorem tk151 : tk Tryz.prog 151 = some (true, 4) := by kernel_rfl
@[go_sem] theorem zr151 : zr Tryz.prog 151 = some (.agg #[.string ⟨#[]⟩, .string ⟨#[]⟩, .bool false, .int .i64 0]) := by kernel_rfl
@[go_sem] theorem bp151 : bp Tryz.prog 151 = some (#[.string ⟨#[]⟩, .string ⟨#[]⟩, .bool false, .int .i64 0], .inl [(0, 3), (3, 1)]) := by kernel_rfl
@[go_sem] theorem kd153 : kd Tryz.prog 153 = .pointer := by kernel_rfl
@[go_sem] theorem tk153 : tk Tryz.prog 153 = some (false, 1) := by kernel_rfl
@[go_sem] theorem zr153 : zr Tryz.prog 153 = some (.pointer none) := by kernel_rfl
@[go_sem] theorem kd159 : kd Tryz.prog 159 = .func := by kernel_rfl
@[go_sem] theorem tk159 : tk Tryz.prog 159 = some (false, 1) := by kernel_rfl
@[go_sem] theorem zr159 : zr Tryz.prog 159 = some (.nilFunc) := by kernel_rfl
@[go_sem] theorem kd166 : kd Tryz.prog 166 = .struct := by kernel_rfl
@[go_sem] theorem tk166 : tk Tryz.prog 166 = some (true, 2) := by kernel_rfl
@[go_sem] theorem zr166 : zr Tryz.prog 166 = some (.agg #[.int .i64 0, .int .i64 0]) := by kernel_rfl
@[go_sem] theorem kd168 : kd Tryz.prog 168 = .struct := by kernel_rfl
@[go_sem] theorem tk168 : tk Tryz.prog 168 = some (true, 3) := by kernel_rfl
@[go_sem] theorem zr168 : zr Tryz.prog 168 = some (.agg #[.int .i64 0, .int .i64 0, .int .i64 0]) := by kernel_rfl
@[go_sem] theorem kd185 : kd Tryz.prog 185 = .pointer := by kernel_rfl
@[go_sem] theorem tk185 : tk Tryz.prog 185 = some (false, 1) := by kernel_rfl
@[go_sem] theorem zr185 : zr Tryz.prog 185 = some (.pointer none) := by kernel_rfl
@[go_sem] theorem fo31_0 : fo Tryz.prog 31 0 = some 0 := by kernel_rfl
@[go_sem] theorem fo35_0 : fo Tryz.prog 35 0 = some 0 := by kernel_rfl
@[go_sem] theorem fo35_1 : fo Tryz.prog 35 1 = some 1 := by kernel_rfl
@[go_sem] theorem fo35_2 : fo Tryz.prog 35 2 = some 2 := by kernel_rfl
@[go_sem] theorem fo35_3 : fo Tryz.prog 35 3 = some 3 := by kernel_rfl
@[go_sem] theorem fo37_0 : fo Tryz.prog 37 0 = some 0 := by kernel_rfl
@[go_sem] theorem fo37_1 : fo Tryz.prog 37 1 = some 1 := by kernel_rfl
@[go_sem] theorem fo37_2 : fo Tryz.prog 37 2 = some 2 := by kernel_rfl
@[go_sem] theorem fo37_3 : fo Tryz.prog 37 3 = some 3 := by kernel_rfl
@[go_sem] theorem fo37_4 : fo Tryz.prog 37 4 = some 4 := by kernel_rfl
@[go_sem] theorem fo40_0 : fo Tryz.prog 40 0 = some 0 := by kernel_rfl
@[go_sem] theorem fo40_1 : fo Tryz.prog 40 1 = some 1 := by kernel_rfl
@[go_sem] theorem fo40_2 : fo Tryz.prog 40 2 = some 2 := by kernel_rfl
@[go_sem] theorem fo48_0 : fo Tryz.prog 48 0 = some 0 := by kernel_rfl
@[go_sem] theorem fo48_1 : fo Tryz.prog 48 1 = some 1 := by kernel_rfl
@[go_sem] theorem fo48_2 : fo Tryz.prog 48 2 = some 2 := by kernel_rfl
@[go_sem] theorem fo48_3 : fo Tryz.prog 48 3 = some 3 := by kernel_rfl
@[go_sem] theorem fo48_4 : fo Tryz.prog 48 4 = some 4 := by kernel_rfl
@[go_sem] theorem fo54_0 : fo Tryz.prog 54 0 = some 0 := by kernel_rfl
@[go_sem] theorem fo54_1 : fo Tryz.prog 54 1 = some 1 := by kernel_rfl
@[go_sem] theorem fo54_2 : fo Tryz.prog 54 2 = some 2 := by kernel_rfl
@[go_sem] theorem fo64_0 : fo Tryz.prog 64 0 = some 0 := by kernel_rfl
@[go_sem] theorem fo64_1 : fo Tryz.prog 64 1 = some 1 := by kernel_rfl
@[go_sem] theorem fo64_2 : fo Tryz.prog 64 2 = some 2 := by kernel_rfl
@[go_sem] theorem fo69_0 : fo Tryz.prog 69 0 = some 0 := by kernel_rfl
@[go_sem] theorem fo69_1 : fo Tryz.prog 69 1 = some 1 := by kernel_rfl
@[go_sem] theorem fo69_2 : fo Tryz.prog 69 2 = some 2 := by kernel_rfl
@[go_sem] theorem fo69_3 : fo Tryz.prog 69 3 = some 7 := by kernel_rfl
@[go_sem] theorem fo69_4 : fo Tryz.prog 69 4 = some 13 := by kernel_rfl
@[go_sem] theorem fo69_5 : fo Tryz.prog 69 5 = some 14 := by kernel_rfl
@[go_sem] theorem fo81_0 : fo Tryz.prog 81 0 = some 0 := by kernel_rfl
@[go_sem] theorem fo81_1 : fo Tryz.prog 81 1 = some 1 := by kernel_rfl
@[go_sem] theorem fo81_2 : fo Tryz.prog 81 2 = some 2 := by kernel_rfl
@[go_sem] theorem fo87_0 : fo Tryz.prog 87 0 = some 0 := by kernel_rfl
@[go_sem] theorem fo87_1 : fo Tryz.prog 87 1 = some 3 := by kernel_rfl
@[go_sem] theorem fo87_2 : fo Tryz.prog 87 2 = some 4 := by kernel_rfl
@[go_sem] theorem fo87_3 : fo Tryz.prog 87 3 = some 8 := by kernel_rfl
@[go_sem] theorem fo87_4 : fo Tryz.prog 87 4 = some 9 := by kernel_rfl
@[go_sem] theorem fo106_0 : fo Tryz.prog 106 0 = some 0 := by kernel_rfl
@[go_sem] theorem fo106_1 : fo Tryz.prog 106 1 = some 1 := by kernel_rfl
@[go_sem] theorem fo106_2 : fo Tryz.prog 106 2 = some 2 := by kernel_rfl
@[go_sem] theorem fo114_0 : fo Tryz.prog 114 0 = some 0 := by kernel_rfl
@[go_sem] theorem fo114_1 : fo Tryz.prog 114 1 = some 3 := by kernel_rfl
@[go_sem] theorem fo122_0 : fo Tryz.prog 122 0 = some 0 := by kernel_rfl
@[go_sem] theorem fo122_1 : fo Tryz.prog 122 1 = some 1 := by kernel_rfl
@[go_sem] theorem fo122_2 : fo Tryz.prog 122 2 = some 2 := by kernel_rfl
@[go_sem] theorem fo132_0 : fo Tryz.prog 132 0 = some 0 := by kernel_rfl
@[go_sem] theorem fo132_1 : fo Tryz.prog 132 1 = some 1 := by kernel_rfl
@[go_sem] theorem fo132_2 : fo Tryz.prog 132 2 = some 2 := by kernel_rfl
@[go_sem] theorem fo135_0 : fo Tryz.prog 135 0 = some 0 := by kernel_rfl
@[go_sem] theorem fo135_1 : fo Tryz.prog 135 1 = some 1 := by kernel_rfl
@[go_sem] theorem fo135_2 : fo Tryz.prog 135 2 = some 2 := by kernel_rfl
@[go_sem] theorem fo138_0 : fo Tryz.prog 138 0 = some 0 := by kernel_rfl
@[go_sem] theorem fo140_0 : fo Tryz.prog 140 0 = some 0 := by kernel_rfl
@[go_sem] theorem fo140_1 : fo Tryz.prog 140 1 = some 2 := by kernel_rfl
@[go_sem] theorem fo140_2 : fo Tryz.prog 140 2 = some 3 := by kernel_rfl
@[go_sem] theorem fo149_0 : fo Tryz.prog 149 0 = some 0 := by kernel_rfl
@[go_sem] theorem fo149_1 : fo Tryz.prog 149 1 = some 1 := by kernel_rfl
@[go_sem] theorem fo149_2 : fo Tryz.prog 149 2 = some 2 := by kernel_rfl
@[go_sem] theorem fo149_3 : fo Tryz.prog 149 3 = some 3 := by kernel_rfl
@[go_sem] theorem fo151_0 : fo Tryz.prog 151 0 = some 0 := by kernel_rfl
@[go_sem] theorem fo151_1 : fo Tryz.prog 151 1 = some 3 := by kernel_rfl
@[go_sem] theorem fo166_0 : fo Tryz.prog 166 0 = some 0 := by kernel_rfl
@[go_sem] theorem fo166_1 : fo Tryz.prog 166 1 = some 1 := by kernel_rfl
@[go_sem] theorem fo168_0 : fo Tryz.prog 168 0 = some 0 := by kernel_rfl
@[go_sem] theorem fo168_1 : fo Tryz.prog 168 1 = some 2 := by kernel_rfl
noncomputable def b3 : Code := Tryz.f3.body.getD .skip
theorem is3 : FnIs Tryz.prog 3 206 b3 #[ResultVar.tmp 12] := ⟨mix, ⟨Tryz.f3, Tryz.func3, rfl, rfl, rfl, by kernel_rfl⟩, by kernel_rfl⟩
noncomputable def b4 : Code := Tryz.f4.body.getD .skip
theorem is4 : FnIs Tryz.prog 4 70 b4 #[ResultVar.tmp 4] := ⟨mix, ⟨Tryz.f4, Tryz.func4, rfl, rfl, rfl, by kernel_rfl⟩, by kernel_rfl⟩
noncomputable def b5 : Code := Tryz.f5.body.getD .skip
theorem is5 : FnIs Tryz.prog 5 56 b5 #[ResultVar.tmp 0] := ⟨mix, ⟨Tryz.f5, Tryz.func5, rfl, rfl, rfl, by kernel_rfl⟩, by kernel_rfl⟩
noncomputable def b6 : Code := Tryz.f6.body.getD .skip
theorem is6 : FnIs Tryz.prog 6 39 b6 #[ResultVar.tmp 6] := ⟨mix, ⟨Tryz.f6, Tryz.func6, rfl, rfl, rfl, by kernel_rfl⟩, by kernel_rfl⟩
noncomputable def b7 : Code := Tryz.f7.body.getD .skip
theorem is7 : FnIs Tryz.prog 7 66 b7 #[ResultVar.tmp 4] := ⟨mix, ⟨Tryz.f7, Tryz.func7, rfl, rfl, rfl, by kernel_rfl⟩, by kernel_rfl⟩
noncomputable def b8 : Code := Tryz.f8.body.getD .skip
theorem is8 : FnIs Tryz.prog 8 77 b8 #[ResultVar.cell 8 37] := ⟨mix, ⟨Tryz.f8, Tryz.func8, rfl, rfl, rfl, by kernel_rfl⟩, by kernel_rfl⟩
noncomputable def b9 : Code := Tryz.f9.body.getD .skip
theorem is9 : FnIs Tryz.prog 9 14 b9 #[ResultVar.tmp 4] := ⟨mix, ⟨Tryz.f9, Tryz.func9, rfl, rfl, rfl, by kernel_rfl⟩, by kernel_rfl⟩
noncomputable def b10 : Code := Tryz.f10.body.getD .skip
theorem is10 : FnIs Tryz.prog 10 12 b10 #[ResultVar.tmp 6] := ⟨mix, ⟨Tryz.f10, Tryz.func10, rfl, rfl, rfl, by kernel_rfl⟩, by kernel_rfl⟩
noncomputable def b11 : Code := Tryz.f11.body.getD .skip
theorem is11 : FnIs Tryz.prog 11 3 b11 #[ResultVar.tmp 0] := ⟨mix, ⟨Tryz.f11, Tryz.func11, rfl, rfl, rfl, by kernel_rfl⟩, by kernel_rfl⟩
noncomputable def b12 : Code := Tryz.f12.body.getD .skip
theorem is12 : FnIs Tryz.prog 12 18 b12 #[ResultVar.tmp 8] := ⟨mix, ⟨Tryz.f12, Tryz.func12, rfl, rfl, rfl, by kernel_rfl⟩, by kernel_rfl⟩
noncomputable def b13 : Code := Tryz.f13.body.getD .skip
theorem is13 : FnIs Tryz.prog 13 40 b13 #[ResultVar.cell 4 54] := ⟨mix, ⟨Tryz.f13, Tryz.func13, rfl, rfl, rfl, by kernel_rfl⟩, by kernel_rfl⟩
noncomputable def b14 : Code := Tryz.f14.body.getD .skip
theorem is14 : FnIs Tryz.prog 14 17 b14 #[ResultVar.tmp 2, ResultVar.tmp 3] := ⟨mix, ⟨Tryz.f14, Tryz.func14, rfl, rfl, rfl, by kernel_rfl⟩, by kernel_rfl⟩
noncomputable def b15 : Code := Tryz.f15.body.getD .skip
theorem is15 : FnIs Tryz.prog 15 18 b15 #[ResultVar.tmp 4] := ⟨mix, ⟨Tryz.f15, Tryz.func15, rfl, rfl, rfl, by kernel_rfl⟩, by kernel_rfl⟩
noncomputable def b16 : Code := Tryz.f16.body.getD .skip
theorem is16 : FnIs Tryz.prog 16 37 b16 #[ResultVar.tmp 2] := ⟨mix, ⟨Tryz.f16, Tryz.func16, rfl, rfl, rfl, by kernel_rfl⟩, by kernel_rfl⟩
noncomputable def b17 : Code := Tryz.f17.body.getD .skip
theorem is17 : FnIs Tryz.prog 17 9 b17 #[ResultVar.tmp 2] := ⟨mix, ⟨Tryz.f17, Tryz.func17, rfl, rfl, rfl, by kernel_rfl⟩, by kernel_rfl⟩
noncomputable def b18 : Code := Tryz.f18.body.getD .skip
theorem is18 : FnIs Tryz.prog 18 24 b18 #[ResultVar.tmp 2] := ⟨mix, ⟨Tryz.f18, Tryz.func18, rfl, rfl, rfl, by kernel_rfl⟩, by kernel_rfl⟩
noncomputable def b19 : Code := Tryz.f19.body.getD .skip
theorem is19 : FnIs Tryz.prog 19 9 b19 #[ResultVar.tmp 3] := ⟨mix, ⟨Tryz.f19, Tryz.func19, rfl, rfl, rfl, by kernel_rfl⟩, by kernel_rfl⟩
noncomputable def b20 : Code := Tryz.f20.body.getD .skip
theorem is20 : FnIs Tryz.prog 20 14 b20 #[ResultVar.tmp 8] := ⟨mix, ⟨Tryz.f20, Tryz.func20, rfl, rfl, rfl, by kernel_rfl⟩, by kernel_rfl⟩
noncomputable def b21 : Code := Tryz.f21.body.getD .skip
theorem is21 : FnIs Tryz.prog 21 14 b21 #[ResultVar.tmp 8] := ⟨mix, ⟨Tryz.f21, Tryz.func21, rfl, rfl, rfl, by kernel_rfl⟩, by kernel_rfl⟩
noncomputable def b22 : Code := Tryz.f22.body.getD .skip
theorem is22 : FnIs Tryz.prog 22 32 b22 #[ResultVar.tmp 4] := ⟨mix, ⟨Tryz.f22, Tryz.func22, rfl, rfl, rfl, by kernel_rfl⟩, by kernel_rfl⟩
noncomputable def b23 : Code := Tryz.f23.body.getD .skip
theorem is23 : FnIs Tryz.prog 23 22 b23 #[ResultVar.tmp 2] := ⟨mix, ⟨Tryz.f23, Tryz.func23, rfl, rfl, rfl, by kernel_rfl⟩, by kernel_rfl⟩
noncomputable def b24 : Code := Tryz.f24.body.getD .skip
theorem is24 : FnIs Tryz.prog 24 8 b24 #[ResultVar.tmp 2] := ⟨mix, ⟨Tryz.f24, Tryz.func24, rfl, rfl, rfl, by kernel_rfl⟩, by kernel_rfl⟩
noncomputable def b25 : Code := Tryz.f25.body.getD .skip
theorem is25 : FnIs Tryz.prog 25 15 b25 #[ResultVar.tmp 2] := ⟨mix, ⟨Tryz.f25, Tryz.func25, rfl, rfl, rfl, by kernel_rfl⟩, by kernel_rfl⟩
noncomputable def b26 : Code := Tryz.f26.body.getD .skip
theorem is26 : FnIs Tryz.prog 26 85 b26 #[ResultVar.tmp 4, ResultVar.tmp 5, ResultVar.tmp 6] := ⟨mix, ⟨Tryz.f26, Tryz.func26, rfl, rfl, rfl, by kernel_rfl⟩, by kernel_rfl⟩
noncomputable def b27 : Code := Tryz.f27.body.getD .skip
theorem is27 : FnIs Tryz.prog 27 6 b27 #[ResultVar.tmp 2] := ⟨mix, ⟨Tryz.f27, Tryz.func27, rfl, rfl, rfl, by kernel_rfl⟩, by kernel_rfl⟩
noncomputable def b28 : Code := Tryz.f28.body.getD .skip
theorem is28 : FnIs Tryz.prog 28 6 b28 #[ResultVar.tmp 2] := ⟨mix, ⟨Tryz.f28, Tryz.func28, rfl, rfl, rfl, by kernel_rfl⟩, by kernel_rfl⟩
noncomputable def b29 : Code := Tryz.f29.body.getD .skip
theorem is29 : FnIs Tryz.prog 29 30 b29 #[ResultVar.tmp 2] := ⟨mix, ⟨Tryz.f29, Tryz.func29, rfl, rfl, rfl, by kernel_rfl⟩, by kernel_rfl⟩
noncomputable def b30 : Code := Tryz.f30.body.getD .skip
theorem is30 : FnIs Tryz.prog 30 21 b30 #[ResultVar.cell 4 37] := ⟨mix, ⟨Tryz.f30, Tryz.func30, rfl, rfl, rfl, by kernel_rfl⟩, by kernel_rfl⟩
noncomputable def b31 : Code := Tryz.f31.body.getD .skip
theorem is31 : FnIs Tryz.prog 31 28 b31 #[ResultVar.tmp 4] := ⟨mix, ⟨Tryz.f31, Tryz.func31, rfl, rfl, rfl, by kernel_rfl⟩, by kernel_rfl⟩
noncomputable def b32 : Code := Tryz.f32.body.getD .skip
theorem is32 : FnIs Tryz.prog 32 55 b32 #[ResultVar.tmp 4] := ⟨mix, ⟨Tryz.f32, Tryz.func32, rfl, rfl, rfl, by kernel_rfl⟩, by kernel_rfl⟩
noncomputable def b33 : Code := Tryz.f33.body.getD .skip
theorem is33 : FnIs Tryz.prog 33 18 b33 #[ResultVar.tmp 7] := ⟨mix, ⟨Tryz.f33, Tryz.func33, rfl, rfl, rfl, by kernel_rfl⟩, by kernel_rfl⟩
noncomputable def b34 : Code := Tryz.f34.body.getD .skip
theorem is34 : FnIs Tryz.prog 34 60 b34 #[ResultVar.tmp 6] := ⟨mix, ⟨Tryz.f34, Tryz.func34, rfl, rfl, rfl, by kernel_rfl⟩, by kernel_rfl⟩
noncomputable def b35 : Code := Tryz.f35.body.getD .skip
theorem is35 : FnIs Tryz.prog 35 6 b35 #[ResultVar.tmp 4] := ⟨mix, ⟨Tryz.f35, Tryz.func35, rfl, rfl, rfl, by kernel_rfl⟩, by kernel_rfl⟩
noncomputable def b36 : Code := Tryz.f36.body.getD .skip
theorem is36 : FnIs Tryz.prog 36 10 b36 #[] := ⟨mix, ⟨Tryz.f36, Tryz.func36, rfl, rfl, rfl, by kernel_rfl⟩, by kernel_rfl⟩
noncomputable def b37 : Code := Tryz.f37.body.getD .skip
theorem is37 : FnIs Tryz.prog 37 53 b37 #[ResultVar.tmp 6] := ⟨mix, ⟨Tryz.f37, Tryz.func37, rfl, rfl, rfl, by kernel_rfl⟩, by kernel_rfl⟩
noncomputable def b38 : Code := Tryz.f38.body.getD .skip
theorem is38 : FnIs Tryz.prog 38 26 b38 #[ResultVar.tmp 4] := ⟨mix, ⟨Tryz.f38, Tryz.func38, rfl, rfl, rfl, by kernel_rfl⟩, by kernel_rfl⟩
noncomputable def b39 : Code := Tryz.f39.body.getD .skip
theorem is39 : FnIs Tryz.prog 39 8 b39 #[ResultVar.tmp 2] := ⟨mix, ⟨Tryz.f39, Tryz.func39, rfl, rfl, rfl, by kernel_rfl⟩, by kernel_rfl⟩
noncomputable def b40 : Code := Tryz.f40.body.getD .skip
theorem is40 : FnIs Tryz.prog 40 14 b40 #[ResultVar.tmp 2] := ⟨mix, ⟨Tryz.f40, Tryz.func40, rfl, rfl, rfl, by kernel_rfl⟩, by kernel_rfl⟩
noncomputable def b41 : Code := Tryz.f41.body.getD .skip
theorem is41 : FnIs Tryz.prog 41 69 b41 #[ResultVar.tmp 4] := ⟨mix, ⟨Tryz.f41, Tryz.func41, rfl, rfl, rfl, by kernel_rfl⟩, by kernel_rfl⟩
noncomputable def b42 : Code := Tryz.f42.body.getD .skip
theorem is42 : FnIs Tryz.prog 42 8 b42 #[ResultVar.tmp 2] := ⟨mix, ⟨Tryz.f42, Tryz.func42, rfl, rfl, rfl, by kernel_rfl⟩, by kernel_rfl⟩
noncomputable def b43 : Code := Tryz.f43.body.getD .skip
theorem is43 : FnIs Tryz.prog 43 20 b43 #[ResultVar.tmp 2] := ⟨mix, ⟨Tryz.f43, Tryz.func43, rfl, rfl, rfl, by kernel_rfl⟩, by kernel_rfl⟩
noncomputable def b44 : Code := Tryz.f44.body.getD .skip
theorem is44 : FnIs Tryz.prog 44 8 b44 #[ResultVar.tmp 2] := ⟨mix, ⟨Tryz.f44, Tryz.func44, rfl, rfl, rfl, by kernel_rfl⟩, by kernel_rfl⟩
noncomputable def b45 : Code := Tryz.f45.body.getD .skip
theorem is45 : FnIs Tryz.prog 45 9 b45 #[ResultVar.tmp 4] := ⟨mix, ⟨Tryz.f45, Tryz.func45, rfl, rfl, rfl, by kernel_rfl⟩, by kernel_rfl⟩
noncomputable def b46 : Code := Tryz.f46.body.getD .skip
theorem is46 : FnIs Tryz.prog 46 6 b46 #[ResultVar.tmp 2] := ⟨mix, ⟨Tryz.f46, Tryz.func46, rfl, rfl, rfl, by kernel_rfl⟩, by kernel_rfl⟩
noncomputable def b47 : Code := Tryz.f47.body.getD .skip
theorem is47 : FnIs Tryz.prog 47 131 b47 #[ResultVar.tmp 2] := ⟨mix, ⟨Tryz.f47, Tryz.func47, rfl, rfl, rfl, by kernel_rfl⟩, by kernel_rfl⟩
noncomputable def b48 : Code := Tryz.f48.body.getD .skip
theorem is48 : FnIs Tryz.prog 48 110 b48 #[ResultVar.tmp 4] := ⟨mix, ⟨Tryz.f48, Tryz.func48, rfl, rfl, rfl, by kernel_rfl⟩, by kernel_rfl⟩
noncomputable def b49 : Code := Tryz.f49.body.getD .skip
theorem is49 : FnIs Tryz.prog 49 18 b49 #[ResultVar.tmp 4] := ⟨mix, ⟨Tryz.f49, Tryz.func49, rfl, rfl, rfl, by kernel_rfl⟩, by kernel_rfl⟩
noncomputable def b50 : Code := Tryz.f50.body.getD .skip
theorem is50 : FnIs Tryz.prog 50 10 b50 #[ResultVar.tmp 2] := ⟨mix, ⟨Tryz.f50, Tryz.func50, rfl, rfl, rfl, by kernel_rfl⟩, by kernel_rfl⟩
noncomputable def b51 : Code := Tryz.f51.body.getD .skip
theorem is51 : FnIs Tryz.prog 51 26 b51 #[ResultVar.tmp 4] := ⟨mix, ⟨Tryz.f51, Tryz.func51, rfl, rfl, rfl, by kernel_rfl⟩, by kernel_rfl⟩
noncomputable def b52 : Code := Tryz.f52.body.getD .skip
theorem is52 : FnIs Tryz.prog 52 9 b52 #[ResultVar.tmp 2] := ⟨mix, ⟨Tryz.f52, Tryz.func52, rfl, rfl, rfl, by kernel_rfl⟩, by kernel_rfl⟩
noncomputable def b53 : Code := Tryz.f53.body.getD .skip
theorem is53 : FnIs Tryz.prog 53 21 b53 #[ResultVar.tmp 2] := ⟨mix, ⟨Tryz.f53, Tryz.func53, rfl, rfl, rfl, by kernel_rfl⟩, by kernel_rfl⟩
noncomputable def b54 : Code := Tryz.f54.body.getD .skip
theorem is54 : FnIs Tryz.prog 54 29 b54 #[] := ⟨mix, ⟨Tryz.f54, Tryz.func54, rfl, rfl, rfl, by kernel_rfl⟩, by kernel_rfl⟩
noncomputable def b55 : Code := Tryz.f55.body.getD .skip
theorem is55 : FnIs Tryz.prog 55 35 b55 #[ResultVar.tmp 10] := ⟨mix, ⟨Tryz.f55, Tryz.func55, rfl, rfl, rfl, by kernel_rfl⟩, by kernel_rfl⟩
noncomputable def b56 : Code := Tryz.f56.body.getD .skip
theorem is56 : FnIs Tryz.prog 56 15 b56 #[ResultVar.cell 2 64] := ⟨mix, ⟨Tryz.f56, Tryz.func56, rfl, rfl, rfl, by kernel_rfl⟩, by kernel_rfl⟩
noncomputable def b57 : Code := Tryz.f57.body.getD .skip
theorem is57 : FnIs Tryz.prog 57 56 b57 #[ResultVar.cell 2 40, ResultVar.tmp 3] := ⟨mix, ⟨Tryz.f57, Tryz.func57, rfl, rfl, rfl, by kernel_rfl⟩, by kernel_rfl⟩
noncomputable def b58 : Code := Tryz.f58.body.getD .skip
theorem is58 : FnIs Tryz.prog 58 6 b58 #[ResultVar.cell 2 64] := ⟨mix, ⟨Tryz.f58, Tryz.func58, rfl, rfl, rfl, by kernel_rfl⟩, by kernel_rfl⟩
noncomputable def b59 : Code := Tryz.f59.body.getD .skip
theorem is59 : FnIs Tryz.prog 59 9 b59 #[ResultVar.tmp 2] := ⟨mix, ⟨Tryz.f59, Tryz.func59, rfl, rfl, rfl, by kernel_rfl⟩, by kernel_rfl⟩
noncomputable def b60 : Code := Tryz.f60.body.getD .skip
theorem is60 : FnIs Tryz.prog 60 27 b60 #[ResultVar.tmp 4] := ⟨mix, ⟨Tryz.f60, Tryz.func60, rfl, rfl, rfl, by kernel_rfl⟩, by kernel_rfl⟩
noncomputable def b61 : Code := Tryz.f61.body.getD .skip
theorem is61 : FnIs Tryz.prog 61 8 b61 #[ResultVar.cell 2 31] := ⟨mix, ⟨Tryz.f61, Tryz.func61, rfl, rfl, rfl, by kernel_rfl⟩, by kernel_rfl⟩
noncomputable def b62 : Code := Tryz.f62.body.getD .skip
theorem is62 : FnIs Tryz.prog 62 27 b62 #[ResultVar.tmp 4] := ⟨mix, ⟨Tryz.f62, Tryz.func62, rfl, rfl, rfl, by kernel_rfl⟩, by kernel_rfl⟩
noncomputable def b63 : Code := Tryz.f63.body.getD .skip
theorem is63 : FnIs Tryz.prog 63 10 b63 #[ResultVar.tmp 2, ResultVar.tmp 3] := ⟨mix, ⟨Tryz.f63, Tryz.func63, rfl, rfl, rfl, by kernel_rfl⟩, by kernel_rfl⟩
noncomputable def b64 : Code := Tryz.f64.body.getD .skip
theorem is64 : FnIs Tryz.prog 64 7 b64 #[ResultVar.tmp 2] := ⟨mix, ⟨Tryz.f64, Tryz.func64, rfl, rfl, rfl, by kernel_rfl⟩, by kernel_rfl⟩
noncomputable def b65 : Code := Tryz.f65.body.getD .skip
theorem is65 : FnIs Tryz.prog 65 9 b65 #[] := ⟨mix, ⟨Tryz.f65, Tryz.func65, rfl, rfl, rfl, by kernel_rfl⟩, by kernel_rfl⟩
noncomputable def b66 : Code := Tryz.f66.body.getD .skip
theorem is66 : FnIs Tryz.prog 66 9 b66 #[ResultVar.tmp 4] := ⟨mix, ⟨Tryz.f66, Tryz.func66, rfl, rfl, rfl, by kernel_rfl⟩, by kernel_rfl⟩
noncomputable def b67 : Code := Tryz.f67.body.getD .skip
theorem is67 : FnIs Tryz.prog 67 5 b67 #[ResultVar.tmp 2] := ⟨mix, ⟨Tryz.f67, Tryz.func67, rfl, rfl, rfl, by kernel_rfl⟩, by kernel_rfl⟩
noncomputable def b68 : Code := Tryz.f68.body.getD .skip
theorem is68 : FnIs Tryz.prog 68 19 b68 #[ResultVar.tmp 4] := ⟨mix, ⟨Tryz.f68, Tryz.func68, rfl, rfl, rfl, by kernel_rfl⟩, by kernel_rfl⟩
noncomputable def b69 : Code := Tryz.f69.body.getD .skip
theorem is69 : FnIs Tryz.prog 69 62 b69 #[ResultVar.tmp 4] := ⟨mix, ⟨Tryz.f69, Tryz.func69, rfl, rfl, rfl, by kernel_rfl⟩, by kernel_rfl⟩
noncomputable def b70 : Code := Tryz.f70.body.getD .skip
theorem is70 : FnIs Tryz.prog 70 31 b70 #[ResultVar.tmp 4] := ⟨mix, ⟨Tryz.f70, Tryz.func70, rfl, rfl, rfl, by kernel_rfl⟩, by kernel_rfl⟩
noncomputable def b71 : Code := Tryz.f71.body.getD .skip
theorem is71 : FnIs Tryz.prog 71 201 b71 #[ResultVar.cell 4 37, ResultVar.cell 5 64] := ⟨mix, ⟨Tryz.f71, Tryz.func71, rfl, rfl, rfl, by kernel_rfl⟩, by kernel_rfl⟩
noncomputable def b72 : Code := Tryz.f72.body.getD .skip
theorem is72 : FnIs Tryz.prog 72 20 b72 #[ResultVar.tmp 4] := ⟨mix, ⟨Tryz.f72, Tryz.func72, rfl, rfl, rfl, by kernel_rfl⟩, by kernel_rfl⟩
noncomputable def b73 : Code := Tryz.f73.body.getD .skip
theorem is73 : FnIs Tryz.prog 73 10 b73 #[ResultVar.tmp 2] := ⟨mix, ⟨Tryz.f73, Tryz.func73, rfl, rfl, rfl, by kernel_rfl⟩, by kernel_rfl⟩
noncomputable def b74 : Code := Tryz.f74.body.getD .skip
theorem is74 : FnIs Tryz.prog 74 42 b74 #[ResultVar.tmp 2, ResultVar.tmp 3] := ⟨mix, ⟨Tryz.f74, Tryz.func74, rfl, rfl, rfl, by kernel_rfl⟩, by kernel_rfl⟩
noncomputable def b75 : Code := Tryz.f75.body.getD .skip
theorem is75 : FnIs Tryz.prog 75 36 b75 #[ResultVar.tmp 4] := ⟨mix, ⟨Tryz.f75, Tryz.func75, rfl, rfl, rfl, by kernel_rfl⟩, by kernel_rfl⟩
noncomputable def b76 : Code := Tryz.f76.body.getD .skip
theorem is76 : FnIs Tryz.prog 76 7 b76 #[ResultVar.tmp 4] := ⟨mix, ⟨Tryz.f76, Tryz.func76, rfl, rfl, rfl, by kernel_rfl⟩, by kernel_rfl⟩
noncomputable def b77 : Code := Tryz.f77.body.getD .skip
theorem is77 : FnIs Tryz.prog 77 11 b77 #[ResultVar.tmp 2] := ⟨mix, ⟨Tryz.f77, Tryz.func77, rfl, rfl, rfl, by kernel_rfl⟩, by kernel_rfl⟩
noncomputable def b78 : Code := Tryz.f78.body.getD .skip
theorem is78 : FnIs Tryz.prog 78 22 b78 #[ResultVar.tmp 8] := ⟨mix, ⟨Tryz.f78, Tryz.func78, rfl, rfl, rfl, by kernel_rfl⟩, by kernel_rfl⟩
noncomputable def b79 : Code := Tryz.f79.body.getD .skip
theorem is79 : FnIs Tryz.prog 79 11 b79 #[ResultVar.tmp 7] := ⟨mix, ⟨Tryz.f79, Tryz.func79, rfl, rfl, rfl, by kernel_rfl⟩, by kernel_rfl⟩
noncomputable def b80 : Code := Tryz.f80.body.getD .skip
theorem is80 : FnIs Tryz.prog 80 6 b80 #[] := ⟨mix, ⟨Tryz.f80, Tryz.func80, rfl, rfl, rfl, by kernel_rfl⟩, by kernel_rfl⟩
noncomputable def b81 : Code := Tryz.f81.body.getD .skip
theorem is81 : FnIs Tryz.prog 81 16 b81 #[ResultVar.tmp 5] := ⟨mix, ⟨Tryz.f81, Tryz.func81, rfl, rfl, rfl, by kernel_rfl⟩, by kernel_rfl⟩
noncomputable def b82 : Code := Tryz.f82.body.getD .skip
theorem is82 : FnIs Tryz.prog 82 17 b82 #[ResultVar.tmp 8] := ⟨mix, ⟨Tryz.f82, Tryz.func82, rfl, rfl, rfl, by kernel_rfl⟩, by kernel_rfl⟩
noncomputable def b83 : Code := Tryz.f83.body.getD .skip
theorem is83 : FnIs Tryz.prog 83 6 b83 #[ResultVar.tmp 2] := ⟨mix, ⟨Tryz.f83, Tryz.func83, rfl, rfl, rfl, by kernel_rfl⟩, by kernel_rfl⟩
noncomputable def b84 : Code := Tryz.f84.body.getD .skip
theorem is84 : FnIs Tryz.prog 84 10 b84 #[ResultVar.tmp 4] := ⟨mix, ⟨Tryz.f84, Tryz.func84, rfl, rfl, rfl, by kernel_rfl⟩, by kernel_rfl⟩
noncomputable def b85 : Code := Tryz.f85.body.getD .skip
theorem is85 : FnIs Tryz.prog 85 19 b85 #[ResultVar.tmp 4] := ⟨mix, ⟨Tryz.f85, Tryz.func85, rfl, rfl, rfl, by kernel_rfl⟩, by kernel_rfl⟩
noncomputable def b86 : Code := Tryz.f86.body.getD .skip
theorem is86 : FnIs Tryz.prog 86 98 b86 #[ResultVar.tmp 2] := ⟨mix, ⟨Tryz.f86, Tryz.func86, rfl, rfl, rfl, by kernel_rfl⟩, by kernel_rfl⟩
noncomputable def b87 : Code := Tryz.f87.body.getD .skip
theorem is87 : FnIs Tryz.prog 87 77 b87 #[ResultVar.cell 6 31, ResultVar.tmp 7] := ⟨mix, ⟨Tryz.f87, Tryz.func87, rfl, rfl, rfl, by kernel_rfl⟩, by kernel_rfl⟩
noncomputable def b88 : Code := Tryz.f88.body.getD .skip
theorem is88 : FnIs Tryz.prog 88 37 b88 #[ResultVar.cell 6 37, ResultVar.tmp 7, ResultVar.tmp 8] := ⟨mix, ⟨Tryz.f88, Tryz.func88, rfl, rfl, rfl, by kernel_rfl⟩, by kernel_rfl⟩
noncomputable def b89 : Code := Tryz.f89.body.getD .skip
theorem is89 : FnIs Tryz.prog 89 36 b89 #[ResultVar.tmp 4] := ⟨mix, ⟨Tryz.f89, Tryz.func89, rfl, rfl, rfl, by kernel_rfl⟩, by kernel_rfl⟩
noncomputable def b90 : Code := Tryz.f90.body.getD .skip
theorem is90 : FnIs Tryz.prog 90 63 b90 #[ResultVar.cell 6 31, ResultVar.tmp 7] := ⟨mix, ⟨Tryz.f90, Tryz.func90, rfl, rfl, rfl, by kernel_rfl⟩, by kernel_rfl⟩
noncomputable def b91 : Code := Tryz.f91.body.getD .skip
theorem is91 : FnIs Tryz.prog 91 26 b91 #[ResultVar.tmp 2] := ⟨mix, ⟨Tryz.f91, Tryz.func91, rfl, rfl, rfl, by kernel_rfl⟩, by kernel_rfl⟩
noncomputable def b92 : Code := Tryz.f92.body.getD .skip
theorem is92 : FnIs Tryz.prog 92 27 b92 #[ResultVar.tmp 4] := ⟨mix, ⟨Tryz.f92, Tryz.func92, rfl, rfl, rfl, by kernel_rfl⟩, by kernel_rfl⟩
noncomputable def b93 : Code := Tryz.f93.body.getD .skip
theorem is93 : FnIs Tryz.prog 93 115 b93 #[ResultVar.cell 6 35, ResultVar.tmp 7] := ⟨mix, ⟨Tryz.f93, Tryz.func93, rfl, rfl, rfl, by kernel_rfl⟩, by kernel_rfl⟩
noncomputable def b94 : Code := Tryz.f94.body.getD .skip
theorem is94 : FnIs Tryz.prog 94 9 b94 #[ResultVar.tmp 4] := ⟨mix, ⟨Tryz.f94, Tryz.func94, rfl, rfl, rfl, by kernel_rfl⟩, by kernel_rfl⟩
noncomputable def b95 : Code := Tryz.f95.body.getD .skip
theorem is95 : FnIs Tryz.prog 95 14 b95 #[ResultVar.tmp 3] := ⟨mix, ⟨Tryz.f95, Tryz.func95, rfl, rfl, rfl, by kernel_rfl⟩, by kernel_rfl⟩
noncomputable def b96 : Code := Tryz.f96.body.getD .skip
theorem is96 : FnIs Tryz.prog 96 6 b96 #[ResultVar.tmp 2] := ⟨mix, ⟨Tryz.f96, Tryz.func96, rfl, rfl, rfl, by kernel_rfl⟩, by kernel_rfl⟩
noncomputable def b97 : Code := Tryz.f97.body.getD .skip
theorem is97 : FnIs Tryz.prog 97 8 b97 #[ResultVar.tmp 6] := ⟨mix, ⟨Tryz.f97, Tryz.func97, rfl, rfl, rfl, by kernel_rfl⟩, by kernel_rfl⟩
noncomputable def b98 : Code := Tryz.f98.body.getD .skip
theorem is98 : FnIs Tryz.prog 98 11 b98 #[ResultVar.tmp 4] := ⟨mix, ⟨Tryz.f98, Tryz.func98, rfl, rfl, rfl, by kernel_rfl⟩, by kernel_rfl⟩
noncomputable def b99 : Code := Tryz.f99.body.getD .skip
theorem is99 : FnIs Tryz.prog 99 10 b99 #[] := ⟨mix, ⟨Tryz.f99, Tryz.func99, rfl, rfl, rfl, by kernel_rfl⟩, by kernel_rfl⟩
noncomputable def b100 : Code := Tryz.f100.body.getD .skip
theorem is100 : FnIs Tryz.prog 100 19 b100 #[ResultVar.tmp 4] := ⟨mix, ⟨Tryz.f100, Tryz.func100, rfl, rfl, rfl, by kernel_rfl⟩, by kernel_rfl⟩
noncomputable def b101 : Code := Tryz.f101.body.getD .skip
theorem is101 : FnIs Tryz.prog 101 11 b101 #[ResultVar.tmp 4] := ⟨mix, ⟨Tryz.f101, Tryz.func101, rfl, rfl, rfl, by kernel_rfl⟩, by kernel_rfl⟩
noncomputable def b102 : Code := Tryz.f102.body.getD .skip
theorem is102 : FnIs Tryz.prog 102 16 b102 #[ResultVar.tmp 2] := ⟨mix, ⟨Tryz.f102, Tryz.func102, rfl, rfl, rfl, by kernel_rfl⟩, by kernel_rfl⟩
noncomputable def b103 : Code := Tryz.f103.body.getD .skip
theorem is103 : FnIs Tryz.prog 103 9 b103 #[ResultVar.tmp 2] := ⟨mix, ⟨Tryz.f103, Tryz.func103, rfl, rfl, rfl, by kernel_rfl⟩, by kernel_rfl⟩
noncomputable def b104 : Code := Tryz.f104.body.getD .skip
theorem is104 : FnIs Tryz.prog 104 39 b104 #[ResultVar.tmp 2] := ⟨mix, ⟨Tryz.f104, Tryz.func104, rfl, rfl, rfl, by kernel_rfl⟩, by kernel_rfl⟩
noncomputable def b105 : Code := Tryz.f105.body.getD .skip
theorem is105 : FnIs Tryz.prog 105 19 b105 #[ResultVar.tmp 6] := ⟨mix, ⟨Tryz.f105, Tryz.func105, rfl, rfl, rfl, by kernel_rfl⟩, by kernel_rfl⟩
noncomputable def b106 : Code := Tryz.f106.body.getD .skip
theorem is106 : FnIs Tryz.prog 106 27 b106 #[ResultVar.tmp 6] := ⟨mix, ⟨Tryz.f106, Tryz.func106, rfl, rfl, rfl, by kernel_rfl⟩, by kernel_rfl⟩
noncomputable def b107 : Code := Tryz.f107.body.getD .skip
theorem is107 : FnIs Tryz.prog 107 37 b107 #[ResultVar.tmp 4] := ⟨mix, ⟨Tryz.f107, Tryz.func107, rfl, rfl, rfl, by kernel_rfl⟩, by kernel_rfl⟩
noncomputable def b108 : Code := Tryz.f108.body.getD .skip
theorem is108 : FnIs Tryz.prog 108 20 b108 #[ResultVar.cell 6 31] := ⟨mix, ⟨Tryz.f108, Tryz.func108, rfl, rfl, rfl, by kernel_rfl⟩, by kernel_rfl⟩
noncomputable def b109 : Code := Tryz.f109.body.getD .skip
theorem is109 : FnIs Tryz.prog 109 54 b109 #[ResultVar.cell 6 37, ResultVar.tmp 7] := ⟨mix, ⟨Tryz.f109, Tryz.func109, rfl, rfl, rfl, by kernel_rfl⟩, by kernel_rfl⟩
noncomputable def b110 : Code := Tryz.f110.body.getD .skip
theorem is110 : FnIs Tryz.prog 110 67 b110 #[ResultVar.tmp 4] := ⟨mix, ⟨Tryz.f110, Tryz.func110, rfl, rfl, rfl, by kernel_rfl⟩, by kernel_rfl⟩
noncomputable def b111 : Code := Tryz.f111.body.getD .skip
theorem is111 : FnIs Tryz.prog 111 17 b111 #[ResultVar.tmp 4] := ⟨mix, ⟨Tryz.f111, Tryz.func111, rfl, rfl, rfl, by kernel_rfl⟩, by kernel_rfl⟩
noncomputable def b112 : Code := Tryz.f112.body.getD .skip
theorem is112 : FnIs Tryz.prog 112 18 b112 #[ResultVar.tmp 4] := ⟨mix, ⟨Tryz.f112, Tryz.func112, rfl, rfl, rfl, by kernel_rfl⟩, by kernel_rfl⟩
noncomputable def b113 : Code := Tryz.f113.body.getD .skip
theorem is113 : FnIs Tryz.prog 113 19 b113 #[ResultVar.tmp 4] := ⟨mix, ⟨Tryz.f113, Tryz.func113, rfl, rfl, rfl, by kernel_rfl⟩, by kernel_rfl⟩
noncomputable def b114 : Code := Tryz.f114.body.getD .skip
theorem is114 : FnIs Tryz.prog 114 11 b114 #[ResultVar.tmp 3, ResultVar.tmp 4] := ⟨mix, ⟨Tryz.f114, Tryz.func114, rfl, rfl, rfl, by kernel_rfl⟩, by kernel_rfl⟩
noncomputable def b115 : Code := Tryz.f115.body.getD .skip
theorem is115 : FnIs Tryz.prog 115 26 b115 #[ResultVar.tmp 4] := ⟨mix, ⟨Tryz.f115, Tryz.func115, rfl, rfl, rfl, by kernel_rfl⟩, by kernel_rfl⟩
noncomputable def b116 : Code := Tryz.f116.body.getD .skip
theorem is116 : FnIs Tryz.prog 116 11 b116 #[ResultVar.cell 6 4] := ⟨mix, ⟨Tryz.f116, Tryz.func116, rfl, rfl, rfl, by kernel_rfl⟩, by kernel_rfl⟩
noncomputable def b117 : Code := Tryz.f117.body.getD .skip
theorem is117 : FnIs Tryz.prog 117 58 b117 #[ResultVar.tmp 2] := ⟨mix, ⟨Tryz.f117, Tryz.func117, rfl, rfl, rfl, by kernel_rfl⟩, by kernel_rfl⟩
noncomputable def b118 : Code := Tryz.f118.body.getD .skip
theorem is118 : FnIs Tryz.prog 118 16 b118 #[ResultVar.tmp 2] := ⟨mix, ⟨Tryz.f118, Tryz.func118, rfl, rfl, rfl, by kernel_rfl⟩, by kernel_rfl⟩
noncomputable def b119 : Code := Tryz.f119.body.getD .skip
theorem is119 : FnIs Tryz.prog 119 31 b119 #[ResultVar.tmp 2] := ⟨mix, ⟨Tryz.f119, Tryz.func119, rfl, rfl, rfl, by kernel_rfl⟩, by kernel_rfl⟩
noncomputable def b120 : Code := Tryz.f120.body.getD .skip
theorem is120 : FnIs Tryz.prog 120 15 b120 #[] := ⟨mix, ⟨Tryz.f120, Tryz.func120, rfl, rfl, rfl, by kernel_rfl⟩, by kernel_rfl⟩
noncomputable def b121 : Code := Tryz.f121.body.getD .skip
theorem is121 : FnIs Tryz.prog 121 15 b121 #[] := ⟨mix, ⟨Tryz.f121, Tryz.func121, rfl, rfl, rfl, by kernel_rfl⟩, by kernel_rfl⟩
end Go.Proofs.YtdbgeahmhfocaaaGreat
