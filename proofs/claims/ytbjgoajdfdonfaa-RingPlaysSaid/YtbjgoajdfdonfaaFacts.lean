/- Facts about the types and functions of this seat: each by the kernel. -/
import Derived.Test.YtbjgoajdfdonfaaEngY
import Derived.Test.YtbjgoajdfdonfaaRows
namespace Go.Proofs.Ytbjgoajdfdonfaa
open Go
theorem mix : Try.prog.follows .mixedOrders = true := by kernel_rfl
@[go_sem] theorem kd1 : kd Try.prog 1 = .func := by kernel_rfl
@[go_sem] theorem tk1 : tk Try.prog 1 = some (false, 1) := by kernel_rfl
@[go_sem] theorem zr1 : zr Try.prog 1 = some (.nilFunc) := by kernel_rfl
@[go_sem] theorem kd3 : kd Try.prog 3 = .int .i64 := by kernel_rfl
@[go_sem] theorem tk3 : tk Try.prog 3 = some (false, 1) := by kernel_rfl
@[go_sem] theorem zr3 : zr Try.prog 3 = some (.int .i64 0) := by kernel_rfl
@[go_sem] theorem kd4 : kd Try.prog 4 = .bool := by kernel_rfl
@[go_sem] theorem tk4 : tk Try.prog 4 = some (false, 1) := by kernel_rfl
@[go_sem] theorem zr4 : zr Try.prog 4 = some (.bool false) := by kernel_rfl
@[go_sem] theorem kd5 : kd Try.prog 5 = .int .u8 := by kernel_rfl
@[go_sem] theorem tk5 : tk Try.prog 5 = some (false, 1) := by kernel_rfl
@[go_sem] theorem zr5 : zr Try.prog 5 = some (.int .u8 0) := by kernel_rfl
@[go_sem] theorem kd9 : kd Try.prog 9 = .string := by kernel_rfl
@[go_sem] theorem tk9 : tk Try.prog 9 = some (false, 1) := by kernel_rfl
@[go_sem] theorem zr9 : zr Try.prog 9 = some (.string ⟨#[]⟩) := by kernel_rfl
@[go_sem] theorem kd22 : kd Try.prog 22 = .slice := by kernel_rfl
@[go_sem] theorem tk22 : tk Try.prog 22 = some (false, 1) := by kernel_rfl
@[go_sem] theorem zr22 : zr Try.prog 22 = some (.slice none 0 0) := by kernel_rfl
@[go_sem] theorem ik22 : ik Try.prog 22 = some (none, 3, true) := by kernel_rfl
@[go_sem] theorem se22 : se Try.prog 22 = some (32, 3, 24) := by kernel_rfl
@[go_sem] theorem kd24 : kd Try.prog 24 = .pointer := by kernel_rfl
@[go_sem] theorem tk24 : tk Try.prog 24 = some (false, 1) := by kernel_rfl
@[go_sem] theorem zr24 : zr Try.prog 24 = some (.pointer none) := by kernel_rfl
@[go_sem] theorem kd26 : kd Try.prog 26 = .pointer := by kernel_rfl
@[go_sem] theorem tk26 : tk Try.prog 26 = some (false, 1) := by kernel_rfl
@[go_sem] theorem zr26 : zr Try.prog 26 = some (.pointer none) := by kernel_rfl
@[go_sem] theorem kd28 : kd Try.prog 28 = .struct := by kernel_rfl
@[go_sem] theorem tk28 : tk Try.prog 28 = some (true, 2) := by kernel_rfl
@[go_sem] theorem zr28 : zr Try.prog 28 = some (.agg #[.int .i64 0, .int .i64 0]) := by kernel_rfl
@[go_sem] theorem bp28 : bp Try.prog 28 = some (#[.int .i64 0, .int .i64 0], .inl [(0, 1), (1, 1)]) := by kernel_rfl
@[go_sem] theorem kd32 : kd Try.prog 32 = .struct := by kernel_rfl
@[go_sem] theorem tk32 : tk Try.prog 32 = some (true, 3) := by kernel_rfl
@[go_sem] theorem zr32 : zr Try.prog 32 = some (.agg #[.int .i64 0, .int .i64 0, .int .i64 0]) := by kernel_rfl
@[go_sem] theorem kd36 : kd Try.prog 36 = .pointer := by kernel_rfl
@[go_sem] theorem tk36 : tk Try.prog 36 = some (false, 1) := by kernel_rfl
@[go_sem] theorem zr36 : zr Try.prog 36 = some (.pointer none) := by kernel_rfl
@[go_sem] theorem kd38 : kd Try.prog 38 = .struct := by kernel_rfl
@[go_sem] theorem tk38 : tk Try.prog 38 = some (true, 2) := by kernel_rfl
@[go_sem] theorem zr38 : zr Try.prog 38 = some (.agg #[.string ⟨#[]⟩, .int .i64 0]) := by kernel_rfl
@[go_sem] theorem bp38 : bp Try.prog 38 = some (#[.string ⟨#[]⟩, .int .i64 0], .inl [(0, 1), (1, 1)]) := by kernel_rfl
@[go_sem] theorem kd43 : kd Try.prog 43 = .slice := by kernel_rfl
@[go_sem] theorem tk43 : tk Try.prog 43 = some (false, 1) := by kernel_rfl
@[go_sem] theorem zr43 : zr Try.prog 43 = some (.slice none 0 0) := by kernel_rfl
@[go_sem] theorem ik43 : ik Try.prog 43 = some (none, 1, false) := by kernel_rfl
@[go_sem] theorem se43 : se Try.prog 43 = some (3, 1, 8) := by kernel_rfl
@[go_sem] theorem kd44 : kd Try.prog 44 = .pointer := by kernel_rfl
@[go_sem] theorem tk44 : tk Try.prog 44 = some (false, 1) := by kernel_rfl
@[go_sem] theorem zr44 : zr Try.prog 44 = some (.pointer none) := by kernel_rfl
@[go_sem] theorem kd46 : kd Try.prog 46 = .struct := by kernel_rfl
@[go_sem] theorem tk46 : tk Try.prog 46 = some (true, 2) := by kernel_rfl
@[go_sem] theorem zr46 : zr Try.prog 46 = some (.agg #[.int .i64 0, .int .i64 0]) := by kernel_rfl
@[go_sem] theorem bp46 : bp Try.prog 46 = some (#[.int .i64 0, .int .i64 0], .inl [(0, 1), (1, 1)]) := by kernel_rfl
@[go_sem] theorem kd48 : kd Try.prog 48 = .struct := by kernel_rfl
@[go_sem] theorem tk48 : tk Try.prog 48 = some (true, 3) := by kernel_rfl
@[go_sem] theorem zr48 : zr Try.prog 48 = some (.agg #[.int .i64 0, .int .i64 0, .int .i64 0]) := by kernel_rfl
@[go_sem] theorem bp48 : bp Try.prog 48 = some (#[.int .i64 0, .int .i64 0, .int .i64 0], .inl [(0, 2), (2, 1)]) := by kernel_rfl
@[go_sem] theorem kd50 : kd Try.prog 50 = .int .i64 := by kernel_rfl
@[go_sem] theorem tk50 : tk Try.prog 50 = some (false, 1) := by kernel_rfl
@[go_sem] theorem zr50 : zr Try.prog 50 = some (.int .i64 0) := by kernel_rfl
@[go_sem] theorem kd53 : kd Try.prog 53 = .slice := by kernel_rfl
@[go_sem] theorem tk53 : tk Try.prog 53 = some (false, 1) := by kernel_rfl
@[go_sem] theorem zr53 : zr Try.prog 53 = some (.slice none 0 0) := by kernel_rfl
@[go_sem] theorem ik53 : ik Try.prog 53 = some (none, 1, false) := by kernel_rfl
@[go_sem] theorem se53 : se Try.prog 53 = some (5, 1, 1) := by kernel_rfl
@[go_sem] theorem kd54 : kd Try.prog 54 = .pointer := by kernel_rfl
@[go_sem] theorem tk54 : tk Try.prog 54 = some (false, 1) := by kernel_rfl
@[go_sem] theorem zr54 : zr Try.prog 54 = some (.pointer none) := by kernel_rfl
@[go_sem] theorem kd56 : kd Try.prog 56 = .slice := by kernel_rfl
@[go_sem] theorem tk56 : tk Try.prog 56 = some (false, 1) := by kernel_rfl
@[go_sem] theorem zr56 : zr Try.prog 56 = some (.slice none 0 0) := by kernel_rfl
@[go_sem] theorem ik56 : ik Try.prog 56 = some (none, 1, false) := by kernel_rfl
@[go_sem] theorem se56 : se Try.prog 56 = some (4, 1, 1) := by kernel_rfl
@[go_sem] theorem kd62 : kd Try.prog 62 = .pointer := by kernel_rfl
@[go_sem] theorem tk62 : tk Try.prog 62 = some (false, 1) := by kernel_rfl
@[go_sem] theorem zr62 : zr Try.prog 62 = some (.pointer none) := by kernel_rfl
@[go_sem] theorem kd65 : kd Try.prog 65 = .slice := by kernel_rfl
@[go_sem] theorem tk65 : tk Try.prog 65 = some (false, 1) := by kernel_rfl
@[go_sem] theorem zr65 : zr Try.prog 65 = some (.slice none 0 0) := by kernel_rfl
@[go_sem] theorem ik65 : ik Try.prog 65 = some (none, 3, true) := by kernel_rfl
@[go_sem] theorem se65 : se Try.prog 65 = some (71, 3, 24) := by kernel_rfl
@[go_sem] theorem kd66 : kd Try.prog 66 = .pointer := by kernel_rfl
@[go_sem] theorem tk66 : tk Try.prog 66 = some (false, 1) := by kernel_rfl
@[go_sem] theorem zr66 : zr Try.prog 66 = some (.pointer none) := by kernel_rfl
@[go_sem] theorem kd68 : kd Try.prog 68 = .pointer := by kernel_rfl
@[go_sem] theorem tk68 : tk Try.prog 68 = some (false, 1) := by kernel_rfl
@[go_sem] theorem zr68 : zr Try.prog 68 = some (.pointer none) := by kernel_rfl
@[go_sem] theorem kd71 : kd Try.prog 71 = .struct := by kernel_rfl
@[go_sem] theorem tk71 : tk Try.prog 71 = some (true, 3) := by kernel_rfl
@[go_sem] theorem zr71 : zr Try.prog 71 = some (.agg #[.int .i64 0, .int .i64 0, .int .i64 0]) := by kernel_rfl
@[go_sem] theorem kd81 : kd Try.prog 81 = .struct := by kernel_rfl
@[go_sem] theorem tk81 : tk Try.prog 81 = some (true, 5) := by kernel_rfl
@[go_sem] theorem zr81 : zr Try.prog 81 = some (.agg #[.slice none 0 0, .slice none 0 0, .slice none 0 0, .slice none 0 0, .int .i64 0]) := by kernel_rfl
@[go_sem] theorem bp81 : bp Try.prog 81 = some (#[.slice none 0 0, .slice none 0 0, .slice none 0 0, .slice none 0 0, .int .i64 0], .inl [(0, 1), (1, 1), (2, 1), (3, 1), (4, 1)]) := by kernel_rfl
@[go_sem] theorem kd84 : kd Try.prog 84 = .pointer := by kernel_rfl
@[go_sem] theorem tk84 : tk Try.prog 84 = some (false, 1) := by kernel_rfl
@[go_sem] theorem zr84 : zr Try.prog 84 = some (.pointer none) := by kernel_rfl
@[go_sem] theorem kd90 : kd Try.prog 90 = .slice := by kernel_rfl
@[go_sem] theorem tk90 : tk Try.prog 90 = some (false, 1) := by kernel_rfl
@[go_sem] theorem zr90 : zr Try.prog 90 = some (.slice none 0 0) := by kernel_rfl
@[go_sem] theorem ik90 : ik Try.prog 90 = some (none, 3, true) := by kernel_rfl
@[go_sem] theorem se90 : se Try.prog 90 = some (97, 3, 24) := by kernel_rfl
@[go_sem] theorem kd92 : kd Try.prog 92 = .pointer := by kernel_rfl
@[go_sem] theorem tk92 : tk Try.prog 92 = some (false, 1) := by kernel_rfl
@[go_sem] theorem zr92 : zr Try.prog 92 = some (.pointer none) := by kernel_rfl
@[go_sem] theorem kd95 : kd Try.prog 95 = .struct := by kernel_rfl
@[go_sem] theorem tk95 : tk Try.prog 95 = some (true, 2) := by kernel_rfl
@[go_sem] theorem zr95 : zr Try.prog 95 = some (.agg #[.slice none 0 0, .slice none 0 0]) := by kernel_rfl
@[go_sem] theorem bp95 : bp Try.prog 95 = some (#[.slice none 0 0, .slice none 0 0], .inl [(0, 1), (1, 1)]) := by kernel_rfl
@[go_sem] theorem kd97 : kd Try.prog 97 = .struct := by kernel_rfl
@[go_sem] theorem tk97 : tk Try.prog 97 = some (true, 3) := by kernel_rfl
@[go_sem] theorem zr97 : zr Try.prog 97 = some (.agg #[.int .i64 0, .int .i64 0, .bool false]) := by kernel_rfl
@[go_sem] theorem kd100 : kd Try.prog 100 = .pointer := by kernel_rfl
@[go_sem] theorem tk100 : tk Try.prog 100 = some (false, 1) := by kernel_rfl
@[go_sem] theorem zr100 : zr Try.prog 100 = some (.pointer none) := by kernel_rfl
@[go_sem] theorem kd103 : kd Try.prog 103 = .struct := by kernel_rfl
@[go_sem] theorem tk103 : tk Try.prog 103 = some (true, 5) := by kernel_rfl
@[go_sem] theorem zr103 : zr Try.prog 103 = some (.agg #[.slice none 0 0, .int .i64 0, .int .i64 0, .int .i64 0, .int .i64 0]) := by kernel_rfl
@[go_sem] theorem bp103 : bp Try.prog 103 = some (#[.slice none 0 0, .int .i64 0, .int .i64 0, .int .i64 0, .int .i64 0], .inl [(0, 1), (1, 1), (2, 1), (3, 1), (4, 1)]) := by kernel_rfl
@[go_sem] theorem kd107 : kd Try.prog 107 = .slice := by kernel_rfl
@[go_sem] theorem tk107 : tk Try.prog 107 = some (false, 1) := by kernel_rfl
@[go_sem] theorem zr107 : zr Try.prog 107 = some (.slice none 0 0) := by kernel_rfl
@[go_sem] theorem ik107 : ik Try.prog 107 = some (none, 3, true) := by kernel_rfl
@[go_sem] theorem se107 : se Try.prog 107 = some (111, 3, 32) := by kernel_rfl
@[go_sem] theorem kd109 : kd Try.prog 109 = .struct := by kernel_rfl
@[go_sem] theorem tk109 : tk Try.prog 109 = some (true, 3) := by kernel_rfl
@[go_sem] theorem zr109 : zr Try.prog 109 = some (.agg #[.slice none 0 0, .slice none 0 0, .int .i64 0]) := by kernel_rfl
@[go_sem] theorem bp109 : bp Try.prog 109 = some (#[.slice none 0 0, .slice none 0 0, .int .i64 0], .inl [(0, 1), (1, 1), (2, 1)]) := by kernel_rfl
@[go_sem] theorem kd111 : kd Try.prog 111 = .struct := by kernel_rfl
@[go_sem] theorem tk111 : tk Try.prog 111 = some (true, 3) := by kernel_rfl
@[go_sem] theorem zr111 : zr Try.prog 111 = some (.agg #[.string ⟨#[]⟩, .int .i64 0, .bool false]) := by kernel_rfl
@[go_sem] theorem bp111 : bp Try.prog 111 = some (#[.string ⟨#[]⟩, .int .i64 0, .bool false], .inl [(0, 1), (1, 1), (2, 1)]) := by kernel_rfl
@[go_sem] theorem kd112 : kd Try.prog 112 = .pointer := by kernel_rfl
@[go_sem] theorem tk112 : tk Try.prog 112 = some (false, 1) := by kernel_rfl
@[go_sem] theorem zr112 : zr Try.prog 112 = some (.pointer none) := by kernel_rfl
@[go_sem] theorem kd114 : kd Try.prog 114 = .slice := by kernel_rfl
@[go_sem] theorem tk114 : tk Try.prog 114 = some (false, 1) := by kernel_rfl
@[go_sem] theorem zr114 : zr Try.prog 114 = some (.slice none 0 0) := by kernel_rfl
@[go_sem] theorem ik114 : ik Try.prog 114 = some (none, 2, true) := by kernel_rfl
@[go_sem] theorem se114 : se Try.prog 114 = some (118, 2, 16) := by kernel_rfl
@[go_sem] theorem kd116 : kd Try.prog 116 = .struct := by kernel_rfl
@[go_sem] theorem tk116 : tk Try.prog 116 = some (true, 4) := by kernel_rfl
@[go_sem] theorem zr116 : zr Try.prog 116 = some (.agg #[.slice none 0 0, .int .i64 0, .int .i64 0, .int .i64 0]) := by kernel_rfl
@[go_sem] theorem bp116 : bp Try.prog 116 = some (#[.slice none 0 0, .int .i64 0, .int .i64 0, .int .i64 0], .inl [(0, 1), (1, 1), (2, 1), (3, 1)]) := by kernel_rfl
@[go_sem] theorem kd118 : kd Try.prog 118 = .struct := by kernel_rfl
@[go_sem] theorem tk118 : tk Try.prog 118 = some (true, 2) := by kernel_rfl
@[go_sem] theorem zr118 : zr Try.prog 118 = some (.agg #[.int .i64 0, .int .i64 0]) := by kernel_rfl
@[go_sem] theorem bp118 : bp Try.prog 118 = some (#[.int .i64 0, .int .i64 0], .inl [(0, 1), (1, 1)]) := by kernel_rfl
@[go_sem] theorem kd119 : kd Try.prog 119 = .pointer := by kernel_rfl
@[go_sem] theorem tk119 : tk Try.prog 119 = some (false, 1) := by kernel_rfl
@[go_sem] theorem zr119 : zr Try.prog 119 = some (.pointer none) := by kernel_rfl
@[go_sem] theorem kd121 : kd Try.prog 121 = .slice := by kernel_rfl
@[go_sem] theorem tk121 : tk Try.prog 121 = some (false, 1) := by kernel_rfl
@[go_sem] theorem zr121 : zr Try.prog 121 = some (.slice none 0 0) := by kernel_rfl
@[go_sem] theorem ik121 : ik Try.prog 121 = some (none, 3, true) := by kernel_rfl
@[go_sem] theorem se121 : se Try.prog 121 = some (125, 3, 24) := by kernel_rfl
@[go_sem] theorem kd123 : kd Try.prog 123 = .struct := by kernel_rfl
@[go_sem] theorem tk123 : tk Try.prog 123 = some (true, 3) := by kernel_rfl
@[go_sem] theorem zr123 : zr Try.prog 123 = some (.agg #[.slice none 0 0, .slice none 0 0, .int .i64 0]) := by kernel_rfl
@[go_sem] theorem bp123 : bp Try.prog 123 = some (#[.slice none 0 0, .slice none 0 0, .int .i64 0], .inl [(0, 1), (1, 1), (2, 1)]) := by kernel_rfl
@[go_sem] theorem kd125 : kd Try.prog 125 = .struct := by kernel_rfl
@[go_sem] theorem tk125 : tk Try.prog 125 = some (true, 3) := by kernel_rfl
@[go_sem] theorem zr125 : zr Try.prog 125 = some (.agg #[.int .i64 0, .int .i64 0, .bool false]) := by kernel_rfl
@[go_sem] theorem bp125 : bp Try.prog 125 = some (#[.int .i64 0, .int .i64 0, .bool false], .inl [(0, 1), (1, 1), (2, 1)]) := by kernel_rfl
@[go_sem] theorem kd126 : kd Try.prog 126 = .pointer := by kernel_rfl
@[go_sem] theorem tk126 : tk Try.prog 126 = some (false, 1) := by kernel_rfl
@[go_sem] theorem zr126 : zr Try.prog 126 = some (.pointer none) := by kernel_rfl
@[go_sem] theorem kd128 : kd Try.prog 128 = .slice := by kernel_rfl
@[go_sem] theorem tk128 : tk Try.prog 128 = some (false, 1) := by kernel_rfl
@[go_sem] theorem zr128 : zr Try.prog 128 = some (.slice none 0 0) := by kernel_rfl
@[go_sem] theorem ik128 : ik Try.prog 128 = some (none, 3, true) := by kernel_rfl
@[go_sem] theorem se128 : se Try.prog 128 = some (48, 3, 24) := by kernel_rfl
@[go_sem] theorem kd130 : kd Try.prog 130 = .struct := by kernel_rfl
@[go_sem] theorem tk130 : tk Try.prog 130 = some (true, 1) := by kernel_rfl
@[go_sem] theorem zr130 : zr Try.prog 130 = some (.agg #[.slice none 0 0]) := by kernel_rfl
@[go_sem] theorem bp130 : bp Try.prog 130 = some (#[.slice none 0 0], .inl [(0, 1)]) := by kernel_rfl
@[go_sem] theorem kd132 : kd Try.prog 132 = .func := by kernel_rfl
@[go_sem] theorem tk132 : tk Try.prog 132 = some (false, 1) := by kernel_rfl
@[go_sem] theorem zr132 : zr Try.prog 132 = some (.nilFunc) := by kernel_rfl
@[go_sem] theorem fo28_0 : fo Try.prog 28 0 = some 0 := by kernel_rfl
@[go_sem] theorem fo28_1 : fo Try.prog 28 1 = some 1 := by kernel_rfl
@[go_sem] theorem fo32_0 : fo Try.prog 32 0 = some 0 := by kernel_rfl
@[go_sem] theorem fo32_1 : fo Try.prog 32 1 = some 1 := by kernel_rfl
@[go_sem] theorem fo32_2 : fo Try.prog 32 2 = some 2 := by kernel_rfl
@[go_sem] theorem fo38_0 : fo Try.prog 38 0 = some 0 := by kernel_rfl
@[go_sem] theorem fo38_1 : fo Try.prog 38 1 = some 1 := by kernel_rfl
@[go_sem] theorem fo46_0 : fo Try.prog 46 0 = some 0 := by kernel_rfl
@[go_sem] theorem fo46_1 : fo Try.prog 46 1 = some 1 := by kernel_rfl
@[go_sem] theorem fo48_0 : fo Try.prog 48 0 = some 0 := by kernel_rfl
@[go_sem] theorem fo48_1 : fo Try.prog 48 1 = some 2 := by kernel_rfl
@[go_sem] theorem fo71_0 : fo Try.prog 71 0 = some 0 := by kernel_rfl
@[go_sem] theorem fo71_1 : fo Try.prog 71 1 = some 1 := by kernel_rfl
@[go_sem] theorem fo71_2 : fo Try.prog 71 2 = some 2 := by kernel_rfl
@[go_sem] theorem fo81_0 : fo Try.prog 81 0 = some 0 := by kernel_rfl
@[go_sem] theorem fo81_1 : fo Try.prog 81 1 = some 1 := by kernel_rfl
@[go_sem] theorem fo81_2 : fo Try.prog 81 2 = some 2 := by kernel_rfl
@[go_sem] theorem fo81_3 : fo Try.prog 81 3 = some 3 := by kernel_rfl
@[go_sem] theorem fo81_4 : fo Try.prog 81 4 = some 4 := by kernel_rfl
@[go_sem] theorem fo95_0 : fo Try.prog 95 0 = some 0 := by kernel_rfl
@[go_sem] theorem fo95_1 : fo Try.prog 95 1 = some 1 := by kernel_rfl
@[go_sem] theorem fo97_0 : fo Try.prog 97 0 = some 0 := by kernel_rfl
@[go_sem] theorem fo97_1 : fo Try.prog 97 1 = some 1 := by kernel_rfl
@[go_sem] theorem fo97_2 : fo Try.prog 97 2 = some 2 := by kernel_rfl
@[go_sem] theorem fo103_0 : fo Try.prog 103 0 = some 0 := by kernel_rfl
@[go_sem] theorem fo103_1 : fo Try.prog 103 1 = some 1 := by kernel_rfl
@[go_sem] theorem fo103_2 : fo Try.prog 103 2 = some 2 := by kernel_rfl
@[go_sem] theorem fo103_3 : fo Try.prog 103 3 = some 3 := by kernel_rfl
@[go_sem] theorem fo103_4 : fo Try.prog 103 4 = some 4 := by kernel_rfl
@[go_sem] theorem fo109_0 : fo Try.prog 109 0 = some 0 := by kernel_rfl
@[go_sem] theorem fo109_1 : fo Try.prog 109 1 = some 1 := by kernel_rfl
@[go_sem] theorem fo109_2 : fo Try.prog 109 2 = some 2 := by kernel_rfl
@[go_sem] theorem fo111_0 : fo Try.prog 111 0 = some 0 := by kernel_rfl
@[go_sem] theorem fo111_1 : fo Try.prog 111 1 = some 1 := by kernel_rfl
@[go_sem] theorem fo111_2 : fo Try.prog 111 2 = some 2 := by kernel_rfl
@[go_sem] theorem fo116_0 : fo Try.prog 116 0 = some 0 := by kernel_rfl
@[go_sem] theorem fo116_1 : fo Try.prog 116 1 = some 1 := by kernel_rfl
@[go_sem] theorem fo116_2 : fo Try.prog 116 2 = some 2 := by kernel_rfl
@[go_sem] theorem fo116_3 : fo Try.prog 116 3 = some 3 := by kernel_rfl
@[go_sem] theorem fo118_0 : fo Try.prog 118 0 = some 0 := by kernel_rfl
@[go_sem] theorem fo118_1 : fo Try.prog 118 1 = some 1 := by kernel_rfl
@[go_sem] theorem fo123_0 : fo Try.prog 123 0 = some 0 := by kernel_rfl
@[go_sem] theorem fo123_1 : fo Try.prog 123 1 = some 1 := by kernel_rfl
@[go_sem] theorem fo123_2 : fo Try.prog 123 2 = some 2 := by kernel_rfl
@[go_sem] theorem fo125_0 : fo Try.prog 125 0 = some 0 := by kernel_rfl
@[go_sem] theorem fo125_1 : fo Try.prog 125 1 = some 1 := by kernel_rfl
@[go_sem] theorem fo125_2 : fo Try.prog 125 2 = some 2 := by kernel_rfl
@[go_sem] theorem fo130_0 : fo Try.prog 130 0 = some 0 := by kernel_rfl
noncomputable def b3 : Code := Try.f3.body.getD .skip
theorem is3 : FnIs Try.prog 3 83 b3 #[ResultVar.tmp 4] := ⟨mix, ⟨Try.f3, Try.func3, rfl, rfl, rfl, by kernel_rfl⟩, by kernel_rfl⟩
noncomputable def b4 : Code := Try.f4.body.getD .skip
theorem is4 : FnIs Try.prog 4 81 b4 #[ResultVar.tmp 4] := ⟨mix, ⟨Try.f4, Try.func4, rfl, rfl, rfl, by kernel_rfl⟩, by kernel_rfl⟩
noncomputable def b5 : Code := Try.f5.body.getD .skip
theorem is5 : FnIs Try.prog 5 86 b5 #[ResultVar.tmp 2] := ⟨mix, ⟨Try.f5, Try.func5, rfl, rfl, rfl, by kernel_rfl⟩, by kernel_rfl⟩
noncomputable def b6 : Code := Try.f6.body.getD .skip
theorem is6 : FnIs Try.prog 6 174 b6 #[ResultVar.tmp 4] := ⟨mix, ⟨Try.f6, Try.func6, rfl, rfl, rfl, by kernel_rfl⟩, by kernel_rfl⟩
noncomputable def b7 : Code := Try.f7.body.getD .skip
theorem is7 : FnIs Try.prog 7 102 b7 #[ResultVar.tmp 4] := ⟨mix, ⟨Try.f7, Try.func7, rfl, rfl, rfl, by kernel_rfl⟩, by kernel_rfl⟩
noncomputable def b8 : Code := Try.f8.body.getD .skip
theorem is8 : FnIs Try.prog 8 156 b8 #[ResultVar.tmp 4] := ⟨mix, ⟨Try.f8, Try.func8, rfl, rfl, rfl, by kernel_rfl⟩, by kernel_rfl⟩
noncomputable def b9 : Code := Try.f9.body.getD .skip
theorem is9 : FnIs Try.prog 9 66 b9 #[ResultVar.tmp 4] := ⟨mix, ⟨Try.f9, Try.func9, rfl, rfl, rfl, by kernel_rfl⟩, by kernel_rfl⟩
noncomputable def b10 : Code := Try.f10.body.getD .skip
theorem is10 : FnIs Try.prog 10 47 b10 #[ResultVar.tmp 4] := ⟨mix, ⟨Try.f10, Try.func10, rfl, rfl, rfl, by kernel_rfl⟩, by kernel_rfl⟩
noncomputable def b11 : Code := Try.f11.body.getD .skip
theorem is11 : FnIs Try.prog 11 70 b11 #[ResultVar.tmp 4] := ⟨mix, ⟨Try.f11, Try.func11, rfl, rfl, rfl, by kernel_rfl⟩, by kernel_rfl⟩
noncomputable def b12 : Code := Try.f12.body.getD .skip
theorem is12 : FnIs Try.prog 12 114 b12 #[ResultVar.tmp 4] := ⟨mix, ⟨Try.f12, Try.func12, rfl, rfl, rfl, by kernel_rfl⟩, by kernel_rfl⟩
noncomputable def b13 : Code := Try.f13.body.getD .skip
theorem is13 : FnIs Try.prog 13 130 b13 #[ResultVar.tmp 6] := ⟨mix, ⟨Try.f13, Try.func13, rfl, rfl, rfl, by kernel_rfl⟩, by kernel_rfl⟩
noncomputable def b14 : Code := Try.f14.body.getD .skip
theorem is14 : FnIs Try.prog 14 52 b14 #[ResultVar.tmp 2] := ⟨mix, ⟨Try.f14, Try.func14, rfl, rfl, rfl, by kernel_rfl⟩, by kernel_rfl⟩
noncomputable def b15 : Code := Try.f15.body.getD .skip
theorem is15 : FnIs Try.prog 15 15 b15 #[ResultVar.tmp 0] := ⟨mix, ⟨Try.f15, Try.func15, rfl, rfl, rfl, by kernel_rfl⟩, by kernel_rfl⟩
noncomputable def b16 : Code := Try.f16.body.getD .skip
theorem is16 : FnIs Try.prog 16 6 b16 #[ResultVar.tmp 2] := ⟨mix, ⟨Try.f16, Try.func16, rfl, rfl, rfl, by kernel_rfl⟩, by kernel_rfl⟩
noncomputable def b17 : Code := Try.f17.body.getD .skip
theorem is17 : FnIs Try.prog 17 30 b17 #[ResultVar.tmp 4, ResultVar.tmp 5] := ⟨mix, ⟨Try.f17, Try.func17, rfl, rfl, rfl, by kernel_rfl⟩, by kernel_rfl⟩
noncomputable def b18 : Code := Try.f18.body.getD .skip
theorem is18 : FnIs Try.prog 18 46 b18 #[ResultVar.tmp 8, ResultVar.tmp 9] := ⟨mix, ⟨Try.f18, Try.func18, rfl, rfl, rfl, by kernel_rfl⟩, by kernel_rfl⟩
noncomputable def b19 : Code := Try.f19.body.getD .skip
theorem is19 : FnIs Try.prog 19 10 b19 #[ResultVar.tmp 2] := ⟨mix, ⟨Try.f19, Try.func19, rfl, rfl, rfl, by kernel_rfl⟩, by kernel_rfl⟩
noncomputable def b20 : Code := Try.f20.body.getD .skip
theorem is20 : FnIs Try.prog 20 9 b20 #[ResultVar.tmp 2] := ⟨mix, ⟨Try.f20, Try.func20, rfl, rfl, rfl, by kernel_rfl⟩, by kernel_rfl⟩
noncomputable def b21 : Code := Try.f21.body.getD .skip
theorem is21 : FnIs Try.prog 21 10 b21 #[ResultVar.tmp 2] := ⟨mix, ⟨Try.f21, Try.func21, rfl, rfl, rfl, by kernel_rfl⟩, by kernel_rfl⟩
noncomputable def b22 : Code := Try.f22.body.getD .skip
theorem is22 : FnIs Try.prog 22 9 b22 #[ResultVar.tmp 2] := ⟨mix, ⟨Try.f22, Try.func22, rfl, rfl, rfl, by kernel_rfl⟩, by kernel_rfl⟩
noncomputable def b23 : Code := Try.f23.body.getD .skip
theorem is23 : FnIs Try.prog 23 7 b23 #[ResultVar.cell 2 9] := ⟨mix, ⟨Try.f23, Try.func23, rfl, rfl, rfl, by kernel_rfl⟩, by kernel_rfl⟩
noncomputable def b24 : Code := Try.f24.body.getD .skip
theorem is24 : FnIs Try.prog 24 11 b24 #[ResultVar.cell 6 4] := ⟨mix, ⟨Try.f24, Try.func24, rfl, rfl, rfl, by kernel_rfl⟩, by kernel_rfl⟩
noncomputable def b25 : Code := Try.f25.body.getD .skip
theorem is25 : FnIs Try.prog 25 9 b25 #[ResultVar.cell 4 9] := ⟨mix, ⟨Try.f25, Try.func25, rfl, rfl, rfl, by kernel_rfl⟩, by kernel_rfl⟩
noncomputable def b26 : Code := Try.f26.body.getD .skip
theorem is26 : FnIs Try.prog 26 16 b26 #[ResultVar.tmp 0] := ⟨mix, ⟨Try.f26, Try.func26, rfl, rfl, rfl, by kernel_rfl⟩, by kernel_rfl⟩
noncomputable def b27 : Code := Try.f27.body.getD .skip
theorem is27 : FnIs Try.prog 27 9 b27 #[ResultVar.tmp 2] := ⟨mix, ⟨Try.f27, Try.func27, rfl, rfl, rfl, by kernel_rfl⟩, by kernel_rfl⟩
noncomputable def b28 : Code := Try.f28.body.getD .skip
theorem is28 : FnIs Try.prog 28 26 b28 #[ResultVar.tmp 4] := ⟨mix, ⟨Try.f28, Try.func28, rfl, rfl, rfl, by kernel_rfl⟩, by kernel_rfl⟩
noncomputable def b29 : Code := Try.f29.body.getD .skip
theorem is29 : FnIs Try.prog 29 19 b29 #[ResultVar.tmp 4] := ⟨mix, ⟨Try.f29, Try.func29, rfl, rfl, rfl, by kernel_rfl⟩, by kernel_rfl⟩
noncomputable def b30 : Code := Try.f30.body.getD .skip
theorem is30 : FnIs Try.prog 30 42 b30 #[ResultVar.tmp 0] := ⟨mix, ⟨Try.f30, Try.func30, rfl, rfl, rfl, by kernel_rfl⟩, by kernel_rfl⟩
noncomputable def b31 : Code := Try.f31.body.getD .skip
theorem is31 : FnIs Try.prog 31 8 b31 #[ResultVar.tmp 2] := ⟨mix, ⟨Try.f31, Try.func31, rfl, rfl, rfl, by kernel_rfl⟩, by kernel_rfl⟩
noncomputable def b32 : Code := Try.f32.body.getD .skip
theorem is32 : FnIs Try.prog 32 85 b32 #[ResultVar.tmp 4, ResultVar.tmp 5, ResultVar.tmp 6] := ⟨mix, ⟨Try.f32, Try.func32, rfl, rfl, rfl, by kernel_rfl⟩, by kernel_rfl⟩
noncomputable def b33 : Code := Try.f33.body.getD .skip
theorem is33 : FnIs Try.prog 33 16 b33 #[ResultVar.tmp 2] := ⟨mix, ⟨Try.f33, Try.func33, rfl, rfl, rfl, by kernel_rfl⟩, by kernel_rfl⟩
noncomputable def b34 : Code := Try.f34.body.getD .skip
theorem is34 : FnIs Try.prog 34 36 b34 #[ResultVar.tmp 4] := ⟨mix, ⟨Try.f34, Try.func34, rfl, rfl, rfl, by kernel_rfl⟩, by kernel_rfl⟩
noncomputable def b35 : Code := Try.f35.body.getD .skip
theorem is35 : FnIs Try.prog 35 36 b35 #[ResultVar.tmp 6, ResultVar.tmp 7] := ⟨mix, ⟨Try.f35, Try.func35, rfl, rfl, rfl, by kernel_rfl⟩, by kernel_rfl⟩
noncomputable def b36 : Code := Try.f36.body.getD .skip
theorem is36 : FnIs Try.prog 36 33 b36 #[ResultVar.tmp 0] := ⟨mix, ⟨Try.f36, Try.func36, rfl, rfl, rfl, by kernel_rfl⟩, by kernel_rfl⟩
noncomputable def b37 : Code := Try.f37.body.getD .skip
theorem is37 : FnIs Try.prog 37 30 b37 #[ResultVar.tmp 2] := ⟨mix, ⟨Try.f37, Try.func37, rfl, rfl, rfl, by kernel_rfl⟩, by kernel_rfl⟩
noncomputable def b38 : Code := Try.f38.body.getD .skip
theorem is38 : FnIs Try.prog 38 10 b38 #[ResultVar.tmp 2] := ⟨mix, ⟨Try.f38, Try.func38, rfl, rfl, rfl, by kernel_rfl⟩, by kernel_rfl⟩
noncomputable def b39 : Code := Try.f39.body.getD .skip
theorem is39 : FnIs Try.prog 39 55 b39 #[ResultVar.tmp 4] := ⟨mix, ⟨Try.f39, Try.func39, rfl, rfl, rfl, by kernel_rfl⟩, by kernel_rfl⟩
noncomputable def b40 : Code := Try.f40.body.getD .skip
theorem is40 : FnIs Try.prog 40 14 b40 #[ResultVar.tmp 2] := ⟨mix, ⟨Try.f40, Try.func40, rfl, rfl, rfl, by kernel_rfl⟩, by kernel_rfl⟩
noncomputable def b41 : Code := Try.f41.body.getD .skip
theorem is41 : FnIs Try.prog 41 56 b41 #[ResultVar.tmp 2, ResultVar.tmp 3] := ⟨mix, ⟨Try.f41, Try.func41, rfl, rfl, rfl, by kernel_rfl⟩, by kernel_rfl⟩
noncomputable def b42 : Code := Try.f42.body.getD .skip
theorem is42 : FnIs Try.prog 42 8 b42 #[ResultVar.tmp 2] := ⟨mix, ⟨Try.f42, Try.func42, rfl, rfl, rfl, by kernel_rfl⟩, by kernel_rfl⟩
noncomputable def b43 : Code := Try.f43.body.getD .skip
theorem is43 : FnIs Try.prog 43 8 b43 #[ResultVar.tmp 2] := ⟨mix, ⟨Try.f43, Try.func43, rfl, rfl, rfl, by kernel_rfl⟩, by kernel_rfl⟩
noncomputable def b44 : Code := Try.f44.body.getD .skip
theorem is44 : FnIs Try.prog 44 85 b44 #[ResultVar.tmp 4, ResultVar.tmp 5, ResultVar.tmp 6] := ⟨mix, ⟨Try.f44, Try.func44, rfl, rfl, rfl, by kernel_rfl⟩, by kernel_rfl⟩
noncomputable def b45 : Code := Try.f45.body.getD .skip
theorem is45 : FnIs Try.prog 45 102 b45 #[ResultVar.tmp 4, ResultVar.tmp 5, ResultVar.tmp 6] := ⟨mix, ⟨Try.f45, Try.func45, rfl, rfl, rfl, by kernel_rfl⟩, by kernel_rfl⟩
noncomputable def b46 : Code := Try.f46.body.getD .skip
theorem is46 : FnIs Try.prog 46 36 b46 #[ResultVar.tmp 4] := ⟨mix, ⟨Try.f46, Try.func46, rfl, rfl, rfl, by kernel_rfl⟩, by kernel_rfl⟩
noncomputable def b47 : Code := Try.f47.body.getD .skip
theorem is47 : FnIs Try.prog 47 47 b47 #[ResultVar.tmp 4] := ⟨mix, ⟨Try.f47, Try.func47, rfl, rfl, rfl, by kernel_rfl⟩, by kernel_rfl⟩
noncomputable def b48 : Code := Try.f48.body.getD .skip
theorem is48 : FnIs Try.prog 48 36 b48 #[ResultVar.tmp 6, ResultVar.tmp 7] := ⟨mix, ⟨Try.f48, Try.func48, rfl, rfl, rfl, by kernel_rfl⟩, by kernel_rfl⟩
noncomputable def b49 : Code := Try.f49.body.getD .skip
theorem is49 : FnIs Try.prog 49 41 b49 #[ResultVar.tmp 6, ResultVar.tmp 7] := ⟨mix, ⟨Try.f49, Try.func49, rfl, rfl, rfl, by kernel_rfl⟩, by kernel_rfl⟩
noncomputable def b50 : Code := Try.f50.body.getD .skip
theorem is50 : FnIs Try.prog 50 16 b50 #[ResultVar.tmp 4] := ⟨mix, ⟨Try.f50, Try.func50, rfl, rfl, rfl, by kernel_rfl⟩, by kernel_rfl⟩
noncomputable def b51 : Code := Try.f51.body.getD .skip
theorem is51 : FnIs Try.prog 51 15 b51 #[ResultVar.tmp 4] := ⟨mix, ⟨Try.f51, Try.func51, rfl, rfl, rfl, by kernel_rfl⟩, by kernel_rfl⟩
noncomputable def b52 : Code := Try.f52.body.getD .skip
theorem is52 : FnIs Try.prog 52 10 b52 #[ResultVar.tmp 2] := ⟨mix, ⟨Try.f52, Try.func52, rfl, rfl, rfl, by kernel_rfl⟩, by kernel_rfl⟩
noncomputable def b53 : Code := Try.f53.body.getD .skip
theorem is53 : FnIs Try.prog 53 16 b53 #[ResultVar.tmp 2] := ⟨mix, ⟨Try.f53, Try.func53, rfl, rfl, rfl, by kernel_rfl⟩, by kernel_rfl⟩
noncomputable def b54 : Code := Try.f54.body.getD .skip
theorem is54 : FnIs Try.prog 54 9 b54 #[ResultVar.tmp 2] := ⟨mix, ⟨Try.f54, Try.func54, rfl, rfl, rfl, by kernel_rfl⟩, by kernel_rfl⟩
noncomputable def b55 : Code := Try.f55.body.getD .skip
theorem is55 : FnIs Try.prog 55 26 b55 #[ResultVar.tmp 4] := ⟨mix, ⟨Try.f55, Try.func55, rfl, rfl, rfl, by kernel_rfl⟩, by kernel_rfl⟩
noncomputable def b56 : Code := Try.f56.body.getD .skip
theorem is56 : FnIs Try.prog 56 28 b56 #[ResultVar.tmp 4] := ⟨mix, ⟨Try.f56, Try.func56, rfl, rfl, rfl, by kernel_rfl⟩, by kernel_rfl⟩
noncomputable def b57 : Code := Try.f57.body.getD .skip
theorem is57 : FnIs Try.prog 57 10 b57 #[ResultVar.tmp 2] := ⟨mix, ⟨Try.f57, Try.func57, rfl, rfl, rfl, by kernel_rfl⟩, by kernel_rfl⟩
noncomputable def b58 : Code := Try.f58.body.getD .skip
theorem is58 : FnIs Try.prog 58 22 b58 #[ResultVar.cell 2 43] := ⟨mix, ⟨Try.f58, Try.func58, rfl, rfl, rfl, by kernel_rfl⟩, by kernel_rfl⟩
noncomputable def b59 : Code := Try.f59.body.getD .skip
theorem is59 : FnIs Try.prog 59 26 b59 #[ResultVar.tmp 4] := ⟨mix, ⟨Try.f59, Try.func59, rfl, rfl, rfl, by kernel_rfl⟩, by kernel_rfl⟩
noncomputable def b60 : Code := Try.f60.body.getD .skip
theorem is60 : FnIs Try.prog 60 9 b60 #[ResultVar.tmp 2] := ⟨mix, ⟨Try.f60, Try.func60, rfl, rfl, rfl, by kernel_rfl⟩, by kernel_rfl⟩
noncomputable def b61 : Code := Try.f61.body.getD .skip
theorem is61 : FnIs Try.prog 61 15 b61 #[ResultVar.tmp 2] := ⟨mix, ⟨Try.f61, Try.func61, rfl, rfl, rfl, by kernel_rfl⟩, by kernel_rfl⟩
noncomputable def b62 : Code := Try.f62.body.getD .skip
theorem is62 : FnIs Try.prog 62 17 b62 #[ResultVar.tmp 2] := ⟨mix, ⟨Try.f62, Try.func62, rfl, rfl, rfl, by kernel_rfl⟩, by kernel_rfl⟩
noncomputable def b63 : Code := Try.f63.body.getD .skip
theorem is63 : FnIs Try.prog 63 16 b63 #[ResultVar.tmp 4] := ⟨mix, ⟨Try.f63, Try.func63, rfl, rfl, rfl, by kernel_rfl⟩, by kernel_rfl⟩
noncomputable def b64 : Code := Try.f64.body.getD .skip
theorem is64 : FnIs Try.prog 64 32 b64 #[ResultVar.tmp 6] := ⟨mix, ⟨Try.f64, Try.func64, rfl, rfl, rfl, by kernel_rfl⟩, by kernel_rfl⟩
noncomputable def b65 : Code := Try.f65.body.getD .skip
theorem is65 : FnIs Try.prog 65 41 b65 #[ResultVar.tmp 6] := ⟨mix, ⟨Try.f65, Try.func65, rfl, rfl, rfl, by kernel_rfl⟩, by kernel_rfl⟩
noncomputable def b66 : Code := Try.f66.body.getD .skip
theorem is66 : FnIs Try.prog 66 34 b66 #[ResultVar.tmp 4] := ⟨mix, ⟨Try.f66, Try.func66, rfl, rfl, rfl, by kernel_rfl⟩, by kernel_rfl⟩
noncomputable def b67 : Code := Try.f67.body.getD .skip
theorem is67 : FnIs Try.prog 67 8 b67 #[ResultVar.tmp 2] := ⟨mix, ⟨Try.f67, Try.func67, rfl, rfl, rfl, by kernel_rfl⟩, by kernel_rfl⟩
noncomputable def b68 : Code := Try.f68.body.getD .skip
theorem is68 : FnIs Try.prog 68 39 b68 #[ResultVar.tmp 4] := ⟨mix, ⟨Try.f68, Try.func68, rfl, rfl, rfl, by kernel_rfl⟩, by kernel_rfl⟩
noncomputable def b69 : Code := Try.f69.body.getD .skip
theorem is69 : FnIs Try.prog 69 35 b69 #[ResultVar.tmp 2, ResultVar.tmp 3] := ⟨mix, ⟨Try.f69, Try.func69, rfl, rfl, rfl, by kernel_rfl⟩, by kernel_rfl⟩
noncomputable def b70 : Code := Try.f70.body.getD .skip
theorem is70 : FnIs Try.prog 70 28 b70 #[ResultVar.tmp 4] := ⟨mix, ⟨Try.f70, Try.func70, rfl, rfl, rfl, by kernel_rfl⟩, by kernel_rfl⟩
noncomputable def b71 : Code := Try.f71.body.getD .skip
theorem is71 : FnIs Try.prog 71 77 b71 #[ResultVar.tmp 4] := ⟨mix, ⟨Try.f71, Try.func71, rfl, rfl, rfl, by kernel_rfl⟩, by kernel_rfl⟩
noncomputable def b72 : Code := Try.f72.body.getD .skip
theorem is72 : FnIs Try.prog 72 11 b72 #[ResultVar.cell 6 4] := ⟨mix, ⟨Try.f72, Try.func72, rfl, rfl, rfl, by kernel_rfl⟩, by kernel_rfl⟩
noncomputable def b73 : Code := Try.f73.body.getD .skip
theorem is73 : FnIs Try.prog 73 7 b73 #[ResultVar.cell 2 3] := ⟨mix, ⟨Try.f73, Try.func73, rfl, rfl, rfl, by kernel_rfl⟩, by kernel_rfl⟩
noncomputable def b74 : Code := Try.f74.body.getD .skip
theorem is74 : FnIs Try.prog 74 7 b74 #[] := ⟨mix, ⟨Try.f74, Try.func74, rfl, rfl, rfl, by kernel_rfl⟩, by kernel_rfl⟩
noncomputable def b75 : Code := Try.f75.body.getD .skip
theorem is75 : FnIs Try.prog 75 9 b75 #[ResultVar.cell 4 3] := ⟨mix, ⟨Try.f75, Try.func75, rfl, rfl, rfl, by kernel_rfl⟩, by kernel_rfl⟩
noncomputable def b76 : Code := Try.f76.body.getD .skip
theorem is76 : FnIs Try.prog 76 15 b76 #[] := ⟨mix, ⟨Try.f76, Try.func76, rfl, rfl, rfl, by kernel_rfl⟩, by kernel_rfl⟩
noncomputable def b77 : Code := Try.f77.body.getD .skip
theorem is77 : FnIs Try.prog 77 6 b77 #[] := ⟨mix, ⟨Try.f77, Try.func77, rfl, rfl, rfl, by kernel_rfl⟩, by kernel_rfl⟩
noncomputable def b78 : Code := Try.f78.body.getD .skip
theorem is78 : FnIs Try.prog 78 15 b78 #[] := ⟨mix, ⟨Try.f78, Try.func78, rfl, rfl, rfl, by kernel_rfl⟩, by kernel_rfl⟩
noncomputable def b79 : Code := Try.f79.body.getD .skip
theorem is79 : FnIs Try.prog 79 11 b79 #[] := ⟨mix, ⟨Try.f79, Try.func79, rfl, rfl, rfl, by kernel_rfl⟩, by kernel_rfl⟩
noncomputable def b80 : Code := Try.f80.body.getD .skip
theorem is80 : FnIs Try.prog 80 27 b80 #[ResultVar.tmp 4] := ⟨mix, ⟨Try.f80, Try.func80, rfl, rfl, rfl, by kernel_rfl⟩, by kernel_rfl⟩
noncomputable def b81 : Code := Try.f81.body.getD .skip
theorem is81 : FnIs Try.prog 81 27 b81 #[ResultVar.tmp 4] := ⟨mix, ⟨Try.f81, Try.func81, rfl, rfl, rfl, by kernel_rfl⟩, by kernel_rfl⟩
noncomputable def b82 : Code := Try.f82.body.getD .skip
theorem is82 : FnIs Try.prog 82 27 b82 #[ResultVar.tmp 4] := ⟨mix, ⟨Try.f82, Try.func82, rfl, rfl, rfl, by kernel_rfl⟩, by kernel_rfl⟩
noncomputable def b83 : Code := Try.f83.body.getD .skip
theorem is83 : FnIs Try.prog 83 4 b83 #[ResultVar.tmp 2] := ⟨mix, ⟨Try.f83, Try.func83, rfl, rfl, rfl, by kernel_rfl⟩, by kernel_rfl⟩
noncomputable def b84 : Code := Try.f84.body.getD .skip
theorem is84 : FnIs Try.prog 84 15 b84 #[] := ⟨mix, ⟨Try.f84, Try.func84, rfl, rfl, rfl, by kernel_rfl⟩, by kernel_rfl⟩
noncomputable def b85 : Code := Try.f85.body.getD .skip
theorem is85 : FnIs Try.prog 85 15 b85 #[] := ⟨mix, ⟨Try.f85, Try.func85, rfl, rfl, rfl, by kernel_rfl⟩, by kernel_rfl⟩
noncomputable def b86 : Code := Try.f86.body.getD .skip
theorem is86 : FnIs Try.prog 86 6 b86 #[] := ⟨mix, ⟨Try.f86, Try.func86, rfl, rfl, rfl, by kernel_rfl⟩, by kernel_rfl⟩
noncomputable def b87 : Code := Try.f87.body.getD .skip
theorem is87 : FnIs Try.prog 87 6 b87 #[] := ⟨mix, ⟨Try.f87, Try.func87, rfl, rfl, rfl, by kernel_rfl⟩, by kernel_rfl⟩
noncomputable def b88 : Code := Try.f88.body.getD .skip
theorem is88 : FnIs Try.prog 88 11 b88 #[] := ⟨mix, ⟨Try.f88, Try.func88, rfl, rfl, rfl, by kernel_rfl⟩, by kernel_rfl⟩
noncomputable def b89 : Code := Try.f89.body.getD .skip
theorem is89 : FnIs Try.prog 89 27 b89 #[] := ⟨mix, ⟨Try.f89, Try.func89, rfl, rfl, rfl, by kernel_rfl⟩, by kernel_rfl⟩
end Go.Proofs.Ytbjgoajdfdonfaa
