/- Facts about the types and functions of this seat: each by the kernel. -/
import Derived.Test.YtgcojbgkenndhaaEngW
import Derived.Test.YtgcojbgkenndhaaRows
namespace Go.Proofs.Ytgcojbgkenndhaa
open Go
theorem mix : Try.prog.follows .mixedOrders = true := by kernel_rfl
@[go_sem] theorem kd3 : kd Try.prog 3 = .int .i64 := by kernel_rfl
@[go_sem] theorem tk3 : tk Try.prog 3 = some (false, 1) := by kernel_rfl
@[go_sem] theorem zr3 : zr Try.prog 3 = some (.int .i64 0) := by kernel_rfl
@[go_sem] theorem kd4 : kd Try.prog 4 = .bool := by kernel_rfl
@[go_sem] theorem tk4 : tk Try.prog 4 = some (false, 1) := by kernel_rfl
@[go_sem] theorem zr4 : zr Try.prog 4 = some (.bool false) := by kernel_rfl
@[go_sem] theorem kd5 : kd Try.prog 5 = .int .u8 := by kernel_rfl
@[go_sem] theorem tk5 : tk Try.prog 5 = some (false, 1) := by kernel_rfl
@[go_sem] theorem zr5 : zr Try.prog 5 = some (.int .u8 0) := by kernel_rfl
@[go_sem] theorem kd22 : kd Try.prog 22 = .slice := by kernel_rfl
@[go_sem] theorem tk22 : tk Try.prog 22 = some (false, 1) := by kernel_rfl
@[go_sem] theorem zr22 : zr Try.prog 22 = some (.slice none 0 0) := by kernel_rfl
@[go_sem] theorem ik22 : ik Try.prog 22 = some (none, 2, true) := by kernel_rfl
@[go_sem] theorem se22 : se Try.prog 22 = some (32, 2, 16) := by kernel_rfl
@[go_sem] theorem kd23 : kd Try.prog 23 = .func := by kernel_rfl
@[go_sem] theorem tk23 : tk Try.prog 23 = some (false, 1) := by kernel_rfl
@[go_sem] theorem zr23 : zr Try.prog 23 = some (.nilFunc) := by kernel_rfl
@[go_sem] theorem kd24 : kd Try.prog 24 = .pointer := by kernel_rfl
@[go_sem] theorem tk24 : tk Try.prog 24 = some (false, 1) := by kernel_rfl
@[go_sem] theorem zr24 : zr Try.prog 24 = some (.pointer none) := by kernel_rfl
@[go_sem] theorem kd26 : kd Try.prog 26 = .slice := by kernel_rfl
@[go_sem] theorem tk26 : tk Try.prog 26 = some (false, 1) := by kernel_rfl
@[go_sem] theorem zr26 : zr Try.prog 26 = some (.slice none 0 0) := by kernel_rfl
@[go_sem] theorem ik26 : ik Try.prog 26 = some (none, 8, true) := by kernel_rfl
@[go_sem] theorem se26 : se Try.prog 26 = some (29, 8, 8) := by kernel_rfl
@[go_sem] theorem kd27 : kd Try.prog 27 = .slice := by kernel_rfl
@[go_sem] theorem tk27 : tk Try.prog 27 = some (false, 1) := by kernel_rfl
@[go_sem] theorem zr27 : zr Try.prog 27 = some (.slice none 0 0) := by kernel_rfl
@[go_sem] theorem ik27 : ik Try.prog 27 = some (none, 1, false) := by kernel_rfl
@[go_sem] theorem se27 : se Try.prog 27 = some (4, 1, 1) := by kernel_rfl
@[go_sem] theorem kd28 : kd Try.prog 28 = .slice := by kernel_rfl
@[go_sem] theorem tk28 : tk Try.prog 28 = some (false, 1) := by kernel_rfl
@[go_sem] theorem zr28 : zr Try.prog 28 = some (.slice none 0 0) := by kernel_rfl
@[go_sem] theorem ik28 : ik Try.prog 28 = some (none, 1, false) := by kernel_rfl
@[go_sem] theorem se28 : se Try.prog 28 = some (3, 1, 8) := by kernel_rfl
@[go_sem] theorem kd29 : kd Try.prog 29 = .array := by kernel_rfl
@[go_sem] theorem tk29 : tk Try.prog 29 = some (true, 8) := by kernel_rfl
@[go_sem] theorem zr29 : zr Try.prog 29 = some (.agg #[.bool false, .bool false, .bool false, .bool false, .bool false, .bool false, .bool false, .bool false]) := by kernel_rfl
@[go_sem] theorem ik29 : ik Try.prog 29 = some (some 8, 1, false) := by kernel_rfl
@[go_sem] theorem kd32 : kd Try.prog 32 = .struct := by kernel_rfl
@[go_sem] theorem tk32 : tk Try.prog 32 = some (true, 2) := by kernel_rfl
@[go_sem] theorem zr32 : zr Try.prog 32 = some (.agg #[.int .i64 0, .int .i64 0]) := by kernel_rfl
@[go_sem] theorem kd33 : kd Try.prog 33 = .func := by kernel_rfl
@[go_sem] theorem tk33 : tk Try.prog 33 = some (false, 1) := by kernel_rfl
@[go_sem] theorem zr33 : zr Try.prog 33 = some (.nilFunc) := by kernel_rfl
@[go_sem] theorem kd39 : kd Try.prog 39 = .pointer := by kernel_rfl
@[go_sem] theorem tk39 : tk Try.prog 39 = some (false, 1) := by kernel_rfl
@[go_sem] theorem zr39 : zr Try.prog 39 = some (.pointer none) := by kernel_rfl
@[go_sem] theorem kd43 : kd Try.prog 43 = .struct := by kernel_rfl
@[go_sem] theorem tk43 : tk Try.prog 43 = some (true, 4) := by kernel_rfl
@[go_sem] theorem zr43 : zr Try.prog 43 = some (.agg #[.int .i64 0, .slice none 0 0, .slice none 0 0, .slice none 0 0]) := by kernel_rfl
@[go_sem] theorem bp43 : bp Try.prog 43 = some (#[.int .i64 0, .slice none 0 0, .slice none 0 0, .slice none 0 0], .inl [(0, 1), (1, 1), (2, 1), (3, 1)]) := by kernel_rfl
@[go_sem] theorem kd46 : kd Try.prog 46 = .slice := by kernel_rfl
@[go_sem] theorem tk46 : tk Try.prog 46 = some (false, 1) := by kernel_rfl
@[go_sem] theorem zr46 : zr Try.prog 46 = some (.slice none 0 0) := by kernel_rfl
@[go_sem] theorem ik46 : ik Try.prog 46 = some (none, 14, true) := by kernel_rfl
@[go_sem] theorem se46 : se Try.prog 46 = some (61, 14, 144) := by kernel_rfl
@[go_sem] theorem kd47 : kd Try.prog 47 = .pointer := by kernel_rfl
@[go_sem] theorem tk47 : tk Try.prog 47 = some (false, 1) := by kernel_rfl
@[go_sem] theorem zr47 : zr Try.prog 47 = some (.pointer none) := by kernel_rfl
@[go_sem] theorem kd49 : kd Try.prog 49 = .pointer := by kernel_rfl
@[go_sem] theorem tk49 : tk Try.prog 49 = some (false, 1) := by kernel_rfl
@[go_sem] theorem zr49 : zr Try.prog 49 = some (.pointer none) := by kernel_rfl
@[go_sem] theorem kd50 : kd Try.prog 50 = .slice := by kernel_rfl
@[go_sem] theorem tk50 : tk Try.prog 50 = some (false, 1) := by kernel_rfl
@[go_sem] theorem zr50 : zr Try.prog 50 = some (.slice none 0 0) := by kernel_rfl
@[go_sem] theorem ik50 : ik Try.prog 50 = some (none, 15, true) := by kernel_rfl
@[go_sem] theorem se50 : se Try.prog 50 = some (65, 15, 152) := by kernel_rfl
@[go_sem] theorem kd52 : kd Try.prog 52 = .struct := by kernel_rfl
@[go_sem] theorem tk52 : tk Try.prog 52 = some (true, 2) := by kernel_rfl
@[go_sem] theorem zr52 : zr Try.prog 52 = some (.agg #[.slice none 0 0, .int .i64 0]) := by kernel_rfl
@[go_sem] theorem bp52 : bp Try.prog 52 = some (#[.slice none 0 0, .int .i64 0], .inl [(0, 1), (1, 1)]) := by kernel_rfl
@[go_sem] theorem kd54 : kd Try.prog 54 = .struct := by kernel_rfl
@[go_sem] theorem tk54 : tk Try.prog 54 = some (true, 5) := by kernel_rfl
@[go_sem] theorem zr54 : zr Try.prog 54 = some (.agg #[.int .i64 0, .int .i64 0, .string ⟨#[]⟩, .string ⟨#[]⟩, .bool false]) := by kernel_rfl
@[go_sem] theorem bp54 : bp Try.prog 54 = some (#[.int .i64 0, .int .i64 0, .string ⟨#[]⟩, .string ⟨#[]⟩, .bool false], .inl [(0, 1), (1, 1), (2, 1), (3, 1), (4, 1)]) := by kernel_rfl
@[go_sem] theorem kd55 : kd Try.prog 55 = .int .i64 := by kernel_rfl
@[go_sem] theorem tk55 : tk Try.prog 55 = some (false, 1) := by kernel_rfl
@[go_sem] theorem zr55 : zr Try.prog 55 = some (.int .i64 0) := by kernel_rfl
@[go_sem] theorem kd59 : kd Try.prog 59 = .struct := by kernel_rfl
@[go_sem] theorem tk59 : tk Try.prog 59 = some (true, 6) := by kernel_rfl
@[go_sem] theorem zr59 : zr Try.prog 59 = some (.agg #[.int .i64 0, .int .i64 0, .int .i64 0, .string ⟨#[]⟩, .string ⟨#[]⟩, .bool false]) := by kernel_rfl
@[go_sem] theorem bp59 : bp Try.prog 59 = some (#[.int .i64 0, .int .i64 0, .int .i64 0, .string ⟨#[]⟩, .string ⟨#[]⟩, .bool false], .inl [(0, 1), (1, 1), (2, 1), (3, 3)]) := by kernel_rfl
@[go_sem] theorem kd61 : kd Try.prog 61 = .struct := by kernel_rfl
@[go_sem] theorem tk61 : tk Try.prog 61 = some (true, 14) := by kernel_rfl
@[go_sem] theorem zr61 : zr Try.prog 61 = some (.agg #[.bool false, .int .i64 0, .int .i64 0, .int .i64 0, .int .i64 0, .string ⟨#[]⟩, .string ⟨#[]⟩, .bool false, .int .i64 0, .int .i64 0, .int .i64 0, .string ⟨#[]⟩, .string ⟨#[]⟩, .bool false]) := by kernel_rfl
@[go_sem] theorem kd65 : kd Try.prog 65 = .struct := by kernel_rfl
@[go_sem] theorem tk65 : tk Try.prog 65 = some (true, 15) := by kernel_rfl
@[go_sem] theorem zr65 : zr Try.prog 65 = some (.agg #[.int .i64 0, .int .i64 0, .int .i64 0, .int .i64 0, .string ⟨#[]⟩, .string ⟨#[]⟩, .bool false, .int .i64 0, .int .i64 0, .int .i64 0, .string ⟨#[]⟩, .string ⟨#[]⟩, .bool false, .int .i64 0, .int .i64 0]) := by kernel_rfl
@[go_sem] theorem bp65 : bp Try.prog 65 = some (#[.int .i64 0, .int .i64 0, .int .i64 0, .int .i64 0, .string ⟨#[]⟩, .string ⟨#[]⟩, .bool false, .int .i64 0, .int .i64 0, .int .i64 0, .string ⟨#[]⟩, .string ⟨#[]⟩, .bool false, .int .i64 0, .int .i64 0], .inl [(0, 1), (1, 1), (2, 5), (7, 6), (13, 1), (14, 1)]) := by kernel_rfl
@[go_sem] theorem kd70 : kd Try.prog 70 = .slice := by kernel_rfl
@[go_sem] theorem tk70 : tk Try.prog 70 = some (false, 1) := by kernel_rfl
@[go_sem] theorem zr70 : zr Try.prog 70 = some (.slice none 0 0) := by kernel_rfl
@[go_sem] theorem ik70 : ik Try.prog 70 = some (none, 1, false) := by kernel_rfl
@[go_sem] theorem se70 : se Try.prog 70 = some (5, 1, 1) := by kernel_rfl
@[go_sem] theorem kd71 : kd Try.prog 71 = .array := by kernel_rfl
@[go_sem] theorem tk71 : tk Try.prog 71 = some (true, 4) := by kernel_rfl
@[go_sem] theorem zr71 : zr Try.prog 71 = some (.agg #[.int .i64 0, .int .i64 0, .int .i64 0, .int .i64 0]) := by kernel_rfl
@[go_sem] theorem ik71 : ik Try.prog 71 = some (some 4, 1, false) := by kernel_rfl
@[go_sem] theorem kd77 : kd Try.prog 77 = .slice := by kernel_rfl
@[go_sem] theorem tk77 : tk Try.prog 77 = some (false, 1) := by kernel_rfl
@[go_sem] theorem zr77 : zr Try.prog 77 = some (.slice none 0 0) := by kernel_rfl
@[go_sem] theorem ik77 : ik Try.prog 77 = some (none, 1, false) := by kernel_rfl
@[go_sem] theorem se77 : se Try.prog 77 = some (91, 1, 24) := by kernel_rfl
@[go_sem] theorem kd79 : kd Try.prog 79 = .pointer := by kernel_rfl
@[go_sem] theorem tk79 : tk Try.prog 79 = some (false, 1) := by kernel_rfl
@[go_sem] theorem zr79 : zr Try.prog 79 = some (.pointer none) := by kernel_rfl
@[go_sem] theorem kd80 : kd Try.prog 80 = .slice := by kernel_rfl
@[go_sem] theorem tk80 : tk Try.prog 80 = some (false, 1) := by kernel_rfl
@[go_sem] theorem zr80 : zr Try.prog 80 = some (.slice none 0 0) := by kernel_rfl
@[go_sem] theorem ik80 : ik Try.prog 80 = some (none, 3, true) := by kernel_rfl
@[go_sem] theorem se80 : se Try.prog 80 = some (90, 3, 24) := by kernel_rfl
@[go_sem] theorem kd82 : kd Try.prog 82 = .struct := by kernel_rfl
@[go_sem] theorem tk82 : tk Try.prog 82 = some (true, 6) := by kernel_rfl
@[go_sem] theorem zr82 : zr Try.prog 82 = some (.agg #[.int .i64 0, .int .i64 0, .int .i64 0, .int .i64 0, .int .i64 0, .slice none 0 0]) := by kernel_rfl
@[go_sem] theorem bp82 : bp Try.prog 82 = some (#[.int .i64 0, .int .i64 0, .int .i64 0, .int .i64 0, .int .i64 0, .slice none 0 0], .inl [(0, 1), (1, 4), (5, 1)]) := by kernel_rfl
@[go_sem] theorem kd84 : kd Try.prog 84 = .struct := by kernel_rfl
@[go_sem] theorem tk84 : tk Try.prog 84 = some (true, 3) := by kernel_rfl
@[go_sem] theorem zr84 : zr Try.prog 84 = some (.agg #[.slice none 0 0, .int .i64 0, .int .i64 0]) := by kernel_rfl
@[go_sem] theorem kd86 : kd Try.prog 86 = .slice := by kernel_rfl
@[go_sem] theorem tk86 : tk Try.prog 86 = some (false, 1) := by kernel_rfl
@[go_sem] theorem zr86 : zr Try.prog 86 = some (.slice none 0 0) := by kernel_rfl
@[go_sem] theorem ik86 : ik Try.prog 86 = some (none, 1, false) := by kernel_rfl
@[go_sem] theorem se86 : se Try.prog 86 = some (94, 1, 8) := by kernel_rfl
@[go_sem] theorem kd90 : kd Try.prog 90 = .array := by kernel_rfl
@[go_sem] theorem tk90 : tk Try.prog 90 = some (true, 3) := by kernel_rfl
@[go_sem] theorem zr90 : zr Try.prog 90 = some (.agg #[.int .i64 0, .int .i64 0, .int .i64 0]) := by kernel_rfl
@[go_sem] theorem ik90 : ik Try.prog 90 = some (some 3, 1, false) := by kernel_rfl
@[go_sem] theorem bp90 : bp Try.prog 90 = some (#[.int .i64 0, .int .i64 0, .int .i64 0], .inr 1) := by kernel_rfl
@[go_sem] theorem kd91 : kd Try.prog 91 = .slice := by kernel_rfl
@[go_sem] theorem tk91 : tk Try.prog 91 = some (false, 1) := by kernel_rfl
@[go_sem] theorem zr91 : zr Try.prog 91 = some (.slice none 0 0) := by kernel_rfl
@[go_sem] theorem ik91 : ik Try.prog 91 = some (none, 2, true) := by kernel_rfl
@[go_sem] theorem se91 : se Try.prog 91 = some (92, 2, 16) := by kernel_rfl
@[go_sem] theorem kd92 : kd Try.prog 92 = .struct := by kernel_rfl
@[go_sem] theorem tk92 : tk Try.prog 92 = some (true, 2) := by kernel_rfl
@[go_sem] theorem zr92 : zr Try.prog 92 = some (.agg #[.int .i64 0, .int .i64 0]) := by kernel_rfl
@[go_sem] theorem bp92 : bp Try.prog 92 = some (#[.int .i64 0, .int .i64 0], .inl [(0, 1), (1, 1)]) := by kernel_rfl
@[go_sem] theorem kd94 : kd Try.prog 94 = .func := by kernel_rfl
@[go_sem] theorem tk94 : tk Try.prog 94 = some (false, 1) := by kernel_rfl
@[go_sem] theorem zr94 : zr Try.prog 94 = some (.nilFunc) := by kernel_rfl
@[go_sem] theorem kd96 : kd Try.prog 96 = .array := by kernel_rfl
@[go_sem] theorem tk96 : tk Try.prog 96 = some (true, 3) := by kernel_rfl
@[go_sem] theorem zr96 : zr Try.prog 96 = some (.agg #[.slice none 0 0, .slice none 0 0, .slice none 0 0]) := by kernel_rfl
@[go_sem] theorem ik96 : ik Try.prog 96 = some (some 3, 1, false) := by kernel_rfl
@[go_sem] theorem kd98 : kd Try.prog 98 = .struct := by kernel_rfl
@[go_sem] theorem tk98 : tk Try.prog 98 = some (true, 5) := by kernel_rfl
@[go_sem] theorem zr98 : zr Try.prog 98 = some (.agg #[.int .i64 0, .slice none 0 0, .slice none 0 0, .slice none 0 0, .slice none 0 0]) := by kernel_rfl
@[go_sem] theorem bp98 : bp Try.prog 98 = some (#[.int .i64 0, .slice none 0 0, .slice none 0 0, .slice none 0 0, .slice none 0 0], .inl [(0, 1), (1, 1), (2, 3)]) := by kernel_rfl
@[go_sem] theorem kd101 : kd Try.prog 101 = .map := by kernel_rfl
@[go_sem] theorem tk101 : tk Try.prog 101 = some (false, 1) := by kernel_rfl
@[go_sem] theorem zr101 : zr Try.prog 101 = some (.map none) := by kernel_rfl
@[go_sem] theorem mky101 : mky Try.prog 101 = some (.int .i64 0) := by kernel_rfl
@[go_sem] theorem um101 : Try.prog.underlying 101 = some (.map 3 3) := by kernel_rfl
@[simp] theorem uk3 : Try.prog.underlying 3 = some (.int .i64) := by kernel_rfl
@[go_sem] theorem kd103 : kd Try.prog 103 = .struct := by kernel_rfl
@[go_sem] theorem tk103 : tk Try.prog 103 = some (true, 3) := by kernel_rfl
@[go_sem] theorem zr103 : zr Try.prog 103 = some (.agg #[.slice none 0 0, .int .i64 0, .map none]) := by kernel_rfl
@[go_sem] theorem bp103 : bp Try.prog 103 = some (#[.slice none 0 0, .int .i64 0, .map none], .inl [(0, 1), (1, 1), (2, 1)]) := by kernel_rfl
@[go_sem] theorem kd107 : kd Try.prog 107 = .func := by kernel_rfl
@[go_sem] theorem tk107 : tk Try.prog 107 = some (false, 1) := by kernel_rfl
@[go_sem] theorem zr107 : zr Try.prog 107 = some (.nilFunc) := by kernel_rfl
@[go_sem] theorem kd108 : kd Try.prog 108 = .map := by kernel_rfl
@[go_sem] theorem tk108 : tk Try.prog 108 = some (false, 1) := by kernel_rfl
@[go_sem] theorem zr108 : zr Try.prog 108 = some (.map none) := by kernel_rfl
@[go_sem] theorem mky108 : mky Try.prog 108 = some (.bool false) := by kernel_rfl
@[go_sem] theorem um108 : Try.prog.underlying 108 = some (.map 3 4) := by kernel_rfl
@[go_sem] theorem kd109 : kd Try.prog 109 = .map := by kernel_rfl
@[go_sem] theorem tk109 : tk Try.prog 109 = some (false, 1) := by kernel_rfl
@[go_sem] theorem zr109 : zr Try.prog 109 = some (.map none) := by kernel_rfl
@[go_sem] theorem mky109 : mky Try.prog 109 = some (.agg #[.int .i64 0, .int .i64 0, .int .i64 0, .int .i64 0, .string ⟨#[]⟩, .string ⟨#[]⟩, .bool false, .int .i64 0, .int .i64 0, .int .i64 0, .string ⟨#[]⟩, .string ⟨#[]⟩, .bool false, .int .i64 0, .int .i64 0]) := by kernel_rfl
@[go_sem] theorem um109 : Try.prog.underlying 109 = some (.map 3 65) := by kernel_rfl
@[go_sem] theorem kd111 : kd Try.prog 111 = .pointer := by kernel_rfl
@[go_sem] theorem tk111 : tk Try.prog 111 = some (false, 1) := by kernel_rfl
@[go_sem] theorem zr111 : zr Try.prog 111 = some (.pointer none) := by kernel_rfl
@[go_sem] theorem kd114 : kd Try.prog 114 = .struct := by kernel_rfl
@[go_sem] theorem tk114 : tk Try.prog 114 = some (true, 4) := by kernel_rfl
@[go_sem] theorem zr114 : zr Try.prog 114 = some (.agg #[.slice none 0 0, .int .i64 0, .int .i64 0, .slice none 0 0]) := by kernel_rfl
@[go_sem] theorem bp114 : bp Try.prog 114 = some (#[.slice none 0 0, .int .i64 0, .int .i64 0, .slice none 0 0], .inl [(0, 3), (3, 1)]) := by kernel_rfl
@[go_sem] theorem kd115 : kd Try.prog 115 = .slice := by kernel_rfl
@[go_sem] theorem tk115 : tk Try.prog 115 = some (false, 1) := by kernel_rfl
@[go_sem] theorem zr115 : zr Try.prog 115 = some (.slice none 0 0) := by kernel_rfl
@[go_sem] theorem ik115 : ik Try.prog 115 = some (none, 1, false) := by kernel_rfl
@[go_sem] theorem se115 : se Try.prog 115 = some (23, 1, 8) := by kernel_rfl
@[go_sem] theorem kd119 : kd Try.prog 119 = .func := by kernel_rfl
@[go_sem] theorem tk119 : tk Try.prog 119 = some (false, 1) := by kernel_rfl
@[go_sem] theorem zr119 : zr Try.prog 119 = some (.nilFunc) := by kernel_rfl
@[go_sem] theorem kd124 : kd Try.prog 124 = .func := by kernel_rfl
@[go_sem] theorem tk124 : tk Try.prog 124 = some (false, 1) := by kernel_rfl
@[go_sem] theorem zr124 : zr Try.prog 124 = some (.nilFunc) := by kernel_rfl
@[go_sem] theorem fo32_0 : fo Try.prog 32 0 = some 0 := by kernel_rfl
@[go_sem] theorem fo32_1 : fo Try.prog 32 1 = some 1 := by kernel_rfl
@[go_sem] theorem fo43_0 : fo Try.prog 43 0 = some 0 := by kernel_rfl
@[go_sem] theorem fo43_1 : fo Try.prog 43 1 = some 1 := by kernel_rfl
@[go_sem] theorem fo43_2 : fo Try.prog 43 2 = some 2 := by kernel_rfl
@[go_sem] theorem fo43_3 : fo Try.prog 43 3 = some 3 := by kernel_rfl
@[go_sem] theorem fo52_0 : fo Try.prog 52 0 = some 0 := by kernel_rfl
@[go_sem] theorem fo52_1 : fo Try.prog 52 1 = some 1 := by kernel_rfl
@[go_sem] theorem fo61_0 : fo Try.prog 61 0 = some 0 := by kernel_rfl
@[go_sem] theorem fo61_1 : fo Try.prog 61 1 = some 1 := by kernel_rfl
@[go_sem] theorem fo61_2 : fo Try.prog 61 2 = some 2 := by kernel_rfl
@[go_sem] theorem fo61_3 : fo Try.prog 61 3 = some 3 := by kernel_rfl
@[go_sem] theorem fo61_4 : fo Try.prog 61 4 = some 8 := by kernel_rfl
@[go_sem] theorem fo65_0 : fo Try.prog 65 0 = some 0 := by kernel_rfl
@[go_sem] theorem fo65_1 : fo Try.prog 65 1 = some 1 := by kernel_rfl
@[go_sem] theorem fo65_3 : fo Try.prog 65 3 = some 7 := by kernel_rfl
@[go_sem] theorem fo65_4 : fo Try.prog 65 4 = some 13 := by kernel_rfl
@[go_sem] theorem fo65_5 : fo Try.prog 65 5 = some 14 := by kernel_rfl
@[go_sem] theorem fo82_0 : fo Try.prog 82 0 = some 0 := by kernel_rfl
@[go_sem] theorem fo82_1 : fo Try.prog 82 1 = some 1 := by kernel_rfl
@[go_sem] theorem fo82_2 : fo Try.prog 82 2 = some 5 := by kernel_rfl
@[go_sem] theorem fo84_0 : fo Try.prog 84 0 = some 0 := by kernel_rfl
@[go_sem] theorem fo84_1 : fo Try.prog 84 1 = some 1 := by kernel_rfl
@[go_sem] theorem fo84_2 : fo Try.prog 84 2 = some 2 := by kernel_rfl
@[go_sem] theorem fo92_0 : fo Try.prog 92 0 = some 0 := by kernel_rfl
@[go_sem] theorem fo92_1 : fo Try.prog 92 1 = some 1 := by kernel_rfl
@[go_sem] theorem fo98_0 : fo Try.prog 98 0 = some 0 := by kernel_rfl
@[go_sem] theorem fo98_1 : fo Try.prog 98 1 = some 1 := by kernel_rfl
@[go_sem] theorem fo98_2 : fo Try.prog 98 2 = some 2 := by kernel_rfl
@[go_sem] theorem fo103_0 : fo Try.prog 103 0 = some 0 := by kernel_rfl
@[go_sem] theorem fo103_1 : fo Try.prog 103 1 = some 1 := by kernel_rfl
@[go_sem] theorem fo103_2 : fo Try.prog 103 2 = some 2 := by kernel_rfl
@[go_sem] theorem fo114_0 : fo Try.prog 114 0 = some 0 := by kernel_rfl
@[go_sem] theorem fo114_1 : fo Try.prog 114 1 = some 3 := by kernel_rfl
noncomputable def b3 : Code := Try.f3.body.getD .skip
theorem is3 : FnIs Try.prog 3 138 b3 #[ResultVar.tmp 2] := ⟨mix, ⟨Try.f3, Try.func3, rfl, rfl, rfl, by kernel_rfl⟩, by kernel_rfl⟩
noncomputable def b4 : Code := Try.f4.body.getD .skip
theorem is4 : FnIs Try.prog 4 137 b4 #[ResultVar.tmp 4] := ⟨mix, ⟨Try.f4, Try.func4, rfl, rfl, rfl, by kernel_rfl⟩, by kernel_rfl⟩
noncomputable def b5 : Code := Try.f5.body.getD .skip
theorem is5 : FnIs Try.prog 5 53 b5 #[ResultVar.tmp 4] := ⟨mix, ⟨Try.f5, Try.func5, rfl, rfl, rfl, by kernel_rfl⟩, by kernel_rfl⟩
noncomputable def b6 : Code := Try.f6.body.getD .skip
theorem is6 : FnIs Try.prog 6 141 b6 #[ResultVar.tmp 2] := ⟨mix, ⟨Try.f6, Try.func6, rfl, rfl, rfl, by kernel_rfl⟩, by kernel_rfl⟩
noncomputable def b7 : Code := Try.f7.body.getD .skip
theorem is7 : FnIs Try.prog 7 112 b7 #[ResultVar.tmp 2] := ⟨mix, ⟨Try.f7, Try.func7, rfl, rfl, rfl, by kernel_rfl⟩, by kernel_rfl⟩
noncomputable def b8 : Code := Try.f8.body.getD .skip
theorem is8 : FnIs Try.prog 8 76 b8 #[ResultVar.tmp 8] := ⟨mix, ⟨Try.f8, Try.func8, rfl, rfl, rfl, by kernel_rfl⟩, by kernel_rfl⟩
noncomputable def b9 : Code := Try.f9.body.getD .skip
theorem is9 : FnIs Try.prog 9 110 b9 #[ResultVar.tmp 4] := ⟨mix, ⟨Try.f9, Try.func9, rfl, rfl, rfl, by kernel_rfl⟩, by kernel_rfl⟩
noncomputable def b10 : Code := Try.f10.body.getD .skip
theorem is10 : FnIs Try.prog 10 134 b10 #[ResultVar.tmp 4] := ⟨mix, ⟨Try.f10, Try.func10, rfl, rfl, rfl, by kernel_rfl⟩, by kernel_rfl⟩
noncomputable def b11 : Code := Try.f11.body.getD .skip
theorem is11 : FnIs Try.prog 11 29 b11 #[ResultVar.tmp 2] := ⟨mix, ⟨Try.f11, Try.func11, rfl, rfl, rfl, by kernel_rfl⟩, by kernel_rfl⟩
noncomputable def b12 : Code := Try.f12.body.getD .skip
theorem is12 : FnIs Try.prog 12 42 b12 #[ResultVar.tmp 0] := ⟨mix, ⟨Try.f12, Try.func12, rfl, rfl, rfl, by kernel_rfl⟩, by kernel_rfl⟩
noncomputable def b13 : Code := Try.f13.body.getD .skip
theorem is13 : FnIs Try.prog 13 22 b13 #[ResultVar.tmp 2] := ⟨mix, ⟨Try.f13, Try.func13, rfl, rfl, rfl, by kernel_rfl⟩, by kernel_rfl⟩
noncomputable def b14 : Code := Try.f14.body.getD .skip
theorem is14 : FnIs Try.prog 14 55 b14 #[ResultVar.tmp 4] := ⟨mix, ⟨Try.f14, Try.func14, rfl, rfl, rfl, by kernel_rfl⟩, by kernel_rfl⟩
noncomputable def b15 : Code := Try.f15.body.getD .skip
theorem is15 : FnIs Try.prog 15 24 b15 #[ResultVar.tmp 4] := ⟨mix, ⟨Try.f15, Try.func15, rfl, rfl, rfl, by kernel_rfl⟩, by kernel_rfl⟩
noncomputable def b16 : Code := Try.f16.body.getD .skip
theorem is16 : FnIs Try.prog 16 15 b16 #[ResultVar.tmp 4] := ⟨mix, ⟨Try.f16, Try.func16, rfl, rfl, rfl, by kernel_rfl⟩, by kernel_rfl⟩
noncomputable def b17 : Code := Try.f17.body.getD .skip
theorem is17 : FnIs Try.prog 17 18 b17 #[ResultVar.tmp 4] := ⟨mix, ⟨Try.f17, Try.func17, rfl, rfl, rfl, by kernel_rfl⟩, by kernel_rfl⟩
noncomputable def b18 : Code := Try.f18.body.getD .skip
theorem is18 : FnIs Try.prog 18 24 b18 #[] := ⟨mix, ⟨Try.f18, Try.func18, rfl, rfl, rfl, by kernel_rfl⟩, by kernel_rfl⟩
noncomputable def b19 : Code := Try.f19.body.getD .skip
theorem is19 : FnIs Try.prog 19 42 b19 #[ResultVar.tmp 2, ResultVar.tmp 3] := ⟨mix, ⟨Try.f19, Try.func19, rfl, rfl, rfl, by kernel_rfl⟩, by kernel_rfl⟩
noncomputable def b20 : Code := Try.f20.body.getD .skip
theorem is20 : FnIs Try.prog 20 21 b20 #[ResultVar.tmp 2] := ⟨mix, ⟨Try.f20, Try.func20, rfl, rfl, rfl, by kernel_rfl⟩, by kernel_rfl⟩
noncomputable def b21 : Code := Try.f21.body.getD .skip
theorem is21 : FnIs Try.prog 21 26 b21 #[ResultVar.tmp 2] := ⟨mix, ⟨Try.f21, Try.func21, rfl, rfl, rfl, by kernel_rfl⟩, by kernel_rfl⟩
noncomputable def b22 : Code := Try.f22.body.getD .skip
theorem is22 : FnIs Try.prog 22 31 b22 #[ResultVar.tmp 4] := ⟨mix, ⟨Try.f22, Try.func22, rfl, rfl, rfl, by kernel_rfl⟩, by kernel_rfl⟩
noncomputable def b23 : Code := Try.f23.body.getD .skip
theorem is23 : FnIs Try.prog 23 15 b23 #[ResultVar.tmp 4] := ⟨mix, ⟨Try.f23, Try.func23, rfl, rfl, rfl, by kernel_rfl⟩, by kernel_rfl⟩
noncomputable def b24 : Code := Try.f24.body.getD .skip
theorem is24 : FnIs Try.prog 24 27 b24 #[] := ⟨mix, ⟨Try.f24, Try.func24, rfl, rfl, rfl, by kernel_rfl⟩, by kernel_rfl⟩
noncomputable def b25 : Code := Try.f25.body.getD .skip
theorem is25 : FnIs Try.prog 25 108 b25 #[ResultVar.tmp 2, ResultVar.tmp 3] := ⟨mix, ⟨Try.f25, Try.func25, rfl, rfl, rfl, by kernel_rfl⟩, by kernel_rfl⟩
noncomputable def b26 : Code := Try.f26.body.getD .skip
theorem is26 : FnIs Try.prog 26 26 b26 #[ResultVar.tmp 4] := ⟨mix, ⟨Try.f26, Try.func26, rfl, rfl, rfl, by kernel_rfl⟩, by kernel_rfl⟩
noncomputable def b27 : Code := Try.f27.body.getD .skip
theorem is27 : FnIs Try.prog 27 9 b27 #[ResultVar.tmp 2] := ⟨mix, ⟨Try.f27, Try.func27, rfl, rfl, rfl, by kernel_rfl⟩, by kernel_rfl⟩
noncomputable def b28 : Code := Try.f28.body.getD .skip
theorem is28 : FnIs Try.prog 28 26 b28 #[ResultVar.tmp 4] := ⟨mix, ⟨Try.f28, Try.func28, rfl, rfl, rfl, by kernel_rfl⟩, by kernel_rfl⟩
noncomputable def b29 : Code := Try.f29.body.getD .skip
theorem is29 : FnIs Try.prog 29 64 b29 #[ResultVar.tmp 0] := ⟨mix, ⟨Try.f29, Try.func29, rfl, rfl, rfl, by kernel_rfl⟩, by kernel_rfl⟩
noncomputable def b30 : Code := Try.f30.body.getD .skip
theorem is30 : FnIs Try.prog 30 3 b30 #[ResultVar.tmp 0] := ⟨mix, ⟨Try.f30, Try.func30, rfl, rfl, rfl, by kernel_rfl⟩, by kernel_rfl⟩
noncomputable def b31 : Code := Try.f31.body.getD .skip
theorem is31 : FnIs Try.prog 31 53 b31 #[ResultVar.tmp 6] := ⟨mix, ⟨Try.f31, Try.func31, rfl, rfl, rfl, by kernel_rfl⟩, by kernel_rfl⟩
noncomputable def b32 : Code := Try.f32.body.getD .skip
theorem is32 : FnIs Try.prog 32 59 b32 #[ResultVar.tmp 6] := ⟨mix, ⟨Try.f32, Try.func32, rfl, rfl, rfl, by kernel_rfl⟩, by kernel_rfl⟩
noncomputable def b33 : Code := Try.f33.body.getD .skip
theorem is33 : FnIs Try.prog 33 60 b33 #[ResultVar.tmp 6] := ⟨mix, ⟨Try.f33, Try.func33, rfl, rfl, rfl, by kernel_rfl⟩, by kernel_rfl⟩
noncomputable def b34 : Code := Try.f34.body.getD .skip
theorem is34 : FnIs Try.prog 34 58 b34 #[ResultVar.tmp 6] := ⟨mix, ⟨Try.f34, Try.func34, rfl, rfl, rfl, by kernel_rfl⟩, by kernel_rfl⟩
noncomputable def b35 : Code := Try.f35.body.getD .skip
theorem is35 : FnIs Try.prog 35 17 b35 #[ResultVar.tmp 2, ResultVar.tmp 3] := ⟨mix, ⟨Try.f35, Try.func35, rfl, rfl, rfl, by kernel_rfl⟩, by kernel_rfl⟩
noncomputable def b36 : Code := Try.f36.body.getD .skip
theorem is36 : FnIs Try.prog 36 26 b36 #[ResultVar.tmp 4] := ⟨mix, ⟨Try.f36, Try.func36, rfl, rfl, rfl, by kernel_rfl⟩, by kernel_rfl⟩
noncomputable def b37 : Code := Try.f37.body.getD .skip
theorem is37 : FnIs Try.prog 37 97 b37 #[ResultVar.tmp 2] := ⟨mix, ⟨Try.f37, Try.func37, rfl, rfl, rfl, by kernel_rfl⟩, by kernel_rfl⟩
noncomputable def b38 : Code := Try.f38.body.getD .skip
theorem is38 : FnIs Try.prog 38 131 b38 #[ResultVar.tmp 2] := ⟨mix, ⟨Try.f38, Try.func38, rfl, rfl, rfl, by kernel_rfl⟩, by kernel_rfl⟩
noncomputable def b39 : Code := Try.f39.body.getD .skip
theorem is39 : FnIs Try.prog 39 10 b39 #[ResultVar.tmp 4] := ⟨mix, ⟨Try.f39, Try.func39, rfl, rfl, rfl, by kernel_rfl⟩, by kernel_rfl⟩
noncomputable def b40 : Code := Try.f40.body.getD .skip
theorem is40 : FnIs Try.prog 40 56 b40 #[ResultVar.tmp 4] := ⟨mix, ⟨Try.f40, Try.func40, rfl, rfl, rfl, by kernel_rfl⟩, by kernel_rfl⟩
noncomputable def b41 : Code := Try.f41.body.getD .skip
theorem is41 : FnIs Try.prog 41 62 b41 #[ResultVar.tmp 4] := ⟨mix, ⟨Try.f41, Try.func41, rfl, rfl, rfl, by kernel_rfl⟩, by kernel_rfl⟩
noncomputable def b42 : Code := Try.f42.body.getD .skip
theorem is42 : FnIs Try.prog 42 27 b42 #[ResultVar.tmp 0] := ⟨mix, ⟨Try.f42, Try.func42, rfl, rfl, rfl, by kernel_rfl⟩, by kernel_rfl⟩
noncomputable def b43 : Code := Try.f43.body.getD .skip
theorem is43 : FnIs Try.prog 43 26 b43 #[ResultVar.tmp 4] := ⟨mix, ⟨Try.f43, Try.func43, rfl, rfl, rfl, by kernel_rfl⟩, by kernel_rfl⟩
noncomputable def b44 : Code := Try.f44.body.getD .skip
theorem is44 : FnIs Try.prog 44 40 b44 #[ResultVar.cell 4 84] := ⟨mix, ⟨Try.f44, Try.func44, rfl, rfl, rfl, by kernel_rfl⟩, by kernel_rfl⟩
noncomputable def b45 : Code := Try.f45.body.getD .skip
theorem is45 : FnIs Try.prog 45 36 b45 #[ResultVar.tmp 4] := ⟨mix, ⟨Try.f45, Try.func45, rfl, rfl, rfl, by kernel_rfl⟩, by kernel_rfl⟩
noncomputable def b46 : Code := Try.f46.body.getD .skip
theorem is46 : FnIs Try.prog 46 132 b46 #[ResultVar.tmp 6, ResultVar.tmp 7, ResultVar.tmp 8] := ⟨mix, ⟨Try.f46, Try.func46, rfl, rfl, rfl, by kernel_rfl⟩, by kernel_rfl⟩
noncomputable def b47 : Code := Try.f47.body.getD .skip
theorem is47 : FnIs Try.prog 47 10 b47 #[ResultVar.tmp 2] := ⟨mix, ⟨Try.f47, Try.func47, rfl, rfl, rfl, by kernel_rfl⟩, by kernel_rfl⟩
noncomputable def b48 : Code := Try.f48.body.getD .skip
theorem is48 : FnIs Try.prog 48 9 b48 #[ResultVar.tmp 2, ResultVar.tmp 3] := ⟨mix, ⟨Try.f48, Try.func48, rfl, rfl, rfl, by kernel_rfl⟩, by kernel_rfl⟩
noncomputable def b49 : Code := Try.f49.body.getD .skip
theorem is49 : FnIs Try.prog 49 20 b49 #[ResultVar.tmp 4] := ⟨mix, ⟨Try.f49, Try.func49, rfl, rfl, rfl, by kernel_rfl⟩, by kernel_rfl⟩
noncomputable def b50 : Code := Try.f50.body.getD .skip
theorem is50 : FnIs Try.prog 50 9 b50 #[ResultVar.tmp 4] := ⟨mix, ⟨Try.f50, Try.func50, rfl, rfl, rfl, by kernel_rfl⟩, by kernel_rfl⟩
noncomputable def b51 : Code := Try.f51.body.getD .skip
theorem is51 : FnIs Try.prog 51 14 b51 #[ResultVar.tmp 3] := ⟨mix, ⟨Try.f51, Try.func51, rfl, rfl, rfl, by kernel_rfl⟩, by kernel_rfl⟩
noncomputable def b52 : Code := Try.f52.body.getD .skip
theorem is52 : FnIs Try.prog 52 9 b52 #[] := ⟨mix, ⟨Try.f52, Try.func52, rfl, rfl, rfl, by kernel_rfl⟩, by kernel_rfl⟩
noncomputable def b53 : Code := Try.f53.body.getD .skip
theorem is53 : FnIs Try.prog 53 8 b53 #[ResultVar.tmp 2] := ⟨mix, ⟨Try.f53, Try.func53, rfl, rfl, rfl, by kernel_rfl⟩, by kernel_rfl⟩
noncomputable def b54 : Code := Try.f54.body.getD .skip
theorem is54 : FnIs Try.prog 54 9 b54 #[ResultVar.tmp 4] := ⟨mix, ⟨Try.f54, Try.func54, rfl, rfl, rfl, by kernel_rfl⟩, by kernel_rfl⟩
noncomputable def b55 : Code := Try.f55.body.getD .skip
theorem is55 : FnIs Try.prog 55 6 b55 #[ResultVar.tmp 2] := ⟨mix, ⟨Try.f55, Try.func55, rfl, rfl, rfl, by kernel_rfl⟩, by kernel_rfl⟩
noncomputable def b56 : Code := Try.f56.body.getD .skip
theorem is56 : FnIs Try.prog 56 14 b56 #[ResultVar.tmp 3] := ⟨mix, ⟨Try.f56, Try.func56, rfl, rfl, rfl, by kernel_rfl⟩, by kernel_rfl⟩
noncomputable def b57 : Code := Try.f57.body.getD .skip
theorem is57 : FnIs Try.prog 57 1 b57 #[ResultVar.tmp 0] := ⟨mix, ⟨Try.f57, Try.func57, rfl, rfl, rfl, by kernel_rfl⟩, by kernel_rfl⟩
noncomputable def b58 : Code := Try.f58.body.getD .skip
theorem is58 : FnIs Try.prog 58 8 b58 #[ResultVar.tmp 2] := ⟨mix, ⟨Try.f58, Try.func58, rfl, rfl, rfl, by kernel_rfl⟩, by kernel_rfl⟩
noncomputable def b59 : Code := Try.f59.body.getD .skip
theorem is59 : FnIs Try.prog 59 14 b59 #[ResultVar.tmp 2] := ⟨mix, ⟨Try.f59, Try.func59, rfl, rfl, rfl, by kernel_rfl⟩, by kernel_rfl⟩
noncomputable def b60 : Code := Try.f60.body.getD .skip
theorem is60 : FnIs Try.prog 60 69 b60 #[ResultVar.tmp 4] := ⟨mix, ⟨Try.f60, Try.func60, rfl, rfl, rfl, by kernel_rfl⟩, by kernel_rfl⟩
noncomputable def b61 : Code := Try.f61.body.getD .skip
theorem is61 : FnIs Try.prog 61 8 b61 #[ResultVar.tmp 2] := ⟨mix, ⟨Try.f61, Try.func61, rfl, rfl, rfl, by kernel_rfl⟩, by kernel_rfl⟩
noncomputable def b62 : Code := Try.f62.body.getD .skip
theorem is62 : FnIs Try.prog 62 20 b62 #[ResultVar.tmp 2] := ⟨mix, ⟨Try.f62, Try.func62, rfl, rfl, rfl, by kernel_rfl⟩, by kernel_rfl⟩
noncomputable def b63 : Code := Try.f63.body.getD .skip
theorem is63 : FnIs Try.prog 63 16 b63 #[ResultVar.tmp 4] := ⟨mix, ⟨Try.f63, Try.func63, rfl, rfl, rfl, by kernel_rfl⟩, by kernel_rfl⟩
noncomputable def b64 : Code := Try.f64.body.getD .skip
theorem is64 : FnIs Try.prog 64 87 b64 #[ResultVar.tmp 8] := ⟨mix, ⟨Try.f64, Try.func64, rfl, rfl, rfl, by kernel_rfl⟩, by kernel_rfl⟩
noncomputable def b65 : Code := Try.f65.body.getD .skip
theorem is65 : FnIs Try.prog 65 42 b65 #[ResultVar.tmp 4] := ⟨mix, ⟨Try.f65, Try.func65, rfl, rfl, rfl, by kernel_rfl⟩, by kernel_rfl⟩
noncomputable def b66 : Code := Try.f66.body.getD .skip
theorem is66 : FnIs Try.prog 66 8 b66 #[ResultVar.tmp 2] := ⟨mix, ⟨Try.f66, Try.func66, rfl, rfl, rfl, by kernel_rfl⟩, by kernel_rfl⟩
noncomputable def b67 : Code := Try.f67.body.getD .skip
theorem is67 : FnIs Try.prog 67 5 b67 #[ResultVar.tmp 2] := ⟨mix, ⟨Try.f67, Try.func67, rfl, rfl, rfl, by kernel_rfl⟩, by kernel_rfl⟩
noncomputable def b68 : Code := Try.f68.body.getD .skip
theorem is68 : FnIs Try.prog 68 11 b68 #[ResultVar.tmp 1, ResultVar.tmp 2] := ⟨mix, ⟨Try.f68, Try.func68, rfl, rfl, rfl, by kernel_rfl⟩, by kernel_rfl⟩
noncomputable def b69 : Code := Try.f69.body.getD .skip
theorem is69 : FnIs Try.prog 69 19 b69 #[ResultVar.tmp 4] := ⟨mix, ⟨Try.f69, Try.func69, rfl, rfl, rfl, by kernel_rfl⟩, by kernel_rfl⟩
noncomputable def b70 : Code := Try.f70.body.getD .skip
theorem is70 : FnIs Try.prog 70 19 b70 #[ResultVar.tmp 4] := ⟨mix, ⟨Try.f70, Try.func70, rfl, rfl, rfl, by kernel_rfl⟩, by kernel_rfl⟩
noncomputable def b71 : Code := Try.f71.body.getD .skip
theorem is71 : FnIs Try.prog 71 9 b71 #[ResultVar.tmp 4] := ⟨mix, ⟨Try.f71, Try.func71, rfl, rfl, rfl, by kernel_rfl⟩, by kernel_rfl⟩
noncomputable def b72 : Code := Try.f72.body.getD .skip
theorem is72 : FnIs Try.prog 72 5 b72 #[ResultVar.tmp 2] := ⟨mix, ⟨Try.f72, Try.func72, rfl, rfl, rfl, by kernel_rfl⟩, by kernel_rfl⟩
noncomputable def b73 : Code := Try.f73.body.getD .skip
theorem is73 : FnIs Try.prog 73 19 b73 #[ResultVar.tmp 4] := ⟨mix, ⟨Try.f73, Try.func73, rfl, rfl, rfl, by kernel_rfl⟩, by kernel_rfl⟩
noncomputable def b74 : Code := Try.f74.body.getD .skip
theorem is74 : FnIs Try.prog 74 19 b74 #[ResultVar.tmp 4] := ⟨mix, ⟨Try.f74, Try.func74, rfl, rfl, rfl, by kernel_rfl⟩, by kernel_rfl⟩
end Go.Proofs.Ytgcojbgkenndhaa
