/-
  The regions that draw their order: which operations may come either way round.
-/
import Derived.Test.YtlgjecmpmifjpaaAbRg
import Derived.Test.YtlgjecmpmifjpaaProg
import Derived.KernelRfl
namespace Go.Ab
open Go.Proofs
theorem dr3 : regsF Try.f3 = [(true, [(0, 3), (1, 3), (2, 3), (2, 4)])] := by kernel_rfl
theorem dr4 : regsF Try.f4 = [(true, [(2, 4), (3, 4), (9, 11), (10, 11)])] := by kernel_rfl
theorem dr5 : regsF Try.f5 = [(true, [(2, 4), (3, 4), (2, 5), (3, 5), (2, 6), (3, 6), (15, 18), (16, 18), (17, 18), (15, 19), (16, 19), (17, 19), (18, 19), (15, 20), (16, 20), (17, 20), (15, 21), (16, 21), (17, 21)])] := by kernel_rfl
theorem dr6 : regsF Try.f6 = [(true, [(2, 3), (7, 9), (8, 9), (14, 15)]), (true, [(0, 1), (7, 8), (7, 12), (8, 12), (9, 12), (10, 12), (11, 12), (17, 18), (17, 21), (18, 21), (19, 21), (20, 21)]), (true, [(9, 11), (10, 11)])] := by kernel_rfl
theorem dr11 : regsF Try.f11 = [(true, [(0, 1), (1, 2), (0, 3), (1, 3), (2, 3), (5, 7), (6, 7)])] := by kernel_rfl
theorem dr12 : regsF Try.f12 = [(true, [(0, 2), (0, 3), (0, 4), (0, 5), (0, 8), (2, 8), (3, 8), (4, 8), (5, 8), (0, 9), (2, 9), (3, 9), (4, 9), (5, 9), (0, 10), (2, 10), (3, 10), (4, 10), (5, 10), (0, 11)])] := by kernel_rfl
theorem dr14 : regsF Try.f14 = [(true, [(1, 5), (2, 5), (3, 5), (1, 6), (2, 6), (3, 6), (1, 7), (2, 7), (3, 7)])] := by kernel_rfl
theorem dr16 : regsF Try.f16 = [(true, [(1, 5), (2, 5), (3, 5), (1, 6), (2, 6), (3, 6), (1, 7), (2, 7), (3, 7), (1, 9), (2, 9), (3, 9), (5, 9), (6, 9), (7, 9), (1, 10), (2, 10), (3, 10), (5, 10), (6, 10), (7, 10), (1, 11), (2, 11), (3, 11), (5, 11), (6, 11), (7, 11), (1, 12), (2, 12), (3, 12)])] := by kernel_rfl
theorem dr17 : regsF Try.f17 = [(true, [(1, 2), (1, 6), (2, 6), (3, 6), (4, 6), (1, 7), (2, 7), (3, 7), (4, 7), (6, 7), (1, 8), (2, 8), (3, 8), (4, 8), (1, 9), (2, 9), (3, 9), (4, 9)])] := by kernel_rfl
theorem dr18 : regsF Try.f18 = [(true, [(0, 1), (0, 4), (1, 4), (2, 4), (3, 4), (0, 5), (1, 5), (2, 5), (3, 5), (4, 5), (0, 6), (1, 6), (2, 6), (3, 6), (0, 7), (1, 7), (2, 7), (3, 7)])] := by kernel_rfl
theorem dr19 : regsF Try.f19 = [(true, [(0, 1), (0, 2), (1, 2), (0, 3), (0, 4), (0, 6), (1, 6), (2, 6), (3, 6), (4, 6), (0, 7), (1, 7), (2, 7), (3, 7), (4, 7), (0, 8), (1, 8), (2, 8), (3, 8), (4, 8), (0, 9), (0, 10)]), (true, [(0, 2), (0, 3), (0, 4), (0, 5), (2, 5), (3, 5), (4, 5), (0, 6), (2, 6), (3, 6), (4, 6), (5, 6), (0, 7), (2, 7), (3, 7), (4, 7), (0, 8), (2, 8), (3, 8), (4, 8), (0, 9), (0, 10)])] := by kernel_rfl
theorem dr20 : regsF Try.f20 = [(true, [(0, 1), (1, 2), (0, 3), (1, 3), (2, 3), (5, 7), (6, 7)])] := by kernel_rfl
theorem dr22 : regsF Try.f22 = [(true, [(0, 1), (0, 4), (1, 4), (2, 4), (3, 4)])] := by kernel_rfl
theorem dr26 : regsF Try.f26 = [(true, [(0, 1), (0, 2)])] := by kernel_rfl
theorem dr32 : regsF Try.f32 = [(true, [(0, 1), (0, 4), (1, 4), (2, 4), (3, 4), (0, 5), (1, 5), (2, 5), (3, 5), (4, 5), (0, 6), (1, 6), (2, 6), (3, 6), (0, 7), (1, 7), (2, 7), (3, 7)])] := by kernel_rfl
theorem dr34 : regsF Try.f34 = [(true, [(0, 1), (0, 2), (1, 2), (0, 3)])] := by kernel_rfl
theorem dr38 : regsF Try.f38 = [(true, [(1, 7), (2, 7), (3, 7), (4, 7), (1, 8), (2, 8), (3, 8), (4, 8), (1, 9), (2, 9), (3, 9), (4, 9)])] := by kernel_rfl
theorem dr39 : regsF Try.f39 = [(true, [(0, 1), (0, 2), (1, 2), (0, 3)]), (true, [(0, 1), (0, 2), (1, 2), (0, 3)])] := by kernel_rfl
theorem dr40 : regsF Try.f40 = [(true, [(2, 7), (3, 7), (4, 7), (2, 8), (3, 8), (4, 8), (2, 9), (3, 9), (4, 9), (7, 10), (8, 10), (9, 10)])] := by kernel_rfl
theorem dr41 : regsF Try.f41 = [(true, [(1, 4), (2, 4), (1, 6), (2, 6), (1, 8), (2, 8), (8, 11)])] := by kernel_rfl

end Go.Ab
