/-
  utf8's tables, as the rows list them.
-/
import Derived.Test.YtokojeiiobhciaaDoorCards
import Derived.Test.YtokojeiiobhciaaDoorSh
import Derived.Lib.LaidU8T
namespace Go.Proofs.YtokojeiiobhciaaDoor
open Go.RowKit Mem Go.Shelf Go.Lib
set_option linter.unusedVariables false

theorem i32_bounds {n : Int} (h : (Lit.int .i32 n).wf = true) : -2147483648 ≤ n ∧ n ≤ 2147483647 := by
  have h1 : IntKind.i32.min ≤ n ∧ n ≤ IntKind.i32.max := by simpa [Lit.wf] using h
  have e1 : IntKind.i32.min = -2147483648 := by decide
  have e2 : IntKind.i32.max = 2147483647 := by decide
  omega
theorem u8_bounds {n : Int} (h : (Lit.int .u8 n).wf = true) : ∃ k : Nat, n = (k : Int) ∧ k < 256 := by
  have h1 : IntKind.u8.min ≤ n ∧ n ≤ IntKind.u8.max := by simpa [Lit.wf] using h
  have e1 : IntKind.u8.min = 0 := by decide
  have e2 : IntKind.u8.max = 255 := by decide
  exact ⟨n.toNat, by omega, by omega⟩
def ren0 : Ren := ⟨fun x => x, fun | 119 => 96 | 138 => 98 | 139 => 99 | 5 => 5 | n => n, fun | 3 => 1 | 4 => 2 | n => n⟩
theorem tabs_laid {w : World} (h : laidMet Tryd.prog [("unicode/utf8.acceptRanges", Rows.laid_unicode_utf8_acceptRanges), ("unicode/utf8.first", Rows.laid_unicode_utf8_first)] w) : Lib.Utf8Tabs 1 2 w := by
  have h1 := Lib.laidMet.reads h (.tail _ (.head _))
  have h2 := Lib.laidMet.reads h (.head _)
  rw [show (Rows.laid_unicode_utf8_first : DataW Unit) = firstData by kernel_rfl] at h1
  rw [show (Rows.laid_unicode_utf8_acceptRanges : DataW Unit) = acceptData by kernel_rfl] at h2
  exact utf8Tabs_of_readsT (ρ := ren0) ⟨by kernel_rfl, by kernel_rfl, by kernel_rfl, by kernel_rfl⟩ ⟨by kernel_rfl, by kernel_rfl, by kernel_rfl, by kernel_rfl, by kernel_rfl, by kernel_rfl, by kernel_rfl⟩ h1 h2
end Go.Proofs.YtokojeiiobhciaaDoor
