import Derived.Test.YtkjnneephcboaaaBase
namespace Go.Proofs.Ytkjnneephcboaaa
open Go Go.X Go.Proofs
set_option linter.unusedVariables false
set_option maxRecDepth 100000
/-- cmp.isNaN[int] -/
theorem sh_cmp_isNaN_int (x0 : Int) (h : Heap) (R : Value → Heap → Prop)
    (H : R (.bool ((x0 : Int) != x0)) h) :
    XC Try.prog 38 #[.int .i64 x0] h R :=
  XC_of_code Try.mixed ⟨[], [], []⟩ [.int .i64 x0] (rs := [.tmp 2]) (n := 6) Try.func38 (by kernel_rfl) (by kernel_rfl) (by kernel_rfl) (by kernel_rfl) (Eq.mp (by kernel_rfl) H)

end Go.Proofs.Ytkjnneephcboaaa
