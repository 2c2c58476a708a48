/- The builder's methods at this program. -/
import Derived.Test.YtalneemgdjkcdaaDoorB33
import Derived.Test.YtalneemgdjkcdaaDoorS
namespace Go.Proofs.YtalneemgdjkcdaaDoor
open Go.AB
theorem extra156 : Builder.Extra Tryd.prog Tryd.lays156_ren := {
  sizeBuilder := by kernel_rfl
  liesBuilder := by kernel_rfl
  t5 := Tryd.underlying5
  a5 := Tryd.isAgg5
  z5 := Tryd.sizeOf5
  v5 := Tryd.zeroValue5
  infoByte := by kernel_rfl
  cellsByte := by kernel_rfl
  sizeByte := by kernel_rfl
  neB5 := by decide }
theorem writesB : WritesB Tryd.prog 20 47 5 := fun _ _ _ _ _ h x hx hl => bld_write (ρ := Tryd.lays156_ren) { Tryd.lays156 with } extra156 h x hx hl
theorem readsB : ReadsB Tryd.prog 23 47 5 := fun _ _ _ _ _ h => bld_string (ρ := Tryd.lays156_ren) { Tryd.lays156 with } extra156 h
end Go.Proofs.YtalneemgdjkcdaaDoor
