/- The builder's methods at this program. -/
import Derived.Test.YtkfhieigdlfbeaaDoorB33
import Derived.Test.YtkfhieigdlfbeaaDoorS
namespace Go.Proofs.YtkfhieigdlfbeaaDoor
open Go.AB
theorem writesB : WritesB Tryd.prog 50 108 5 := fun _ _ _ _ _ h x hx hl => bld_write (ρ := Tryd.lays156_ren) { Tryd.lays156 with } Tryd.Builder_Extra_156 h x hx hl
theorem readsB : ReadsB Tryd.prog 52 108 5 := fun _ _ _ _ _ h => bld_string (ρ := Tryd.lays156_ren) { Tryd.lays156 with } Tryd.Builder_Extra_156 h
end Go.Proofs.YtkfhieigdlfbeaaDoor
