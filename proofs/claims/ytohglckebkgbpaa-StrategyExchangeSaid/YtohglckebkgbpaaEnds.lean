/-
  The ends of laws: what lies about every call.
-/
import Derived.Test.YtohglckebkgbpaaFrame
import Derived.Test.YtohglckebkgbpaaTab
import Derived.Test.YtohglckebkgbpaaNd
import Derived.Lib.SmallJoins
namespace Go.Proofs.Ytohglckebkgbpaa
open Go.RowKit Go.ChangeShapes Go.WideShapes Go.ChangeAt Go.Joins

theorem laid : laidOutB Try.prog = true := by kernel_rfl
theorem ownk : ownKnob (Try.prog).godebug = none := by kernel_rfl
theorem noGlob {F : Mem} : GlobOk tT F := fun g x h => by simp [tT, look] at h
end Go.Proofs.Ytohglckebkgbpaa
