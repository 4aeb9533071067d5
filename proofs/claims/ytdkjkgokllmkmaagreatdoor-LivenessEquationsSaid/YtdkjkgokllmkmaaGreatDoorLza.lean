/- LivenessEquations returns true for every function, and the function reads behind the call as it read before. No condition. -/
import Derived.Test.YtdkjkgokllmkmaaGreatDoorLxc
import Derived.Test.YtdkjkgokllmkmaaGreatDoorLxs
namespace Go.Proofs.YtdkjkgokllmkmaaGreatDoor
theorem livenessEquations_holds : Rows.LivenessEquationsSaid := Lv.said4 Lv.equations_any
#print axioms livenessEquations_holds
end Go.Proofs.YtdkjkgokllmkmaaGreatDoor
