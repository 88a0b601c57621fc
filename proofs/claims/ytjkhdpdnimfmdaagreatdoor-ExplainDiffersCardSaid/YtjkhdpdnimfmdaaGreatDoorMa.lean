/- Ma -/
import Derived.Test.YtjkhdpdnimfmdaaGreatDoorEnv
import Derived.KernelRfl
set_option maxRecDepth 100000
namespace Go.Vm
theorem reck2 : run (env58 known1) 100000 (.pcall 143 arg2) = some (.pv res2) := by kernel_rfl
theorem reck3 : run (env58 known2) 100000 (.pcall 136 arg3) = some (.pv res3) := by kernel_rfl
theorem reck5 : run (env58 known4) 100000 (.pcall 183 arg5) = some (.pv res5) := by kernel_rfl
theorem reck10 : run (env58 known9) 100000 (.pcall 245 arg10) = some (.pv res10) := by kernel_rfl
theorem reck19 : run (env58 known18) 100000 (.pcall 29 arg19) = some (.pv res19) := by kernel_rfl
theorem reck20 : run (env58 known19) 100000 (.pcall 64 arg20) = some (.pv res20) := by kernel_rfl
theorem reck27 : run (env58 known26) 100000 (.pcall 34 arg27) = some (.pv res27) := by kernel_rfl
end Go.Vm
