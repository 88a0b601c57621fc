/- Md -/
import Derived.Test.YtjkhdpdnimfmdaaGreatDoorEnv
import Derived.KernelRfl
set_option maxRecDepth 100000
namespace Go.Vm
theorem reck6 : run (env58 known5) 100000 (.pcall 88 arg6) = some (.pv res6) := by kernel_rfl
theorem reck9 : run (env58 known8) 100000 (.pcall 136 arg9) = some (.pv res9) := by kernel_rfl
theorem reck15 : run (env58 known14) 100000 (.pcall 4 arg15) = some (.pv res15) := by kernel_rfl
theorem reck18 : run (env58 known17) 100000 (.pcall 73 arg18) = some (.pv res18) := by kernel_rfl
theorem reck23 : run (env58 known22) 100000 (.pcall 102 arg23) = some (.pv res23) := by kernel_rfl
theorem reck24 : run (env58 known23) 100000 (.pcall 29 arg24) = some (.pv res24) := by kernel_rfl
theorem reck29 : run (env58 known28) 100000 (.pcall 5 arg29) = some (.pv res29) := by kernel_rfl
end Go.Vm
