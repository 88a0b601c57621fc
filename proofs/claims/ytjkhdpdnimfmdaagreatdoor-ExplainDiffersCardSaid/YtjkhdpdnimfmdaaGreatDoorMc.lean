/- Mc -/
import Derived.Test.YtjkhdpdnimfmdaaGreatDoorEnv
import Derived.KernelRfl
set_option maxRecDepth 100000
namespace Go.Vm
theorem reck7 : run (env58 known6) 100000 (.pcall 132 arg7) = some (.pv res7) := by kernel_rfl
theorem reck11 : run (env58 known10) 100000 (.pcall 62 arg11) = some (.pv res11) := by kernel_rfl
theorem reck12 : run (env58 known11) 100000 (.pcall 43 arg12) = some (.pv res12) := by kernel_rfl
theorem reck13 : run (env58 known12) 100000 (.pcall 95 arg13) = some (.pv res13) := by kernel_rfl
theorem reck21 : run (env58 known20) 100000 (.pcall 95 arg21) = some (.pv res21) := by kernel_rfl
theorem reck25 : run (env58 known24) 100000 (.pcall 14 arg25) = some (.pv res25) := by kernel_rfl
theorem reck26 : run (env58 known25) 100000 (.pcall 14 arg26) = some (.pv res26) := by kernel_rfl
theorem reck28 : run (env58 known27) 100000 (.pcall 8 arg28) = some (.pv res28) := by kernel_rfl
end Go.Vm
