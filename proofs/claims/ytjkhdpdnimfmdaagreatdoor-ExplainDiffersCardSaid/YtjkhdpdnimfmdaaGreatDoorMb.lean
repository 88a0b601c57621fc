/- Mb -/
import Derived.Test.YtjkhdpdnimfmdaaGreatDoorEnv
import Derived.KernelRfl
set_option maxRecDepth 100000
namespace Go.Vm
theorem reck1 : run (env58 known0) 100000 (.pcall 183 arg1) = some (.pv res1) := by kernel_rfl
theorem reck4 : run (env58 known3) 100000 (.pcall 129 arg4) = some (.pv res4) := by kernel_rfl
theorem reck8 : run (env58 known7) 100000 (.pcall 245 arg8) = some (.pv res8) := by kernel_rfl
theorem reck14 : run (env58 known13) 100000 (.pcall 13 arg14) = some (.pv res14) := by kernel_rfl
theorem reck16 : run (env58 known15) 100000 (.pcall 69 arg16) = some (.pv res16) := by kernel_rfl
theorem reck17 : run (env58 known16) 100000 (.pcall 73 arg17) = some (.pv res17) := by kernel_rfl
theorem reck22 : run (env58 known21) 100000 (.pcall 150 arg22) = some (.pv res22) := by kernel_rfl
end Go.Vm
