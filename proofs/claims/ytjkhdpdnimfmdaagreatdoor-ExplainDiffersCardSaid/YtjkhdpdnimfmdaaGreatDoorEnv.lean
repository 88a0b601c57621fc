/- Env -/
import Derived.Test.YtjkhdpdnimfmdaaGreatDoorVd
import Derived.Test.YtjkhdpdnimfmdaaGreatDoorProg
import Derived.KernelRfl
import Derived.Lib.IndexMore
set_option maxRecDepth 100000
set_option linter.unusedVariables false
namespace Go.Vm
open Go.Proofs
noncomputable def ty1 : TyI := ⟨.func #[] #[] false, 1, 8, [.nfunc], false⟩
noncomputable def ty2 : TyI := ⟨.int .i64, 1, 8, [.int .i64 0], false⟩
noncomputable def ty3 : TyI := ⟨.int .i64, 1, 8, [.int .i64 0], false⟩
noncomputable def ty4 : TyI := ⟨.bool, 1, 1, [.bool false], false⟩
noncomputable def ty5 : TyI := ⟨.int .u8, 1, 1, [.int .u8 0], false⟩
noncomputable def ty6 : TyI := ⟨.int .u8, 1, 1, [.int .u8 0], false⟩
noncomputable def ty7 : TyI := ⟨(.struct #[⟨ "x", 2, 0, false, "", "runtime", 0⟩, ⟨ "y", 3, 1, false, "", "runtime", 8⟩, ⟨ "signed", 4, 2, false, "", "runtime", 16⟩, ⟨ "code", 6, 3, false, "", "runtime", 17⟩]), 4, 24, [.int .i64 0, .int .i64 0, .bool false, .int .u8 0], true⟩
noncomputable def ty8 : TyI := ⟨(.struct #[⟨ "x", 2, 0, false, "", "runtime", 0⟩, ⟨ "y", 3, 1, false, "", "runtime", 8⟩, ⟨ "signed", 4, 2, false, "", "runtime", 16⟩, ⟨ "code", 6, 3, false, "", "runtime", 17⟩]), 4, 24, [.int .i64 0, .int .i64 0, .bool false, .int .u8 0], true⟩
noncomputable def ty9 : TyI := ⟨.string, 1, 16, [.str ⟨#[]⟩], false⟩
noncomputable def ty10 : TyI := ⟨.string, 1, 16, [.str ⟨#[]⟩], false⟩
noncomputable def ty11 : TyI := ⟨.string, 1, 16, [.str ⟨#[]⟩], false⟩
noncomputable def ty12 : TyI := ⟨.int .u64, 1, 8, [.int .u64 0], false⟩
noncomputable def ty13 : TyI := ⟨(.struct #[⟨ "msg", 9, 0, false, "", "runtime", 0⟩, ⟨ "addr", 12, 1, false, "", "runtime", 16⟩]), 2, 24, [.str ⟨#[]⟩, .int .u64 0], true⟩
noncomputable def ty14 : TyI := ⟨(.struct #[⟨ "msg", 9, 0, false, "", "runtime", 0⟩, ⟨ "addr", 12, 1, false, "", "runtime", 16⟩]), 2, 24, [.str ⟨#[]⟩, .int .u64 0], true⟩
noncomputable def ty15 : TyI := ⟨.pointer 367, 1, 8, [.nptr], false⟩
noncomputable def ty16 : TyI := ⟨.pointer 370, 1, 8, [.nptr], false⟩
noncomputable def ty17 : TyI := ⟨.pointer 379, 1, 8, [.nptr], false⟩
noncomputable def ty18 : TyI := ⟨(.struct #[⟨ "typ", 17, 0, false, "", "internal/runtime/maps", 0⟩]), 1, 8, [.nptr], true⟩
noncomputable def ty19 : TyI := ⟨(.struct #[⟨ "typ", 17, 0, false, "", "internal/runtime/maps", 0⟩]), 1, 8, [.nptr], true⟩
noncomputable def ty20 : TyI := ⟨.interface #[], 1, 16, [.niface], false⟩
noncomputable def ty21 : TyI := ⟨.int .i32, 1, 4, [.int .i32 0], false⟩
noncomputable def ty22 : TyI := ⟨(.struct #[⟨ "Time", 3, 0, false, "", "", 0⟩, ⟨ "Source", 3, 1, false, "", "", 8⟩, ⟨ "Seq", 3, 2, false, "", "", 16⟩]), 3, 24, [.int .i64 0, .int .i64 0, .int .i64 0], true⟩
noncomputable def ty23 : TyI := ⟨(.struct #[⟨ "Time", 3, 0, false, "", "", 0⟩, ⟨ "Source", 3, 1, false, "", "", 8⟩, ⟨ "Seq", 3, 2, false, "", "", 16⟩]), 3, 24, [.int .i64 0, .int .i64 0, .int .i64 0], true⟩
noncomputable def ty24 : TyI := ⟨(.struct #[⟨ "Kind", 3, 0, false, "", "", 0⟩, ⟨ "Var", 3, 1, false, "", "", 8⟩, ⟨ "Scope", 3, 2, false, "", "", 16⟩, ⟨ "Ref", 23, 3, false, "", "", 24⟩]), 6, 48, [.int .i64 0, .int .i64 0, .int .i64 0, .int .i64 0, .int .i64 0, .int .i64 0], true⟩
noncomputable def ty25 : TyI := ⟨(.struct #[⟨ "Kind", 3, 0, false, "", "", 0⟩, ⟨ "Var", 3, 1, false, "", "", 8⟩, ⟨ "Scope", 3, 2, false, "", "", 16⟩, ⟨ "Ref", 23, 3, false, "", "", 24⟩]), 6, 48, [.int .i64 0, .int .i64 0, .int .i64 0, .int .i64 0, .int .i64 0, .int .i64 0], true⟩
noncomputable def ty26 : TyI := ⟨.slice 28, 1, 24, [.nslice], false⟩
noncomputable def ty27 : TyI := ⟨(.struct #[⟨ "Name", 9, 0, false, "", "", 0⟩, ⟨ "Type", 3, 1, false, "", "", 16⟩]), 2, 24, [.str ⟨#[]⟩, .int .i64 0], true⟩
noncomputable def ty28 : TyI := ⟨(.struct #[⟨ "Name", 9, 0, false, "", "", 0⟩, ⟨ "Type", 3, 1, false, "", "", 16⟩]), 2, 24, [.str ⟨#[]⟩, .int .i64 0], true⟩
noncomputable def ty29 : TyI := ⟨.int .i64, 1, 8, [.int .i64 0], false⟩
noncomputable def ty31 : TyI := ⟨.func #[26, 25] #[9, 29] false, 1, 8, [.nfunc], false⟩
noncomputable def ty32 : TyI := ⟨.func #[] #[4] false, 1, 8, [.nfunc], false⟩
noncomputable def ty33 : TyI := ⟨.func #[25, 25] #[4] false, 1, 8, [.nfunc], false⟩
noncomputable def ty34 : TyI := ⟨.array 8 9, 8, 128, [.str ⟨#[]⟩, .str ⟨#[]⟩, .str ⟨#[]⟩, .str ⟨#[]⟩, .str ⟨#[]⟩, .str ⟨#[]⟩, .str ⟨#[]⟩, .str ⟨#[]⟩], true⟩
noncomputable def ty35 : TyI := ⟨.func #[23] #[4] false, 1, 8, [.nfunc], false⟩
noncomputable def ty36 : TyI := ⟨.func #[9] #[29] false, 1, 8, [.nfunc], false⟩
noncomputable def ty37 : TyI := ⟨.func #[65] #[9] true, 1, 8, [.nfunc], false⟩
noncomputable def ty38 : TyI := ⟨.func #[3] #[9] false, 1, 8, [.nfunc], false⟩
noncomputable def ty39 : TyI := ⟨.slice 46, 1, 24, [.nslice], false⟩
noncomputable def ty40 : TyI := ⟨.slice 44, 1, 24, [.nslice], false⟩
noncomputable def ty41 : TyI := ⟨(.struct #[⟨ "Kind", 3, 0, false, "", "", 0⟩, ⟨ "Num", 3, 1, false, "", "", 8⟩, ⟨ "Text", 9, 2, false, "", "", 16⟩]), 3, 32, [.int .i64 0, .int .i64 0, .str ⟨#[]⟩], true⟩
noncomputable def ty42 : TyI := ⟨(.struct #[⟨ "Kind", 3, 0, false, "", "", 0⟩, ⟨ "Num", 3, 1, false, "", "", 8⟩, ⟨ "Text", 9, 2, false, "", "", 16⟩]), 3, 32, [.int .i64 0, .int .i64 0, .str ⟨#[]⟩], true⟩
noncomputable def ty43 : TyI := ⟨(.struct #[⟨ "Op", 3, 0, false, "", "", 0⟩, ⟨ "Args", 40, 1, false, "", "", 8⟩, ⟨ "Var", 3, 2, false, "", "", 32⟩, ⟨ "Field", 3, 3, false, "", "", 40⟩, ⟨ "Kind", 3, 4, false, "", "", 48⟩, ⟨ "Value", 42, 5, false, "", "", 56⟩]), 8, 88, [.int .i64 0, .nslice, .int .i64 0, .int .i64 0, .int .i64 0, .int .i64 0, .int .i64 0, .str ⟨#[]⟩], true⟩
noncomputable def ty44 : TyI := ⟨(.struct #[⟨ "Op", 3, 0, false, "", "", 0⟩, ⟨ "Args", 40, 1, false, "", "", 8⟩, ⟨ "Var", 3, 2, false, "", "", 32⟩, ⟨ "Field", 3, 3, false, "", "", 40⟩, ⟨ "Kind", 3, 4, false, "", "", 48⟩, ⟨ "Value", 42, 5, false, "", "", 56⟩]), 8, 88, [.int .i64 0, .nslice, .int .i64 0, .int .i64 0, .int .i64 0, .int .i64 0, .int .i64 0, .str ⟨#[]⟩], true⟩
noncomputable def ty45 : TyI := ⟨(.struct #[⟨ "Op", 3, 0, false, "", "", 0⟩, ⟨ "Args", 39, 1, false, "", "", 8⟩, ⟨ "Type", 3, 2, false, "", "", 32⟩, ⟨ "Var", 3, 3, false, "", "", 40⟩, ⟨ "Scope", 3, 4, false, "", "", 48⟩, ⟨ "Span", 3, 5, false, "", "", 56⟩, ⟨ "Cond", 44, 6, false, "", "", 64⟩]), 14, 152, [.int .i64 0, .nslice, .int .i64 0, .int .i64 0, .int .i64 0, .int .i64 0, .int .i64 0, .nslice, .int .i64 0, .int .i64 0, .int .i64 0, .int .i64 0, .int .i64 0, .str ⟨#[]⟩], true⟩
noncomputable def ty46 : TyI := ⟨(.struct #[⟨ "Op", 3, 0, false, "", "", 0⟩, ⟨ "Args", 39, 1, false, "", "", 8⟩, ⟨ "Type", 3, 2, false, "", "", 32⟩, ⟨ "Var", 3, 3, false, "", "", 40⟩, ⟨ "Scope", 3, 4, false, "", "", 48⟩, ⟨ "Span", 3, 5, false, "", "", 56⟩, ⟨ "Cond", 44, 6, false, "", "", 64⟩]), 14, 152, [.int .i64 0, .nslice, .int .i64 0, .int .i64 0, .int .i64 0, .int .i64 0, .int .i64 0, .nslice, .int .i64 0, .int .i64 0, .int .i64 0, .int .i64 0, .int .i64 0, .str ⟨#[]⟩], true⟩
noncomputable def ty47 : TyI := ⟨.func #[] #[46] false, 1, 8, [.nfunc], false⟩
noncomputable def ty48 : TyI := ⟨.slice 42, 1, 24, [.nslice], false⟩
noncomputable def ty49 : TyI := ⟨(.struct #[⟨ "Source", 3, 0, false, "", "", 0⟩, ⟨ "Seq", 3, 1, false, "", "", 8⟩, ⟨ "Type", 3, 2, false, "", "", 16⟩, ⟨ "Time", 3, 3, false, "", "", 24⟩, ⟨ "Values", 48, 4, false, "", "", 32⟩]), 5, 56, [.int .i64 0, .int .i64 0, .int .i64 0, .int .i64 0, .nslice], true⟩
noncomputable def ty50 : TyI := ⟨(.struct #[⟨ "Source", 3, 0, false, "", "", 0⟩, ⟨ "Seq", 3, 1, false, "", "", 8⟩, ⟨ "Type", 3, 2, false, "", "", 16⟩, ⟨ "Time", 3, 3, false, "", "", 24⟩, ⟨ "Values", 48, 4, false, "", "", 32⟩]), 5, 56, [.int .i64 0, .int .i64 0, .int .i64 0, .int .i64 0, .nslice], true⟩
noncomputable def ty51 : TyI := ⟨.func #[3, 3] #[50] false, 1, 8, [.nfunc], false⟩
noncomputable def ty52 : TyI := ⟨.slice 50, 1, 24, [.nslice], false⟩
noncomputable def ty53 : TyI := ⟨.func #[3] #[23] false, 1, 8, [.nfunc], false⟩
noncomputable def ty54 : TyI := ⟨(.struct #[⟨ "Var", 3, 0, false, "", "", 0⟩, ⟨ "Ref", 23, 1, false, "", "", 8⟩]), 4, 32, [.int .i64 0, .int .i64 0, .int .i64 0, .int .i64 0], true⟩
noncomputable def ty55 : TyI := ⟨(.struct #[⟨ "Var", 3, 0, false, "", "", 0⟩, ⟨ "Ref", 23, 1, false, "", "", 8⟩]), 4, 32, [.int .i64 0, .int .i64 0, .int .i64 0, .int .i64 0], true⟩
noncomputable def ty56 : TyI := ⟨.slice 55, 1, 24, [.nslice], false⟩
noncomputable def ty57 : TyI := ⟨(.struct #[⟨ "Bindings", 56, 0, false, "", "", 0⟩]), 1, 24, [.nslice], true⟩
noncomputable def ty58 : TyI := ⟨(.struct #[⟨ "Bindings", 56, 0, false, "", "", 0⟩]), 1, 24, [.nslice], true⟩
noncomputable def ty60 : TyI := ⟨.func #[46, 52, 58] #[25, 4, 29] false, 1, 8, [.nfunc], false⟩
noncomputable def ty61 : TyI := ⟨.slice 58, 1, 24, [.nslice], false⟩
noncomputable def ty62 : TyI := ⟨.slice 25, 1, 24, [.nslice], false⟩
noncomputable def ty64 : TyI := ⟨.func #[46, 52, 23] #[61, 62, 29] false, 1, 8, [.nfunc], false⟩
noncomputable def ty65 : TyI := ⟨.slice 3, 1, 24, [.nslice], false⟩
noncomputable def ty67 : TyI := ⟨.func #[46, 52, 23] #[65, 29] false, 1, 8, [.nfunc], false⟩
noncomputable def ty68 : TyI := ⟨.func #[62, 62] #[4] false, 1, 8, [.nfunc], false⟩
noncomputable def ty69 : TyI := ⟨.func #[65, 65] #[4] false, 1, 8, [.nfunc], false⟩
noncomputable def ty70 : TyI := ⟨.func #[5] #[4] false, 1, 8, [.nfunc], false⟩
noncomputable def ty71 : TyI := ⟨.func #[9] #[4] false, 1, 8, [.nfunc], false⟩
noncomputable def ty72 : TyI := ⟨.func #[73, 70] #[4] false, 1, 8, [.nfunc], false⟩
noncomputable def ty73 : TyI := ⟨.slice 5, 1, 24, [.nslice], false⟩
noncomputable def ty74 : TyI := ⟨.func #[4] #[42] false, 1, 8, [.nfunc], false⟩
noncomputable def ty75 : TyI := ⟨.pointer 90, 1, 8, [.nptr], false⟩
noncomputable def ty77 : TyI := ⟨.func #[46, 52] #[75, 29] false, 1, 8, [.nfunc], false⟩
noncomputable def ty78 : TyI := ⟨.func #[58] #[29] false, 1, 8, [.nfunc], false⟩
noncomputable def ty80 : TyI := ⟨.func #[23] #[50, 4] false, 1, 8, [.nfunc], false⟩
noncomputable def ty81 : TyI := ⟨.func #[56] #[25] false, 1, 8, [.nfunc], false⟩
noncomputable def ty82 : TyI := ⟨.slice 112, 1, 24, [.nslice], false⟩
noncomputable def ty84 : TyI := ⟨.func #[88, 52] #[82, 61, 29] false, 1, 8, [.nfunc], false⟩
noncomputable def ty85 : TyI := ⟨.slice 188, 1, 24, [.nslice], false⟩
noncomputable def ty86 : TyI := ⟨.slice 166, 1, 24, [.nslice], false⟩
noncomputable def ty87 : TyI := ⟨(.struct #[⟨ "Vars", 3, 0, false, "", "", 0⟩, ⟨ "Scopes", 3, 1, false, "", "", 8⟩, ⟨ "States", 85, 2, false, "", "", 16⟩, ⟨ "Edges", 86, 3, false, "", "", 40⟩]), 4, 64, [.int .i64 0, .int .i64 0, .nslice, .nslice], true⟩
noncomputable def ty88 : TyI := ⟨(.struct #[⟨ "Vars", 3, 0, false, "", "", 0⟩, ⟨ "Scopes", 3, 1, false, "", "", 8⟩, ⟨ "States", 85, 2, false, "", "", 16⟩, ⟨ "Edges", 86, 3, false, "", "", 40⟩]), 4, 64, [.int .i64 0, .int .i64 0, .nslice, .nslice], true⟩
noncomputable def ty89 : TyI := ⟨(.struct #[⟨ "a", 88, 0, false, "", "tidegate/explain", 0⟩, ⟨ "held", 52, 4, false, "", "tidegate/explain", 64⟩]), 5, 88, [.int .i64 0, .int .i64 0, .nslice, .nslice, .nslice], true⟩
noncomputable def ty90 : TyI := ⟨(.struct #[⟨ "a", 88, 0, false, "", "tidegate/explain", 0⟩, ⟨ "held", 52, 4, false, "", "tidegate/explain", 64⟩]), 5, 88, [.int .i64 0, .int .i64 0, .nslice, .nslice, .nslice], true⟩
noncomputable def ty91 : TyI := ⟨.func #[61, 94] #[61] false, 1, 8, [.nfunc], false⟩
noncomputable def ty92 : TyI := ⟨.func #[56, 93] #[4] false, 1, 8, [.nfunc], false⟩
noncomputable def ty93 : TyI := ⟨.func #[55] #[4] false, 1, 8, [.nfunc], false⟩
noncomputable def ty94 : TyI := ⟨.func #[58] #[4] false, 1, 8, [.nfunc], false⟩
noncomputable def ty95 : TyI := ⟨.func #[46, 3] #[65] false, 1, 8, [.nfunc], false⟩
noncomputable def ty96 : TyI := ⟨.func #[52, 98] #[3] false, 1, 8, [.nfunc], false⟩
noncomputable def ty97 : TyI := ⟨.func #[50] #[23] false, 1, 8, [.nfunc], false⟩
noncomputable def ty98 : TyI := ⟨.func #[50] #[4] false, 1, 8, [.nfunc], false⟩
noncomputable def ty99 : TyI := ⟨(.struct #[⟨ "next", 82, 0, false, "", "tidegate/explain", 0⟩, ⟨ "some", 4, 1, false, "", "tidegate/explain", 24⟩, ⟨ "ends", 4, 2, false, "", "tidegate/explain", 25⟩, ⟨ "best", 25, 3, false, "", "tidegate/explain", 32⟩]), 9, 80, [.nslice, .bool false, .bool false, .int .i64 0, .int .i64 0, .int .i64 0, .int .i64 0, .int .i64 0, .int .i64 0], true⟩
noncomputable def ty100 : TyI := ⟨(.struct #[⟨ "next", 82, 0, false, "", "tidegate/explain", 0⟩, ⟨ "some", 4, 1, false, "", "tidegate/explain", 24⟩, ⟨ "ends", 4, 2, false, "", "tidegate/explain", 25⟩, ⟨ "best", 25, 3, false, "", "tidegate/explain", 32⟩]), 9, 80, [.nslice, .bool false, .bool false, .int .i64 0, .int .i64 0, .int .i64 0, .int .i64 0, .int .i64 0, .int .i64 0], true⟩
noncomputable def ty101 : TyI := ⟨.func #[82, 3, 50] #[100] false, 1, 8, [.nfunc], false⟩
noncomputable def ty102 : TyI := ⟨.func #[9, 9] #[4] false, 1, 8, [.nfunc], false⟩
noncomputable def ty103 : TyI := ⟨.func #[73, 70] #[3] false, 1, 8, [.nfunc], false⟩
noncomputable def ty104 : TyI := ⟨.func #[2, 3] #[9] false, 1, 8, [.nfunc], false⟩
noncomputable def ty106 : TyI := ⟨.func #[46] #[88, 29] false, 1, 8, [.nfunc], false⟩
noncomputable def ty107 : TyI := ⟨.func #[52] #[29] false, 1, 8, [.nfunc], false⟩
noncomputable def ty108 : TyI := ⟨.func #[3, 3] #[4] false, 1, 8, [.nfunc], false⟩
noncomputable def ty109 : TyI := ⟨.func #[23, 23] #[3] false, 1, 8, [.nfunc], false⟩
noncomputable def ty110 : TyI := ⟨.slice 210, 1, 24, [.nslice], false⟩
noncomputable def ty111 : TyI := ⟨(.struct #[⟨ "State", 3, 0, false, "", "", 0⟩, ⟨ "Bindings", 56, 1, false, "", "", 8⟩, ⟨ "Starts", 110, 2, false, "", "", 32⟩]), 3, 56, [.int .i64 0, .nslice, .nslice], true⟩
noncomputable def ty112 : TyI := ⟨(.struct #[⟨ "State", 3, 0, false, "", "", 0⟩, ⟨ "Bindings", 56, 1, false, "", "", 8⟩, ⟨ "Starts", 110, 2, false, "", "", 32⟩]), 3, 56, [.int .i64 0, .nslice, .nslice], true⟩
noncomputable def ty113 : TyI := ⟨.func #[] #[112] false, 1, 8, [.nfunc], false⟩
noncomputable def ty115 : TyI := ⟨.func #[82, 50] #[82, 25] false, 1, 8, [.nfunc], false⟩
noncomputable def ty116 : TyI := ⟨.pointer 152, 1, 8, [.nptr], false⟩
noncomputable def ty118 : TyI := ⟨.func #[88, 52] #[116, 29] false, 1, 8, [.nfunc], false⟩
noncomputable def ty120 : TyI := ⟨.func #[82, 50] #[82, 61] false, 1, 8, [.nfunc], false⟩
noncomputable def ty121 : TyI := ⟨.func #[61, 122] #[61] false, 1, 8, [.nfunc], false⟩
noncomputable def ty122 : TyI := ⟨.func #[58, 58] #[3] false, 1, 8, [.nfunc], false⟩
noncomputable def ty123 : TyI := ⟨.func #[61, 94] #[3] false, 1, 8, [.nfunc], false⟩
noncomputable def ty124 : TyI := ⟨.func #[56, 93] #[3] false, 1, 8, [.nfunc], false⟩
noncomputable def ty125 : TyI := ⟨.func #[163] #[] false, 1, 8, [.nfunc], false⟩
noncomputable def ty126 : TyI := ⟨.func #[163] #[] false, 1, 8, [.nfunc], false⟩
noncomputable def ty127 : TyI := ⟨.func #[82, 3, 50] #[126] false, 1, 8, [.nfunc], false⟩
noncomputable def ty128 : TyI := ⟨(.struct #[⟨ "next", 112, 0, false, "", "tidegate/explain", 0⟩, ⟨ "reason", 25, 3, false, "", "tidegate/explain", 56⟩]), 9, 104, [.int .i64 0, .nslice, .nslice, .int .i64 0, .int .i64 0, .int .i64 0, .int .i64 0, .int .i64 0, .int .i64 0], true⟩
noncomputable def ty129 : TyI := ⟨(.struct #[⟨ "next", 112, 0, false, "", "tidegate/explain", 0⟩, ⟨ "reason", 25, 3, false, "", "tidegate/explain", 56⟩]), 9, 104, [.int .i64 0, .nslice, .nslice, .int .i64 0, .int .i64 0, .int .i64 0, .int .i64 0, .int .i64 0, .int .i64 0], true⟩
noncomputable def ty131 : TyI := ⟨.func #[82] #[82, 29] false, 1, 8, [.nfunc], false⟩
noncomputable def ty132 : TyI := ⟨.func #[9, 9] #[3] false, 1, 8, [.nfunc], false⟩
noncomputable def ty133 : TyI := ⟨.array 24 5, 24, 24, [.int .u8 0, .int .u8 0, .int .u8 0, .int .u8 0, .int .u8 0, .int .u8 0, .int .u8 0, .int .u8 0, .int .u8 0, .int .u8 0, .int .u8 0, .int .u8 0, .int .u8 0, .int .u8 0, .int .u8 0, .int .u8 0, .int .u8 0, .int .u8 0, .int .u8 0, .int .u8 0, .int .u8 0, .int .u8 0, .int .u8 0, .int .u8 0], true⟩
noncomputable def ty134 : TyI := ⟨.int .u64, 1, 8, [.int .u64 0], false⟩
noncomputable def ty135 : TyI := ⟨.func #[134] #[3] false, 1, 8, [.nfunc], false⟩
noncomputable def ty136 : TyI := ⟨.func #[73, 134] #[] false, 1, 8, [.nfunc], false⟩
noncomputable def ty138 : TyI := ⟨.func #[73, 134, 3, 4, 4] #[73, 9] false, 1, 8, [.nfunc], false⟩
noncomputable def ty140 : TyI := ⟨.func #[46] #[88, 39, 29] false, 1, 8, [.nfunc], false⟩
noncomputable def ty141 : TyI := ⟨.map 144 4, 1, 8, [.nmap], false⟩
noncomputable def ty142 : TyI := ⟨.func #[50, 50] #[3] false, 1, 8, [.nfunc], false⟩
noncomputable def ty143 : TyI := ⟨(.struct #[⟨ "source", 3, 0, false, "", "tidegate/stream", 0⟩, ⟨ "seq", 3, 1, false, "", "tidegate/stream", 8⟩]), 2, 16, [.int .i64 0, .int .i64 0], true⟩
noncomputable def ty144 : TyI := ⟨(.struct #[⟨ "source", 3, 0, false, "", "tidegate/stream", 0⟩, ⟨ "seq", 3, 1, false, "", "tidegate/stream", 8⟩]), 2, 16, [.int .i64 0, .int .i64 0], true⟩
noncomputable def ty145 : TyI := ⟨.func #[50] #[144] false, 1, 8, [.nfunc], false⟩
noncomputable def ty146 : TyI := ⟨.func #[65] #[3] true, 1, 8, [.nfunc], false⟩
noncomputable def ty147 : TyI := ⟨.func #[3, 3] #[3] false, 1, 8, [.nfunc], false⟩
noncomputable def ty148 : TyI := ⟨.func #[112, 65, 50] #[25] false, 1, 8, [.nfunc], false⟩
noncomputable def ty149 : TyI := ⟨.func #[88] #[29] false, 1, 8, [.nfunc], false⟩
noncomputable def ty150 : TyI := ⟨.map 23 50, 1, 8, [.nmap], false⟩
noncomputable def ty151 : TyI := ⟨(.struct #[⟨ "a", 88, 0, false, "", "tidegate/run", 0⟩, ⟨ "held", 150, 4, false, "", "tidegate/run", 64⟩]), 5, 72, [.int .i64 0, .int .i64 0, .nslice, .nslice, .nmap], true⟩
noncomputable def ty152 : TyI := ⟨(.struct #[⟨ "a", 88, 0, false, "", "tidegate/run", 0⟩, ⟨ "held", 150, 4, false, "", "tidegate/run", 64⟩]), 5, 72, [.int .i64 0, .int .i64 0, .nslice, .nslice, .nmap], true⟩
noncomputable def ty153 : TyI := ⟨.func #[199] #[] false, 1, 8, [.nfunc], false⟩
noncomputable def ty154 : TyI := ⟨.func #[199] #[] false, 1, 8, [.nfunc], false⟩
noncomputable def ty155 : TyI := ⟨.func #[112, 50] #[154] false, 1, 8, [.nfunc], false⟩
noncomputable def ty156 : TyI := ⟨.func #[82, 157] #[82] false, 1, 8, [.nfunc], false⟩
noncomputable def ty157 : TyI := ⟨.func #[112, 112] #[3] false, 1, 8, [.nfunc], false⟩
noncomputable def ty158 : TyI := ⟨.func #[61, 122] #[] false, 1, 8, [.nfunc], false⟩
noncomputable def ty159 : TyI := ⟨.func #[61, 160] #[61] false, 1, 8, [.nfunc], false⟩
noncomputable def ty160 : TyI := ⟨.func #[58, 58] #[4] false, 1, 8, [.nfunc], false⟩
noncomputable def ty161 : TyI := ⟨.func #[56, 56, 162] #[3] false, 1, 8, [.nfunc], false⟩
noncomputable def ty162 : TyI := ⟨.func #[55, 55] #[3] false, 1, 8, [.nfunc], false⟩
noncomputable def ty163 : TyI := ⟨.func #[129] #[4] false, 1, 8, [.nfunc], false⟩
noncomputable def ty164 : TyI := ⟨.slice 217, 1, 24, [.nslice], false⟩
noncomputable def ty165 : TyI := ⟨(.struct #[⟨ "From", 3, 0, false, "", "", 0⟩, ⟨ "To", 3, 1, false, "", "", 8⟩, ⟨ "Var", 3, 2, false, "", "", 16⟩, ⟨ "Type", 3, 3, false, "", "", 24⟩, ⟨ "Cond", 44, 4, false, "", "", 32⟩, ⟨ "Opens", 65, 12, false, "", "", 120⟩, ⟨ "Closes", 65, 13, false, "", "", 144⟩, ⟨ "Checks", 40, 14, false, "", "", 168⟩, ⟨ "Limits", 164, 15, false, "", "", 192⟩, ⟨ "Inside", 65, 16, false, "", "", 216⟩]), 17, 240, [.int .i64 0, .int .i64 0, .int .i64 0, .int .i64 0, .int .i64 0, .nslice, .int .i64 0, .int .i64 0, .int .i64 0, .int .i64 0, .int .i64 0, .str ⟨#[]⟩, .nslice, .nslice, .nslice, .nslice, .nslice], true⟩
noncomputable def ty166 : TyI := ⟨(.struct #[⟨ "From", 3, 0, false, "", "", 0⟩, ⟨ "To", 3, 1, false, "", "", 8⟩, ⟨ "Var", 3, 2, false, "", "", 16⟩, ⟨ "Type", 3, 3, false, "", "", 24⟩, ⟨ "Cond", 44, 4, false, "", "", 32⟩, ⟨ "Opens", 65, 12, false, "", "", 120⟩, ⟨ "Closes", 65, 13, false, "", "", 144⟩, ⟨ "Checks", 40, 14, false, "", "", 168⟩, ⟨ "Limits", 164, 15, false, "", "", 192⟩, ⟨ "Inside", 65, 16, false, "", "", 216⟩]), 17, 240, [.int .i64 0, .int .i64 0, .int .i64 0, .int .i64 0, .int .i64 0, .nslice, .int .i64 0, .int .i64 0, .int .i64 0, .int .i64 0, .int .i64 0, .str ⟨#[]⟩, .nslice, .nslice, .nslice, .nslice, .nslice], true⟩
noncomputable def ty167 : TyI := ⟨.func #[112, 166, 50] #[129] false, 1, 8, [.nfunc], false⟩
noncomputable def ty168 : TyI := ⟨.func #[82] #[82] false, 1, 8, [.nfunc], false⟩
noncomputable def ty169 : TyI := ⟨.func #[3] #[3] false, 1, 8, [.nfunc], false⟩
noncomputable def ty170 : TyI := ⟨.func #[4] #[3] false, 1, 8, [.nfunc], false⟩
noncomputable def ty171 : TyI := ⟨.array 20 134, 20, 160, [.int .u64 0, .int .u64 0, .int .u64 0, .int .u64 0, .int .u64 0, .int .u64 0, .int .u64 0, .int .u64 0, .int .u64 0, .int .u64 0, .int .u64 0, .int .u64 0, .int .u64 0, .int .u64 0, .int .u64 0, .int .u64 0, .int .u64 0, .int .u64 0, .int .u64 0, .int .u64 0], true⟩
noncomputable def ty172 : TyI := ⟨.int .u32, 1, 4, [.int .u32 0], false⟩
noncomputable def ty173 : TyI := ⟨.array 65 5, 65, 65, [.int .u8 0, .int .u8 0, .int .u8 0, .int .u8 0, .int .u8 0, .int .u8 0, .int .u8 0, .int .u8 0, .int .u8 0, .int .u8 0, .int .u8 0, .int .u8 0, .int .u8 0, .int .u8 0, .int .u8 0, .int .u8 0, .int .u8 0, .int .u8 0, .int .u8 0, .int .u8 0, .int .u8 0, .int .u8 0, .int .u8 0, .int .u8 0, .int .u8 0, .int .u8 0, .int .u8 0, .int .u8 0, .int .u8 0, .int .u8 0, .int .u8 0, .int .u8 0, .int .u8 0, .int .u8 0, .int .u8 0, .int .u8 0, .int .u8 0, .int .u8 0, .int .u8 0, .int .u8 0, .int .u8 0, .int .u8 0, .int .u8 0, .int .u8 0, .int .u8 0, .int .u8 0, .int .u8 0, .int .u8 0, .int .u8 0, .int .u8 0, .int .u8 0, .int .u8 0, .int .u8 0, .int .u8 0, .int .u8 0, .int .u8 0, .int .u8 0, .int .u8 0, .int .u8 0, .int .u8 0, .int .u8 0, .int .u8 0, .int .u8 0, .int .u8 0, .int .u8 0], true⟩
noncomputable def ty174 : TyI := ⟨.func #[3] #[4] false, 1, 8, [.nfunc], false⟩
noncomputable def ty175 : TyI := ⟨.int .u64, 1, 8, [.int .u64 0], false⟩
noncomputable def ty176 : TyI := ⟨.func #[175] #[3] false, 1, 8, [.nfunc], false⟩
noncomputable def ty178 : TyI := ⟨.func #[46] #[39, 29] false, 1, 8, [.nfunc], false⟩
noncomputable def ty180 : TyI := ⟨.func #[46] #[3, 3, 29] false, 1, 8, [.nfunc], false⟩
noncomputable def ty181 : TyI := ⟨.func #[233] #[] false, 1, 8, [.nfunc], false⟩
noncomputable def ty182 : TyI := ⟨.func #[233] #[] false, 1, 8, [.nfunc], false⟩
noncomputable def ty183 : TyI := ⟨.func #[39] #[182] false, 1, 8, [.nfunc], false⟩
noncomputable def ty184 : TyI := ⟨.slice 194, 1, 24, [.nslice], false⟩
noncomputable def ty186 : TyI := ⟨.func #[46] #[184, 29] false, 1, 8, [.nfunc], false⟩
noncomputable def ty187 : TyI := ⟨(.struct #[⟨ "Guards", 184, 0, false, "", "", 0⟩]), 1, 24, [.nslice], true⟩
noncomputable def ty188 : TyI := ⟨(.struct #[⟨ "Guards", 184, 0, false, "", "", 0⟩]), 1, 24, [.nslice], true⟩
noncomputable def ty189 : TyI := ⟨.slice 52, 1, 24, [.nslice], false⟩
noncomputable def ty190 : TyI := ⟨(.struct #[⟨ "Vars", 189, 0, false, "", "", 0⟩]), 1, 24, [.nslice], true⟩
noncomputable def ty191 : TyI := ⟨(.struct #[⟨ "Vars", 189, 0, false, "", "", 0⟩]), 1, 24, [.nslice], true⟩
noncomputable def ty192 : TyI := ⟨.func #[56] #[191] false, 1, 8, [.nfunc], false⟩
noncomputable def ty193 : TyI := ⟨(.struct #[⟨ "Scope", 3, 0, false, "", "", 0⟩, ⟨ "Type", 3, 1, false, "", "", 8⟩, ⟨ "Var", 3, 2, false, "", "", 16⟩, ⟨ "Cond", 44, 3, false, "", "", 24⟩]), 11, 112, [.int .i64 0, .int .i64 0, .int .i64 0, .int .i64 0, .nslice, .int .i64 0, .int .i64 0, .int .i64 0, .int .i64 0, .int .i64 0, .str ⟨#[]⟩], true⟩
noncomputable def ty194 : TyI := ⟨(.struct #[⟨ "Scope", 3, 0, false, "", "", 0⟩, ⟨ "Type", 3, 1, false, "", "", 8⟩, ⟨ "Var", 3, 2, false, "", "", 16⟩, ⟨ "Cond", 44, 3, false, "", "", 24⟩]), 11, 112, [.int .i64 0, .int .i64 0, .int .i64 0, .int .i64 0, .nslice, .int .i64 0, .int .i64 0, .int .i64 0, .int .i64 0, .int .i64 0, .str ⟨#[]⟩], true⟩
noncomputable def ty195 : TyI := ⟨.func #[65, 3] #[4] false, 1, 8, [.nfunc], false⟩
noncomputable def ty196 : TyI := ⟨.func #[44, 191, 3, 50] #[4] false, 1, 8, [.nfunc], false⟩
noncomputable def ty197 : TyI := ⟨.func #[88, 184] #[29] false, 1, 8, [.nfunc], false⟩
noncomputable def ty198 : TyI := ⟨.func #[88, 166, 3] #[29] false, 1, 8, [.nfunc], false⟩
noncomputable def ty199 : TyI := ⟨.func #[112] #[4] false, 1, 8, [.nfunc], false⟩
noncomputable def ty200 : TyI := ⟨.func #[184, 202] #[4] false, 1, 8, [.nfunc], false⟩
noncomputable def ty201 : TyI := ⟨.func #[194, 191, 50] #[4] false, 1, 8, [.nfunc], false⟩
noncomputable def ty202 : TyI := ⟨.func #[194] #[4] false, 1, 8, [.nfunc], false⟩
noncomputable def ty204 : TyI := ⟨.func #[112, 166, 191, 50] #[112, 4] false, 1, 8, [.nfunc], false⟩
noncomputable def ty205 : TyI := ⟨.func #[82, 157] #[] false, 1, 8, [.nfunc], false⟩
noncomputable def ty206 : TyI := ⟨.func #[82, 207] #[82] false, 1, 8, [.nfunc], false⟩
noncomputable def ty207 : TyI := ⟨.func #[112, 112] #[4] false, 1, 8, [.nfunc], false⟩
noncomputable def ty208 : TyI := ⟨.func #[110, 110, 211] #[3] false, 1, 8, [.nfunc], false⟩
noncomputable def ty209 : TyI := ⟨(.struct #[⟨ "Scope", 3, 0, false, "", "", 0⟩, ⟨ "Time", 3, 1, false, "", "", 8⟩]), 2, 16, [.int .i64 0, .int .i64 0], true⟩
noncomputable def ty210 : TyI := ⟨(.struct #[⟨ "Scope", 3, 0, false, "", "", 0⟩, ⟨ "Time", 3, 1, false, "", "", 8⟩]), 2, 16, [.int .i64 0, .int .i64 0], true⟩
noncomputable def ty211 : TyI := ⟨.func #[210, 210] #[3] false, 1, 8, [.nfunc], false⟩
noncomputable def ty212 : TyI := ⟨.func #[61, 3, 3, 3, 122] #[] false, 1, 8, [.nfunc], false⟩
noncomputable def ty213 : TyI := ⟨.func #[112, 65, 3] #[110] false, 1, 8, [.nfunc], false⟩
noncomputable def ty214 : TyI := ⟨.func #[56] #[56] false, 1, 8, [.nfunc], false⟩
noncomputable def ty215 : TyI := ⟨.func #[] #[3, 3] false, 1, 8, [.nfunc], false⟩
noncomputable def ty216 : TyI := ⟨(.struct #[⟨ "Scope", 3, 0, false, "", "", 0⟩, ⟨ "Span", 3, 1, false, "", "", 8⟩]), 2, 16, [.int .i64 0, .int .i64 0], true⟩
noncomputable def ty217 : TyI := ⟨(.struct #[⟨ "Scope", 3, 0, false, "", "", 0⟩, ⟨ "Span", 3, 1, false, "", "", 8⟩]), 2, 16, [.int .i64 0, .int .i64 0], true⟩
noncomputable def ty218 : TyI := ⟨.func #[110, 219] #[3] false, 1, 8, [.nfunc], false⟩
noncomputable def ty219 : TyI := ⟨.func #[210] #[4] false, 1, 8, [.nfunc], false⟩
noncomputable def ty220 : TyI := ⟨.func #[40, 221] #[4] false, 1, 8, [.nfunc], false⟩
noncomputable def ty221 : TyI := ⟨.func #[44] #[4] false, 1, 8, [.nfunc], false⟩
noncomputable def ty222 : TyI := ⟨.slice 215, 1, 24, [.nslice], false⟩
noncomputable def ty224 : TyI := ⟨.func #[110, 219] #[110] false, 1, 8, [.nfunc], false⟩
noncomputable def ty225 : TyI := ⟨.func #[9, 5] #[3] false, 1, 8, [.nfunc], false⟩
noncomputable def ty226 : TyI := ⟨.func #[172] #[3] false, 1, 8, [.nfunc], false⟩
noncomputable def ty227 : TyI := ⟨.func #[46] #[29] false, 1, 8, [.nfunc], false⟩
noncomputable def ty229 : TyI := ⟨.func #[46] #[86, 39, 29] false, 1, 8, [.nfunc], false⟩
noncomputable def ty230 : TyI := ⟨.func #[39, 46] #[3] false, 1, 8, [.nfunc], false⟩
noncomputable def ty232 : TyI := ⟨.func #[46] #[3, 3, 4] false, 1, 8, [.nfunc], false⟩
noncomputable def ty233 : TyI := ⟨.func #[3, 86] #[4] false, 1, 8, [.nfunc], false⟩
noncomputable def ty234 : TyI := ⟨.pointer 166, 1, 8, [.nptr], false⟩
noncomputable def ty235 : TyI := ⟨.func #[46] #[184] false, 1, 8, [.nfunc], false⟩
noncomputable def ty236 : TyI := ⟨.func #[65, 3] #[3] false, 1, 8, [.nfunc], false⟩
noncomputable def ty238 : TyI := ⟨.func #[44, 191, 3, 50] #[42, 29] false, 1, 8, [.nfunc], false⟩
noncomputable def ty239 : TyI := ⟨.func #[44] #[29] false, 1, 8, [.nfunc], false⟩
noncomputable def ty240 : TyI := ⟨.func #[88, 292] #[29] true, 1, 8, [.nfunc], false⟩
noncomputable def ty241 : TyI := ⟨.func #[164] #[65] false, 1, 8, [.nfunc], false⟩
noncomputable def ty242 : TyI := ⟨.func #[164, 243] #[4] false, 1, 8, [.nfunc], false⟩
noncomputable def ty243 : TyI := ⟨.func #[217] #[4] false, 1, 8, [.nfunc], false⟩
noncomputable def ty244 : TyI := ⟨.func #[184, 202] #[3] false, 1, 8, [.nfunc], false⟩
noncomputable def ty245 : TyI := ⟨.func #[110, 65, 3] #[110] false, 1, 8, [.nfunc], false⟩
noncomputable def ty246 : TyI := ⟨.func #[110, 164, 3] #[4] false, 1, 8, [.nfunc], false⟩
noncomputable def ty247 : TyI := ⟨.func #[189] #[189] false, 1, 8, [.nfunc], false⟩
noncomputable def ty248 : TyI := ⟨.func #[52] #[52] false, 1, 8, [.nfunc], false⟩
noncomputable def ty249 : TyI := ⟨.func #[82, 3, 3, 3, 157] #[] false, 1, 8, [.nfunc], false⟩
noncomputable def ty250 : TyI := ⟨.func #[61, 3, 3, 122] #[] false, 1, 8, [.nfunc], false⟩
noncomputable def ty251 : TyI := ⟨.int .i64, 1, 8, [.int .i64 0], false⟩
noncomputable def ty253 : TyI := ⟨.func #[61, 3, 3, 122] #[3, 251] false, 1, 8, [.nfunc], false⟩
noncomputable def ty254 : TyI := ⟨.func #[61, 3, 3, 122] #[4] false, 1, 8, [.nfunc], false⟩
noncomputable def ty255 : TyI := ⟨.func #[61, 3, 3, 3, 122] #[3] false, 1, 8, [.nfunc], false⟩
noncomputable def ty257 : TyI := ⟨.func #[61, 3, 3, 3, 122] #[3, 4] false, 1, 8, [.nfunc], false⟩
noncomputable def ty258 : TyI := ⟨.func #[110] #[110] false, 1, 8, [.nfunc], false⟩
noncomputable def ty259 : TyI := ⟨.func #[110, 3, 260] #[3, 4] false, 1, 8, [.nfunc], false⟩
noncomputable def ty260 : TyI := ⟨.func #[210, 3] #[3] false, 1, 8, [.nfunc], false⟩
noncomputable def ty261 : TyI := ⟨.func #[110, 3, 110] #[110] true, 1, 8, [.nfunc], false⟩
noncomputable def ty262 : TyI := ⟨.func #[40, 221] #[3] false, 1, 8, [.nfunc], false⟩
noncomputable def ty264 : TyI := ⟨.func #[9] #[172, 172] false, 1, 8, [.nfunc], false⟩
noncomputable def ty265 : TyI := ⟨.array 32 5, 32, 32, [.int .u8 0, .int .u8 0, .int .u8 0, .int .u8 0, .int .u8 0, .int .u8 0, .int .u8 0, .int .u8 0, .int .u8 0, .int .u8 0, .int .u8 0, .int .u8 0, .int .u8 0, .int .u8 0, .int .u8 0, .int .u8 0, .int .u8 0, .int .u8 0, .int .u8 0, .int .u8 0, .int .u8 0, .int .u8 0, .int .u8 0, .int .u8 0, .int .u8 0, .int .u8 0, .int .u8 0, .int .u8 0, .int .u8 0, .int .u8 0, .int .u8 0, .int .u8 0], true⟩
noncomputable def ty266 : TyI := ⟨.array 64 5, 64, 64, [.int .u8 0, .int .u8 0, .int .u8 0, .int .u8 0, .int .u8 0, .int .u8 0, .int .u8 0, .int .u8 0, .int .u8 0, .int .u8 0, .int .u8 0, .int .u8 0, .int .u8 0, .int .u8 0, .int .u8 0, .int .u8 0, .int .u8 0, .int .u8 0, .int .u8 0, .int .u8 0, .int .u8 0, .int .u8 0, .int .u8 0, .int .u8 0, .int .u8 0, .int .u8 0, .int .u8 0, .int .u8 0, .int .u8 0, .int .u8 0, .int .u8 0, .int .u8 0, .int .u8 0, .int .u8 0, .int .u8 0, .int .u8 0, .int .u8 0, .int .u8 0, .int .u8 0, .int .u8 0, .int .u8 0, .int .u8 0, .int .u8 0, .int .u8 0, .int .u8 0, .int .u8 0, .int .u8 0, .int .u8 0, .int .u8 0, .int .u8 0, .int .u8 0, .int .u8 0, .int .u8 0, .int .u8 0, .int .u8 0, .int .u8 0, .int .u8 0, .int .u8 0, .int .u8 0, .int .u8 0, .int .u8 0, .int .u8 0, .int .u8 0, .int .u8 0], true⟩
noncomputable def ty267 : TyI := ⟨.func #[307] #[] false, 1, 8, [.nfunc], false⟩
noncomputable def ty268 : TyI := ⟨.func #[307] #[] false, 1, 8, [.nfunc], false⟩
noncomputable def ty269 : TyI := ⟨.func #[46] #[268] false, 1, 8, [.nfunc], false⟩
noncomputable def ty270 : TyI := ⟨(.struct #[⟨ "done", 4, 0, false, "", "tidegate/derivative", 0⟩, ⟨ "p", 46, 1, false, "", "tidegate/derivative", 8⟩]), 15, 160, [.bool false, .int .i64 0, .nslice, .int .i64 0, .int .i64 0, .int .i64 0, .int .i64 0, .int .i64 0, .nslice, .int .i64 0, .int .i64 0, .int .i64 0, .int .i64 0, .int .i64 0, .str ⟨#[]⟩], true⟩
noncomputable def ty271 : TyI := ⟨(.struct #[⟨ "done", 4, 0, false, "", "tidegate/derivative", 0⟩, ⟨ "p", 46, 1, false, "", "tidegate/derivative", 8⟩]), 15, 160, [.bool false, .int .i64 0, .nslice, .int .i64 0, .int .i64 0, .int .i64 0, .int .i64 0, .int .i64 0, .nslice, .int .i64 0, .int .i64 0, .int .i64 0, .int .i64 0, .int .i64 0, .str ⟨#[]⟩], true⟩
noncomputable def ty272 : TyI := ⟨.func #[86, 274] #[4] false, 1, 8, [.nfunc], false⟩
noncomputable def ty273 : TyI := ⟨.func #[166, 166] #[4] false, 1, 8, [.nfunc], false⟩
noncomputable def ty274 : TyI := ⟨.func #[166] #[4] false, 1, 8, [.nfunc], false⟩
noncomputable def ty275 : TyI := ⟨.func #[39, 277] #[3] false, 1, 8, [.nfunc], false⟩
noncomputable def ty276 : TyI := ⟨.func #[46, 46] #[4] false, 1, 8, [.nfunc], false⟩
noncomputable def ty277 : TyI := ⟨.func #[46] #[4] false, 1, 8, [.nfunc], false⟩
noncomputable def ty278 : TyI := ⟨.func #[277] #[] false, 1, 8, [.nfunc], false⟩
noncomputable def ty279 : TyI := ⟨.func #[277] #[] false, 1, 8, [.nfunc], false⟩
noncomputable def ty280 : TyI := ⟨.func #[46] #[279] false, 1, 8, [.nfunc], false⟩
noncomputable def ty281 : TyI := ⟨(.struct #[⟨ "least", 3, 0, false, "", "tidegate/pattern", 0⟩, ⟨ "most", 3, 1, false, "", "tidegate/pattern", 8⟩, ⟨ "typed", 4, 2, false, "", "tidegate/pattern", 16⟩, ⟨ "cond", 4, 3, false, "", "tidegate/pattern", 17⟩, ⟨ "scope", 4, 4, false, "", "tidegate/pattern", 18⟩, ⟨ "span", 4, 5, false, "", "tidegate/pattern", 19⟩]), 6, 24, [.int .i64 0, .int .i64 0, .bool false, .bool false, .bool false, .bool false], true⟩
noncomputable def ty282 : TyI := ⟨(.struct #[⟨ "least", 3, 0, false, "", "tidegate/pattern", 0⟩, ⟨ "most", 3, 1, false, "", "tidegate/pattern", 8⟩, ⟨ "typed", 4, 2, false, "", "tidegate/pattern", 16⟩, ⟨ "cond", 4, 3, false, "", "tidegate/pattern", 17⟩, ⟨ "scope", 4, 4, false, "", "tidegate/pattern", 18⟩, ⟨ "span", 4, 5, false, "", "tidegate/pattern", 19⟩]), 6, 24, [.int .i64 0, .int .i64 0, .bool false, .bool false, .bool false, .bool false], true⟩
noncomputable def ty283 : TyI := ⟨.array 11 282, 66, 264, [.int .i64 0, .int .i64 0, .bool false, .bool false, .bool false, .bool false, .int .i64 0, .int .i64 0, .bool false, .bool false, .bool false, .bool false, .int .i64 0, .int .i64 0, .bool false, .bool false, .bool false, .bool false, .int .i64 0, .int .i64 0, .bool false, .bool false, .bool false, .bool false, .int .i64 0, .int .i64 0, .bool false, .bool false, .bool false, .bool false, .int .i64 0, .int .i64 0, .bool false, .bool false, .bool false, .bool false, .int .i64 0, .int .i64 0, .bool false, .bool false, .bool false, .bool false, .int .i64 0, .int .i64 0, .bool false, .bool false, .bool false, .bool false, .int .i64 0, .int .i64 0, .bool false, .bool false, .bool false, .bool false, .int .i64 0, .int .i64 0, .bool false, .bool false, .bool false, .bool false, .int .i64 0, .int .i64 0, .bool false, .bool false, .bool false, .bool false], true⟩
noncomputable def ty284 : TyI := ⟨.func #[46] #[3, 3] false, 1, 8, [.nfunc], false⟩
noncomputable def ty285 : TyI := ⟨.map 3 318, 1, 8, [.nmap], false⟩
noncomputable def ty286 : TyI := ⟨.func #[] #[285] false, 1, 8, [.nfunc], false⟩
noncomputable def ty287 : TyI := ⟨(.struct #[⟨ "env", 191, 0, false, "", "tidegate/expr", 0⟩, ⟨ "own", 3, 1, false, "", "tidegate/expr", 24⟩, ⟨ "event", 50, 2, false, "", "tidegate/expr", 32⟩, ⟨ "apply", 285, 7, false, "", "tidegate/expr", 88⟩]), 8, 96, [.nslice, .int .i64 0, .int .i64 0, .int .i64 0, .int .i64 0, .int .i64 0, .nslice, .nmap], true⟩
noncomputable def ty288 : TyI := ⟨(.struct #[⟨ "env", 191, 0, false, "", "tidegate/expr", 0⟩, ⟨ "own", 3, 1, false, "", "tidegate/expr", 24⟩, ⟨ "event", 50, 2, false, "", "tidegate/expr", 32⟩, ⟨ "apply", 285, 7, false, "", "tidegate/expr", 88⟩]), 8, 96, [.nslice, .int .i64 0, .int .i64 0, .int .i64 0, .int .i64 0, .int .i64 0, .nslice, .nmap], true⟩
noncomputable def ty289 : TyI := ⟨.func #[44] #[42, 29] false, 1, 8, [.nfunc], false⟩
noncomputable def ty290 : TyI := ⟨.func #[44] #[3, 3] false, 1, 8, [.nfunc], false⟩
noncomputable def ty291 : TyI := ⟨.func #[44, 239] #[29] false, 1, 8, [.nfunc], false⟩
noncomputable def ty292 : TyI := ⟨.slice 65, 1, 24, [.nslice], false⟩
noncomputable def ty293 : TyI := ⟨.func #[164, 243] #[3] false, 1, 8, [.nfunc], false⟩
noncomputable def ty294 : TyI := ⟨.func #[82, 3, 3, 157] #[] false, 1, 8, [.nfunc], false⟩
noncomputable def ty295 : TyI := ⟨.func #[82, 3, 3, 157] #[3, 251] false, 1, 8, [.nfunc], false⟩
noncomputable def ty296 : TyI := ⟨.func #[82, 3, 3, 157] #[4] false, 1, 8, [.nfunc], false⟩
noncomputable def ty297 : TyI := ⟨.func #[82, 3, 3, 3, 157] #[3] false, 1, 8, [.nfunc], false⟩
noncomputable def ty298 : TyI := ⟨.func #[82, 3, 3, 3, 157] #[3, 4] false, 1, 8, [.nfunc], false⟩
noncomputable def ty299 : TyI := ⟨.int .u64, 1, 8, [.int .u64 0], false⟩
noncomputable def ty300 : TyI := ⟨.func #[3] #[175] false, 1, 8, [.nfunc], false⟩
noncomputable def ty301 : TyI := ⟨.func #[] #[134] false, 1, 8, [.nfunc], false⟩
noncomputable def ty302 : TyI := ⟨.func #[61, 3, 303, 122] #[3] false, 1, 8, [.nfunc], false⟩
noncomputable def ty303 : TyI := ⟨.pointer 3, 1, 8, [.nptr], false⟩
noncomputable def ty304 : TyI := ⟨.func #[61, 3, 3, 3, 303, 122] #[3] false, 1, 8, [.nfunc], false⟩
noncomputable def ty305 : TyI := ⟨.func #[110, 110] #[4] false, 1, 8, [.nfunc], false⟩
noncomputable def ty306 : TyI := ⟨.func #[110, 3] #[] false, 1, 8, [.nfunc], false⟩
noncomputable def ty307 : TyI := ⟨.func #[166, 271] #[4] false, 1, 8, [.nfunc], false⟩
noncomputable def ty308 : TyI := ⟨.func #[46, 46] #[268] false, 1, 8, [.nfunc], false⟩
noncomputable def ty309 : TyI := ⟨.func #[86, 274] #[3] false, 1, 8, [.nfunc], false⟩
noncomputable def ty310 : TyI := ⟨.func #[44, 44] #[4] false, 1, 8, [.nfunc], false⟩
noncomputable def ty311 : TyI := ⟨.func #[40, 40, 310] #[4] false, 1, 8, [.nfunc], false⟩
noncomputable def ty312 : TyI := ⟨.func #[164, 164] #[4] false, 1, 8, [.nfunc], false⟩
noncomputable def ty313 : TyI := ⟨.func #[39, 39, 276] #[4] false, 1, 8, [.nfunc], false⟩
noncomputable def ty314 : TyI := ⟨.func #[46, 277] #[4] false, 1, 8, [.nfunc], false⟩
noncomputable def ty315 : TyI := ⟨.func #[4, 3, 3] #[4] false, 1, 8, [.nfunc], false⟩
noncomputable def ty316 : TyI := ⟨.func #[4, 3] #[4] false, 1, 8, [.nfunc], false⟩
noncomputable def ty317 : TyI := ⟨.func #[3] #[42] false, 1, 8, [.nfunc], false⟩
noncomputable def ty318 : TyI := ⟨.func #[3, 3] #[42] false, 1, 8, [.nfunc], false⟩
noncomputable def ty319 : TyI := ⟨.func #[3, 65] #[29] false, 1, 8, [.nfunc], false⟩
noncomputable def ty320 : TyI := ⟨.func #[3] #[3, 4] false, 1, 8, [.nfunc], false⟩
noncomputable def ty322 : TyI := ⟨.func #[3] #[4, 4] false, 1, 8, [.nfunc], false⟩
noncomputable def ty323 : TyI := ⟨.func #[82, 3, 303, 157] #[3] false, 1, 8, [.nfunc], false⟩
noncomputable def ty324 : TyI := ⟨.func #[82, 3, 3, 3, 303, 157] #[3] false, 1, 8, [.nfunc], false⟩
noncomputable def ty325 : TyI := ⟨.pointer 299, 1, 8, [.nptr], false⟩
noncomputable def ty326 : TyI := ⟨.func #[61, 3, 3, 303, 122] #[3, 3] false, 1, 8, [.nfunc], false⟩
noncomputable def ty327 : TyI := ⟨.func #[271, 39] #[271] false, 1, 8, [.nfunc], false⟩
noncomputable def ty328 : TyI := ⟨.func #[39, 3, 271] #[271] false, 1, 8, [.nfunc], false⟩
noncomputable def ty329 : TyI := ⟨.func #[342] #[40] true, 1, 8, [.nfunc], false⟩
noncomputable def ty330 : TyI := ⟨.func #[46, 166, 4, 4] #[166] false, 1, 8, [.nfunc], false⟩
noncomputable def ty331 : TyI := ⟨.func #[46, 3, 46] #[46] false, 1, 8, [.nfunc], false⟩
noncomputable def ty332 : TyI := ⟨.func #[3] #[52] false, 1, 8, [.nfunc], false⟩
noncomputable def ty333 : TyI := ⟨.func #[50, 3] #[42, 29] false, 1, 8, [.nfunc], false⟩
noncomputable def ty334 : TyI := ⟨.func #[42] #[29] false, 1, 8, [.nfunc], false⟩
noncomputable def ty335 : TyI := ⟨.func #[3, 42] #[4] false, 1, 8, [.nfunc], false⟩
noncomputable def ty336 : TyI := ⟨.func #[82, 3, 3, 303, 157] #[3, 3] false, 1, 8, [.nfunc], false⟩
noncomputable def ty337 : TyI := ⟨.func #[110] #[] false, 1, 8, [.nfunc], false⟩
noncomputable def ty338 : TyI := ⟨.func #[39] #[39] false, 1, 8, [.nfunc], false⟩
noncomputable def ty339 : TyI := ⟨.func #[39, 3, 39] #[39] true, 1, 8, [.nfunc], false⟩
noncomputable def ty340 : TyI := ⟨.func #[3, 39] #[46] false, 1, 8, [.nfunc], false⟩
noncomputable def ty341 : TyI := ⟨.func #[39, 3, 3] #[39] false, 1, 8, [.nfunc], false⟩
noncomputable def ty342 : TyI := ⟨.slice 40, 1, 24, [.nslice], false⟩
noncomputable def ty343 : TyI := ⟨.func #[40, 3] #[40] false, 1, 8, [.nfunc], false⟩
noncomputable def ty344 : TyI := ⟨.func #[292] #[65] true, 1, 8, [.nfunc], false⟩
noncomputable def ty345 : TyI := ⟨.func #[350] #[164] true, 1, 8, [.nfunc], false⟩
noncomputable def ty346 : TyI := ⟨.func #[3, 48, 42] #[42, 29] false, 1, 8, [.nfunc], false⟩
noncomputable def ty347 : TyI := ⟨.func #[39, 39] #[4] false, 1, 8, [.nfunc], false⟩
noncomputable def ty348 : TyI := ⟨.func #[39, 3] #[] false, 1, 8, [.nfunc], false⟩
noncomputable def ty349 : TyI := ⟨.func #[65, 3] #[65] false, 1, 8, [.nfunc], false⟩
noncomputable def ty350 : TyI := ⟨.slice 164, 1, 24, [.nslice], false⟩
noncomputable def ty351 : TyI := ⟨.func #[164, 3] #[164] false, 1, 8, [.nfunc], false⟩
noncomputable def ty352 : TyI := ⟨.func #[3, 42] #[29] false, 1, 8, [.nfunc], false⟩
noncomputable def ty353 : TyI := ⟨(.struct #[⟨ "Kind", 3, 0, false, "", "", 0⟩, ⟨ "Count", 3, 1, false, "", "", 8⟩, ⟨ "Value", 42, 2, false, "", "", 16⟩]), 5, 48, [.int .i64 0, .int .i64 0, .int .i64 0, .int .i64 0, .str ⟨#[]⟩], true⟩
noncomputable def ty354 : TyI := ⟨(.struct #[⟨ "Kind", 3, 0, false, "", "", 0⟩, ⟨ "Count", 3, 1, false, "", "", 8⟩, ⟨ "Value", 42, 2, false, "", "", 16⟩]), 5, 48, [.int .i64 0, .int .i64 0, .int .i64 0, .int .i64 0, .str ⟨#[]⟩], true⟩
noncomputable def ty355 : TyI := ⟨.func #[354, 48, 358] #[354] false, 1, 8, [.nfunc], false⟩
noncomputable def ty356 : TyI := ⟨.func #[354, 354] #[354] false, 1, 8, [.nfunc], false⟩
noncomputable def ty357 : TyI := ⟨.func #[3, 42] #[42] false, 1, 8, [.nfunc], false⟩
noncomputable def ty358 : TyI := ⟨.func #[354, 42] #[354] false, 1, 8, [.nfunc], false⟩
noncomputable def ty359 : TyI := ⟨.func #[354, 42] #[42, 29] false, 1, 8, [.nfunc], false⟩
noncomputable def ty360 : TyI := ⟨.func #[3, 42, 42] #[42] false, 1, 8, [.nfunc], false⟩
noncomputable def ty361 : TyI := ⟨.func #[354] #[29] false, 1, 8, [.nfunc], false⟩
noncomputable def ty362 : TyI := ⟨.func #[39] #[] false, 1, 8, [.nfunc], false⟩
noncomputable def ty363 : TyI := ⟨.func #[] #[42] false, 1, 8, [.nfunc], false⟩
noncomputable def ty364 : TyI := ⟨.array 6 363, 6, 48, [.nfunc, .nfunc, .nfunc, .nfunc, .nfunc, .nfunc], true⟩
noncomputable def ty365 : TyI := ⟨.func #[] #[9] false, 1, 8, [.nfunc], false⟩
noncomputable def ty366 : TyI := ⟨(.struct #[⟨ "_interface", 17, 0, false, "", "runtime", 0⟩, ⟨ "concrete", 17, 1, false, "", "runtime", 8⟩, ⟨ "asserted", 17, 2, false, "", "runtime", 16⟩, ⟨ "missingMethod", 9, 3, false, "", "runtime", 24⟩]), 4, 40, [.nptr, .nptr, .nptr, .str ⟨#[]⟩], true⟩
noncomputable def ty367 : TyI := ⟨(.struct #[⟨ "_interface", 17, 0, false, "", "runtime", 0⟩, ⟨ "concrete", 17, 1, false, "", "runtime", 8⟩, ⟨ "asserted", 17, 2, false, "", "runtime", 16⟩, ⟨ "missingMethod", 9, 3, false, "", "runtime", 24⟩]), 4, 40, [.nptr, .nptr, .nptr, .str ⟨#[]⟩], true⟩
noncomputable def ty368 : TyI := ⟨.array 0 16, 0, 0, [], true⟩
noncomputable def ty369 : TyI := ⟨(.struct #[⟨ "_", 368, 0, false, "", "runtime", 0⟩]), 0, 0, [], true⟩
noncomputable def ty370 : TyI := ⟨(.struct #[⟨ "_", 368, 0, false, "", "runtime", 0⟩]), 0, 0, [], true⟩
noncomputable def ty371 : TyI := ⟨.func #[] #[3] false, 1, 8, [.nfunc], false⟩
noncomputable def ty372 : TyI := ⟨.int .u8, 1, 1, [.int .u8 0], false⟩
noncomputable def ty373 : TyI := ⟨.int .u8, 1, 1, [.int .u8 0], false⟩
noncomputable def ty374 : TyI := ⟨.func #[381, 381] #[4] false, 1, 8, [.nfunc], false⟩
noncomputable def ty375 : TyI := ⟨.pointer 5, 1, 8, [.nptr], false⟩
noncomputable def ty376 : TyI := ⟨.int .i32, 1, 4, [.int .i32 0], false⟩
noncomputable def ty377 : TyI := ⟨.int .i32, 1, 4, [.int .i32 0], false⟩
noncomputable def ty378 : TyI := ⟨(.struct #[⟨ "Size_", 12, 0, false, "", "", 0⟩, ⟨ "PtrBytes", 12, 1, false, "", "", 8⟩, ⟨ "Hash", 172, 2, false, "", "", 16⟩, ⟨ "TFlag", 372, 3, false, "", "", 20⟩, ⟨ "Align_", 5, 4, false, "", "", 21⟩, ⟨ "FieldAlign_", 5, 5, false, "", "", 22⟩, ⟨ "Kind_", 373, 6, false, "", "", 23⟩, ⟨ "Equal", 374, 7, false, "", "", 24⟩, ⟨ "GCData", 375, 8, false, "", "", 32⟩, ⟨ "Str", 376, 9, false, "", "", 40⟩, ⟨ "PtrToThis", 377, 10, false, "", "", 44⟩]), 11, 48, [.int .u64 0, .int .u64 0, .int .u32 0, .int .u8 0, .int .u8 0, .int .u8 0, .int .u8 0, .nfunc, .nptr, .int .i32 0, .int .i32 0], true⟩
noncomputable def ty379 : TyI := ⟨(.struct #[⟨ "Size_", 12, 0, false, "", "", 0⟩, ⟨ "PtrBytes", 12, 1, false, "", "", 8⟩, ⟨ "Hash", 172, 2, false, "", "", 16⟩, ⟨ "TFlag", 372, 3, false, "", "", 20⟩, ⟨ "Align_", 5, 4, false, "", "", 21⟩, ⟨ "FieldAlign_", 5, 5, false, "", "", 22⟩, ⟨ "Kind_", 373, 6, false, "", "", 23⟩, ⟨ "Equal", 374, 7, false, "", "", 24⟩, ⟨ "GCData", 375, 8, false, "", "", 32⟩, ⟨ "Str", 376, 9, false, "", "", 40⟩, ⟨ "PtrToThis", 377, 10, false, "", "", 44⟩]), 11, 48, [.int .u64 0, .int .u64 0, .int .u32 0, .int .u8 0, .int .u8 0, .int .u8 0, .int .u8 0, .nfunc, .nptr, .int .i32 0, .int .i32 0], true⟩
noncomputable def ty380 : TyI := ⟨.func #[112] #[29] false, 1, 8, [.nfunc], false⟩
noncomputable def tyTab : Tab TyI := (.node (.node (.node (.node (.node (.node (.node (.node (.node .nil 1 ty1 .nil) 2 ty2 .nil) 3 ty3 (.node (.node .nil 4 ty4 .nil) 5 ty5 .nil)) 6 ty6 (.node (.node (.node .nil 7 ty7 .nil) 8 ty8 .nil) 9 ty9 (.node (.node .nil 10 ty10 .nil) 11 ty11 .nil))) 12 ty12 (.node (.node (.node (.node .nil 13 ty13 .nil) 14 ty14 .nil) 15 ty15 (.node (.node .nil 16 ty16 .nil) 17 ty17 .nil)) 18 ty18 (.node (.node (.node .nil 19 ty19 .nil) 20 ty20 .nil) 21 ty21 (.node .nil 22 ty22 .nil)))) 23 ty23 (.node (.node (.node (.node (.node .nil 24 ty24 .nil) 25 ty25 .nil) 26 ty26 (.node (.node .nil 27 ty27 .nil) 28 ty28 .nil)) 29 ty29 (.node (.node (.node .nil 31 ty31 .nil) 32 ty32 .nil) 33 ty33 (.node .nil 34 ty34 .nil))) 35 ty35 (.node (.node (.node (.node .nil 36 ty36 .nil) 37 ty37 .nil) 38 ty38 (.node (.node .nil 39 ty39 .nil) 40 ty40 .nil)) 41 ty41 (.node (.node (.node .nil 42 ty42 .nil) 43 ty43 .nil) 44 ty44 (.node .nil 45 ty45 .nil))))) 46 ty46 (.node (.node (.node (.node (.node (.node .nil 47 ty47 .nil) 48 ty48 .nil) 49 ty49 (.node (.node .nil 50 ty50 .nil) 51 ty51 .nil)) 52 ty52 (.node (.node (.node .nil 53 ty53 .nil) 54 ty54 .nil) 55 ty55 (.node .nil 56 ty56 .nil))) 57 ty57 (.node (.node (.node (.node .nil 58 ty58 .nil) 60 ty60 .nil) 61 ty61 (.node (.node .nil 62 ty62 .nil) 64 ty64 .nil)) 65 ty65 (.node (.node (.node .nil 67 ty67 .nil) 68 ty68 .nil) 69 ty69 (.node .nil 70 ty70 .nil)))) 71 ty71 (.node (.node (.node (.node (.node .nil 72 ty72 .nil) 73 ty73 .nil) 74 ty74 (.node (.node .nil 75 ty75 .nil) 77 ty77 .nil)) 78 ty78 (.node (.node (.node .nil 80 ty80 .nil) 81 ty81 .nil) 82 ty82 (.node .nil 84 ty84 .nil))) 85 ty85 (.node (.node (.node (.node .nil 86 ty86 .nil) 87 ty87 .nil) 88 ty88 (.node (.node .nil 89 ty89 .nil) 90 ty90 .nil)) 91 ty91 (.node (.node (.node .nil 92 ty92 .nil) 93 ty93 .nil) 94 ty94 (.node .nil 95 ty95 .nil)))))) 96 ty96 (.node (.node (.node (.node (.node (.node (.node .nil 97 ty97 .nil) 98 ty98 .nil) 99 ty99 (.node (.node .nil 100 ty100 .nil) 101 ty101 .nil)) 102 ty102 (.node (.node (.node .nil 103 ty103 .nil) 104 ty104 .nil) 106 ty106 (.node (.node .nil 107 ty107 .nil) 108 ty108 .nil))) 109 ty109 (.node (.node (.node (.node .nil 110 ty110 .nil) 111 ty111 .nil) 112 ty112 (.node (.node .nil 113 ty113 .nil) 115 ty115 .nil)) 116 ty116 (.node (.node (.node .nil 118 ty118 .nil) 120 ty120 .nil) 121 ty121 (.node .nil 122 ty122 .nil)))) 123 ty123 (.node (.node (.node (.node (.node .nil 124 ty124 .nil) 125 ty125 .nil) 126 ty126 (.node (.node .nil 127 ty127 .nil) 128 ty128 .nil)) 129 ty129 (.node (.node (.node .nil 131 ty131 .nil) 132 ty132 .nil) 133 ty133 (.node .nil 134 ty134 .nil))) 135 ty135 (.node (.node (.node (.node .nil 136 ty136 .nil) 138 ty138 .nil) 140 ty140 (.node (.node .nil 141 ty141 .nil) 142 ty142 .nil)) 143 ty143 (.node (.node (.node .nil 144 ty144 .nil) 145 ty145 .nil) 146 ty146 (.node .nil 147 ty147 .nil))))) 148 ty148 (.node (.node (.node (.node (.node (.node .nil 149 ty149 .nil) 150 ty150 .nil) 151 ty151 (.node (.node .nil 152 ty152 .nil) 153 ty153 .nil)) 154 ty154 (.node (.node (.node .nil 155 ty155 .nil) 156 ty156 .nil) 157 ty157 (.node .nil 158 ty158 .nil))) 159 ty159 (.node (.node (.node (.node .nil 160 ty160 .nil) 161 ty161 .nil) 162 ty162 (.node (.node .nil 163 ty163 .nil) 164 ty164 .nil)) 165 ty165 (.node (.node (.node .nil 166 ty166 .nil) 167 ty167 .nil) 168 ty168 (.node .nil 169 ty169 .nil)))) 170 ty170 (.node (.node (.node (.node (.node .nil 171 ty171 .nil) 172 ty172 .nil) 173 ty173 (.node (.node .nil 174 ty174 .nil) 175 ty175 .nil)) 176 ty176 (.node (.node (.node .nil 178 ty178 .nil) 180 ty180 .nil) 181 ty181 (.node .nil 182 ty182 .nil))) 183 ty183 (.node (.node (.node (.node .nil 184 ty184 .nil) 186 ty186 .nil) 187 ty187 (.node (.node .nil 188 ty188 .nil) 189 ty189 .nil)) 190 ty190 (.node (.node (.node .nil 191 ty191 .nil) 192 ty192 .nil) 193 ty193 (.node .nil 194 ty194 .nil))))))) 195 ty195 (.node (.node (.node (.node (.node (.node (.node (.node .nil 196 ty196 .nil) 197 ty197 .nil) 198 ty198 (.node (.node .nil 199 ty199 .nil) 200 ty200 .nil)) 201 ty201 (.node (.node (.node .nil 202 ty202 .nil) 204 ty204 .nil) 205 ty205 (.node (.node .nil 206 ty206 .nil) 207 ty207 .nil))) 208 ty208 (.node (.node (.node (.node .nil 209 ty209 .nil) 210 ty210 .nil) 211 ty211 (.node (.node .nil 212 ty212 .nil) 213 ty213 .nil)) 214 ty214 (.node (.node (.node .nil 215 ty215 .nil) 216 ty216 .nil) 217 ty217 (.node .nil 218 ty218 .nil)))) 219 ty219 (.node (.node (.node (.node (.node .nil 220 ty220 .nil) 221 ty221 .nil) 222 ty222 (.node (.node .nil 224 ty224 .nil) 225 ty225 .nil)) 226 ty226 (.node (.node (.node .nil 227 ty227 .nil) 229 ty229 .nil) 230 ty230 (.node .nil 232 ty232 .nil))) 233 ty233 (.node (.node (.node (.node .nil 234 ty234 .nil) 235 ty235 .nil) 236 ty236 (.node (.node .nil 238 ty238 .nil) 239 ty239 .nil)) 240 ty240 (.node (.node (.node .nil 241 ty241 .nil) 242 ty242 .nil) 243 ty243 (.node .nil 244 ty244 .nil))))) 245 ty245 (.node (.node (.node (.node (.node (.node .nil 246 ty246 .nil) 247 ty247 .nil) 248 ty248 (.node (.node .nil 249 ty249 .nil) 250 ty250 .nil)) 251 ty251 (.node (.node (.node .nil 253 ty253 .nil) 254 ty254 .nil) 255 ty255 (.node .nil 257 ty257 .nil))) 258 ty258 (.node (.node (.node (.node .nil 259 ty259 .nil) 260 ty260 .nil) 261 ty261 (.node (.node .nil 262 ty262 .nil) 264 ty264 .nil)) 265 ty265 (.node (.node (.node .nil 266 ty266 .nil) 267 ty267 .nil) 268 ty268 (.node .nil 269 ty269 .nil)))) 270 ty270 (.node (.node (.node (.node (.node .nil 271 ty271 .nil) 272 ty272 .nil) 273 ty273 (.node (.node .nil 274 ty274 .nil) 275 ty275 .nil)) 276 ty276 (.node (.node (.node .nil 277 ty277 .nil) 278 ty278 .nil) 279 ty279 (.node .nil 280 ty280 .nil))) 281 ty281 (.node (.node (.node (.node .nil 282 ty282 .nil) 283 ty283 .nil) 284 ty284 (.node (.node .nil 285 ty285 .nil) 286 ty286 .nil)) 287 ty287 (.node (.node (.node .nil 288 ty288 .nil) 289 ty289 .nil) 290 ty290 (.node .nil 291 ty291 .nil)))))) 292 ty292 (.node (.node (.node (.node (.node (.node (.node .nil 293 ty293 .nil) 294 ty294 .nil) 295 ty295 (.node (.node .nil 296 ty296 .nil) 297 ty297 .nil)) 298 ty298 (.node (.node (.node .nil 299 ty299 .nil) 300 ty300 .nil) 301 ty301 (.node .nil 302 ty302 .nil))) 303 ty303 (.node (.node (.node (.node .nil 304 ty304 .nil) 305 ty305 .nil) 306 ty306 (.node (.node .nil 307 ty307 .nil) 308 ty308 .nil)) 309 ty309 (.node (.node (.node .nil 310 ty310 .nil) 311 ty311 .nil) 312 ty312 (.node .nil 313 ty313 .nil)))) 314 ty314 (.node (.node (.node (.node (.node .nil 315 ty315 .nil) 316 ty316 .nil) 317 ty317 (.node (.node .nil 318 ty318 .nil) 319 ty319 .nil)) 320 ty320 (.node (.node (.node .nil 322 ty322 .nil) 323 ty323 .nil) 324 ty324 (.node .nil 325 ty325 .nil))) 326 ty326 (.node (.node (.node (.node .nil 327 ty327 .nil) 328 ty328 .nil) 329 ty329 (.node (.node .nil 330 ty330 .nil) 331 ty331 .nil)) 332 ty332 (.node (.node (.node .nil 333 ty333 .nil) 334 ty334 .nil) 335 ty335 (.node .nil 336 ty336 .nil))))) 337 ty337 (.node (.node (.node (.node (.node (.node .nil 338 ty338 .nil) 339 ty339 .nil) 340 ty340 (.node (.node .nil 341 ty341 .nil) 342 ty342 .nil)) 343 ty343 (.node (.node (.node .nil 344 ty344 .nil) 345 ty345 .nil) 346 ty346 (.node .nil 347 ty347 .nil))) 348 ty348 (.node (.node (.node (.node .nil 349 ty349 .nil) 350 ty350 .nil) 351 ty351 (.node (.node .nil 352 ty352 .nil) 353 ty353 .nil)) 354 ty354 (.node (.node (.node .nil 355 ty355 .nil) 356 ty356 .nil) 357 ty357 (.node .nil 358 ty358 .nil)))) 359 ty359 (.node (.node (.node (.node (.node .nil 360 ty360 .nil) 361 ty361 .nil) 362 ty362 (.node (.node .nil 363 ty363 .nil) 364 ty364 .nil)) 365 ty365 (.node (.node (.node .nil 366 ty366 .nil) 367 ty367 .nil) 368 ty368 (.node .nil 369 ty369 .nil))) 370 ty370 (.node (.node (.node (.node .nil 371 ty371 .nil) 372 ty372 .nil) 373 ty373 (.node (.node .nil 374 ty374 .nil) 375 ty375 .nil)) 376 ty376 (.node (.node (.node .nil 377 ty377 .nil) 378 ty378 .nil) 379 ty379 (.node .nil 380 ty380 .nil))))))))
noncomputable def fnTab : Tab Func := (.node (.node (.node (.node (.node (.node (.node (.node .nil 3 Go.Proofs.Tryz.f3 .nil) 4 Go.Proofs.Tryz.f4 .nil) 5 Go.Proofs.Tryz.f5 (.node (.node .nil 6 Go.Proofs.Tryz.f6 .nil) 7 Go.Proofs.Tryz.f7 .nil)) 8 Go.Proofs.Tryz.f8 (.node (.node (.node .nil 9 Go.Proofs.Tryz.f9 .nil) 10 Go.Proofs.Tryz.f10 .nil) 11 Go.Proofs.Tryz.f11 (.node .nil 12 Go.Proofs.Tryz.f12 .nil))) 13 Go.Proofs.Tryz.f13 (.node (.node (.node (.node .nil 14 Go.Proofs.Tryz.f14 .nil) 15 Go.Proofs.Tryz.f15 .nil) 16 Go.Proofs.Tryz.f16 (.node (.node .nil 17 Go.Proofs.Tryz.f17 .nil) 18 Go.Proofs.Tryz.f18 .nil)) 19 Go.Proofs.Tryz.f19 (.node (.node (.node .nil 20 Go.Proofs.Tryz.f20 .nil) 21 Go.Proofs.Tryz.f21 .nil) 22 Go.Proofs.Tryz.f22 (.node .nil 23 Go.Proofs.Tryz.f23 .nil)))) 24 Go.Proofs.Tryz.f24 (.node (.node (.node (.node (.node .nil 25 Go.Proofs.Tryz.f25 .nil) 26 Go.Proofs.Tryz.f26 .nil) 27 Go.Proofs.Tryz.f27 (.node (.node .nil 28 Go.Proofs.Tryz.f28 .nil) 29 Go.Proofs.Tryz.f29 .nil)) 30 Go.Proofs.Tryz.f30 (.node (.node (.node .nil 34 Go.Proofs.Tryz.f34 .nil) 35 Go.Proofs.Tryz.f35 .nil) 36 Go.Proofs.Tryz.f36 (.node .nil 37 Go.Proofs.Tryz.f37 .nil))) 38 Go.Proofs.Tryz.f38 (.node (.node (.node (.node .nil 40 Go.Proofs.Tryz.f40 .nil) 41 Go.Proofs.Tryz.f41 .nil) 42 Go.Proofs.Tryz.f42 (.node (.node .nil 43 Go.Proofs.Tryz.f43 .nil) 44 Go.Proofs.Tryz.f44 .nil)) 45 Go.Proofs.Tryz.f45 (.node (.node (.node .nil 46 Go.Proofs.Tryz.f46 .nil) 47 Go.Proofs.Tryz.f47 .nil) 48 Go.Proofs.Tryz.f48 (.node .nil 49 Go.Proofs.Tryz.f49 .nil))))) 50 Go.Proofs.Tryz.f50 (.node (.node (.node (.node (.node (.node .nil 51 Go.Proofs.Tryz.f51 .nil) 52 Go.Proofs.Tryz.f52 .nil) 53 Go.Proofs.Tryz.f53 (.node (.node .nil 55 Go.Proofs.Tryz.f55 .nil) 56 Go.Proofs.Tryz.f56 .nil)) 58 Go.Proofs.Tryz.f58 (.node (.node (.node .nil 62 Go.Proofs.Tryz.f62 .nil) 63 Go.Proofs.Tryz.f63 .nil) 64 Go.Proofs.Tryz.f64 (.node .nil 65 Go.Proofs.Tryz.f65 .nil))) 66 Go.Proofs.Tryz.f66 (.node (.node (.node (.node .nil 67 Go.Proofs.Tryz.f67 .nil) 68 Go.Proofs.Tryz.f68 .nil) 69 Go.Proofs.Tryz.f69 (.node (.node .nil 70 Go.Proofs.Tryz.f70 .nil) 71 Go.Proofs.Tryz.f71 .nil)) 72 Go.Proofs.Tryz.f72 (.node (.node (.node .nil 73 Go.Proofs.Tryz.f73 .nil) 74 Go.Proofs.Tryz.f74 .nil) 75 Go.Proofs.Tryz.f75 (.node .nil 77 Go.Proofs.Tryz.f77 .nil)))) 79 Go.Proofs.Tryz.f79 (.node (.node (.node (.node (.node .nil 80 Go.Proofs.Tryz.f80 .nil) 81 Go.Proofs.Tryz.f81 .nil) 84 Go.Proofs.Tryz.f84 (.node (.node .nil 88 Go.Proofs.Tryz.f88 .nil) 89 Go.Proofs.Tryz.f89 .nil)) 90 Go.Proofs.Tryz.f90 (.node (.node (.node .nil 91 Go.Proofs.Tryz.f91 .nil) 92 Go.Proofs.Tryz.f92 .nil) 93 Go.Proofs.Tryz.f93 (.node .nil 94 Go.Proofs.Tryz.f94 .nil))) 95 Go.Proofs.Tryz.f95 (.node (.node (.node (.node .nil 96 Go.Proofs.Tryz.f96 .nil) 97 Go.Proofs.Tryz.f97 .nil) 98 Go.Proofs.Tryz.f98 (.node (.node .nil 99 Go.Proofs.Tryz.f99 .nil) 100 Go.Proofs.Tryz.f100 .nil)) 101 Go.Proofs.Tryz.f101 (.node (.node (.node .nil 102 Go.Proofs.Tryz.f102 .nil) 103 Go.Proofs.Tryz.f103 .nil) 104 Go.Proofs.Tryz.f104 (.node .nil 105 Go.Proofs.Tryz.f105 .nil)))))) 106 Go.Proofs.Tryz.f106 (.node (.node (.node (.node (.node (.node (.node .nil 107 Go.Proofs.Tryz.f107 .nil) 109 Go.Proofs.Tryz.f109 .nil) 110 Go.Proofs.Tryz.f110 (.node (.node .nil 111 Go.Proofs.Tryz.f111 .nil) 112 Go.Proofs.Tryz.f112 .nil)) 113 Go.Proofs.Tryz.f113 (.node (.node (.node .nil 114 Go.Proofs.Tryz.f114 .nil) 115 Go.Proofs.Tryz.f115 .nil) 116 Go.Proofs.Tryz.f116 (.node .nil 118 Go.Proofs.Tryz.f118 .nil))) 119 Go.Proofs.Tryz.f119 (.node (.node (.node (.node .nil 121 Go.Proofs.Tryz.f121 .nil) 122 Go.Proofs.Tryz.f122 .nil) 129 Go.Proofs.Tryz.f129 (.node (.node .nil 130 Go.Proofs.Tryz.f130 .nil) 131 Go.Proofs.Tryz.f131 .nil)) 132 Go.Proofs.Tryz.f132 (.node (.node (.node .nil 133 Go.Proofs.Tryz.f133 .nil) 134 Go.Proofs.Tryz.f134 .nil) 135 Go.Proofs.Tryz.f135 (.node .nil 136 Go.Proofs.Tryz.f136 .nil)))) 137 Go.Proofs.Tryz.f137 (.node (.node (.node (.node (.node .nil 138 Go.Proofs.Tryz.f138 .nil) 139 Go.Proofs.Tryz.f139 .nil) 140 Go.Proofs.Tryz.f140 (.node (.node .nil 141 Go.Proofs.Tryz.f141 .nil) 143 Go.Proofs.Tryz.f143 .nil)) 144 Go.Proofs.Tryz.f144 (.node (.node (.node .nil 145 Go.Proofs.Tryz.f145 .nil) 146 Go.Proofs.Tryz.f146 .nil) 148 Go.Proofs.Tryz.f148 (.node .nil 150 Go.Proofs.Tryz.f150 .nil))) 151 Go.Proofs.Tryz.f151 (.node (.node (.node (.node .nil 152 Go.Proofs.Tryz.f152 .nil) 153 Go.Proofs.Tryz.f153 .nil) 154 Go.Proofs.Tryz.f154 (.node (.node .nil 155 Go.Proofs.Tryz.f155 .nil) 156 Go.Proofs.Tryz.f156 .nil)) 165 Go.Proofs.Tryz.f165 (.node (.node (.node .nil 166 Go.Proofs.Tryz.f166 .nil) 168 Go.Proofs.Tryz.f168 .nil) 169 Go.Proofs.Tryz.f169 (.node .nil 172 Go.Proofs.Tryz.f172 .nil))))) 173 Go.Proofs.Tryz.f173 (.node (.node (.node (.node (.node (.node .nil 174 Go.Proofs.Tryz.f174 .nil) 177 Go.Proofs.Tryz.f177 .nil) 178 Go.Proofs.Tryz.f178 (.node (.node .nil 179 Go.Proofs.Tryz.f179 .nil) 180 Go.Proofs.Tryz.f180 .nil)) 181 Go.Proofs.Tryz.f181 (.node (.node (.node .nil 182 Go.Proofs.Tryz.f182 .nil) 183 Go.Proofs.Tryz.f183 .nil) 184 Go.Proofs.Tryz.f184 (.node .nil 185 Go.Proofs.Tryz.f185 .nil))) 186 Go.Proofs.Tryz.f186 (.node (.node (.node (.node .nil 187 Go.Proofs.Tryz.f187 .nil) 188 Go.Proofs.Tryz.f188 .nil) 189 Go.Proofs.Tryz.f189 (.node (.node .nil 190 Go.Proofs.Tryz.f190 .nil) 193 Go.Proofs.Tryz.f193 .nil)) 208 Go.Proofs.Tryz.f208 (.node (.node (.node .nil 209 Go.Proofs.Tryz.f209 .nil) 211 Go.Proofs.Tryz.f211 .nil) 212 Go.Proofs.Tryz.f212 (.node .nil 213 Go.Proofs.Tryz.f213 .nil)))) 216 Go.Proofs.Tryz.f216 (.node (.node (.node (.node (.node .nil 217 Go.Proofs.Tryz.f217 .nil) 218 Go.Proofs.Tryz.f218 .nil) 219 Go.Proofs.Tryz.f219 (.node (.node .nil 220 Go.Proofs.Tryz.f220 .nil) 229 Go.Proofs.Tryz.f229 .nil)) 231 Go.Proofs.Tryz.f231 (.node (.node (.node .nil 232 Go.Proofs.Tryz.f232 .nil) 233 Go.Proofs.Tryz.f233 .nil) 239 Go.Proofs.Tryz.f239 (.node .nil 240 Go.Proofs.Tryz.f240 .nil))) 243 Go.Proofs.Tryz.f243 (.node (.node (.node (.node .nil 245 Go.Proofs.Tryz.f245 .nil) 246 Go.Proofs.Tryz.f246 .nil) 247 Go.Proofs.Tryz.f247 (.node .nil 250 Go.Proofs.Tryz.f250 .nil)) 254 Go.Proofs.Tryz.f254 (.node (.node (.node .nil 256 Go.Proofs.Tryz.f256 .nil) 259 Go.Proofs.Tryz.f259 .nil) 262 Go.Proofs.Tryz.f262 (.node .nil 265 Go.Proofs.Tryz.f265 .nil)))))))
noncomputable def pureTab : Tab Unit := (.node (.node (.node (.node (.node (.node (.node .nil 3 () .nil) 4 () .nil) 5 () (.node (.node .nil 6 () .nil) 7 () .nil)) 8 () (.node (.node (.node .nil 9 () .nil) 10 () .nil) 11 () (.node .nil 12 () .nil))) 13 () (.node (.node (.node (.node .nil 14 () .nil) 15 () .nil) 16 () (.node (.node .nil 18 () .nil) 19 () .nil)) 21 () (.node (.node (.node .nil 22 () .nil) 23 () .nil) 24 () (.node .nil 26 () .nil)))) 29 () (.node (.node (.node (.node (.node .nil 34 () .nil) 37 () .nil) 39 () (.node (.node .nil 41 () .nil) 42 () .nil)) 43 () (.node (.node (.node .nil 44 () .nil) 45 () .nil) 47 () (.node .nil 52 () .nil))) 56 () (.node (.node (.node (.node .nil 58 () .nil) 62 () .nil) 63 () (.node (.node .nil 64 () .nil) 65 () .nil)) 66 () (.node (.node (.node .nil 67 () .nil) 69 () .nil) 70 () (.node .nil 73 () .nil))))) 84 () (.node (.node (.node (.node (.node (.node .nil 88 () .nil) 89 () .nil) 91 () (.node (.node .nil 92 () .nil) 95 () .nil)) 96 () (.node (.node (.node .nil 97 () .nil) 102 () .nil) 110 () (.node .nil 111 () .nil))) 129 () (.node (.node (.node (.node .nil 131 () .nil) 132 () .nil) 135 () (.node (.node .nil 136 () .nil) 137 () .nil)) 139 () (.node (.node (.node .nil 140 () .nil) 141 () .nil) 143 () (.node .nil 144 () .nil)))) 145 () (.node (.node (.node (.node (.node .nil 150 () .nil) 151 () .nil) 172 () (.node (.node .nil 179 () .nil) 182 () .nil)) 183 () (.node (.node (.node .nil 186 () .nil) 187 () .nil) 189 () (.node .nil 213 () .nil))) 219 () (.node (.node (.node (.node .nil 220 () .nil) 231 () .nil) 232 () (.node (.node .nil 233 () .nil) 240 () .nil)) 245 () (.node (.node (.node .nil 246 () .nil) 250 () .nil) 256 () (.node .nil 262 () .nil))))))
variable [Valu]
theorem seat_rows : ∀ t i, tyTab.get t = some i → TyRow Go.Proofs.Tryz.prog t i :=
  ty_rows (by kernel_rfl) (by kernel_rfl) (by kernel_rfl)
theorem seat_ok : SeatOk Go.Proofs.Tryz.prog tyTab fnTab [23, 25, 42, 144] :=
  ⟨seat_rows, by kernel_rfl, by kernel_rfl, by kernel_rfl, by kernel_rfl⟩
end Go.Vm
set_option maxRecDepth 100000
namespace Go.Vm
noncomputable def shapesF : List F := [.s (.int .i64 0), .s (.int .i64 0), .s (.bool true), .s (.bool true), .s (.bool false), .s (.bool false), .s (.int .i64 2), .s (.int .i64 64), .s (.bool false), .s (.bool false), .s (.bool false), .s (.bool false), .s (.int .i64 2), .s (.int .i64 64), .s (.bool false), .s (.bool false), .s (.bool false), .s (.bool false), .s (.int .i64 2), .s (.int .i64 64), .s (.bool false), .s (.bool false), .s (.bool false), .s (.bool false), .s (.int .i64 1), .s (.int .i64 1), .s (.bool false), .s (.bool false), .s (.bool false), .s (.bool false), .s (.int .i64 1), .s (.int .i64 1), .s (.bool true), .s (.bool true), .s (.bool true), .s (.bool false), .s (.int .i64 1), .s (.int .i64 1), .s (.bool false), .s (.bool false), .s (.bool true), .s (.bool true), .s (.int .i64 1), .s (.int .i64 1), .s (.bool false), .s (.bool true), .s (.bool false), .s (.bool false), .s (.int .i64 2), .s (.int .i64 2), .s (.bool false), .s (.bool false), .s (.bool false), .s (.bool false), .s (.int .i64 1), .s (.int .i64 1), .s (.bool true), .s (.bool true), .s (.bool true), .s (.bool false), .s (.int .i64 1), .s (.int .i64 1), .s (.bool false), .s (.bool false), .s (.bool true), .s (.bool true)]
noncomputable def wordsF : List F := [.s (.str ⟨#[110, 111, 110, 101]⟩), .s (.str ⟨#[111, 114, 100, 101, 114]⟩), .s (.str ⟨#[108, 97, 99, 107, 115]⟩), .s (.str ⟨#[116, 121, 112, 101]⟩), .s (.str ⟨#[99, 111, 110, 100, 105, 116, 105, 111, 110]⟩), .s (.str ⟨#[119, 105, 116, 104, 105, 110]⟩), .s (.str ⟨#[119, 104, 101, 114, 101]⟩), .s (.str ⟨#[105, 110, 99, 111, 109, 112, 108, 101, 116, 101]⟩)]
noncomputable def p10F : List F := [.s (.int .u64 1), .s (.int .u64 10), .s (.int .u64 100), .s (.int .u64 1000), .s (.int .u64 10000), .s (.int .u64 100000), .s (.int .u64 1000000), .s (.int .u64 10000000), .s (.int .u64 100000000), .s (.int .u64 1000000000), .s (.int .u64 10000000000), .s (.int .u64 100000000000), .s (.int .u64 1000000000000), .s (.int .u64 10000000000000), .s (.int .u64 100000000000000), .s (.int .u64 1000000000000000), .s (.int .u64 10000000000000000), .s (.int .u64 100000000000000000), .s (.int .u64 1000000000000000000), .s (.int .u64 10000000000000000000)]
noncomputable def glob58 (g : Nat) : Option (List F) := bif Nat.beq g 0 then some wordsF else bif Nat.beq g 1 then some p10F else bif Nat.beq g 5 then some shapesF else none
/-- strings.Contains, of which the library's contract tells -/
noncomputable def base58 (f : Nat) (xs : List F) : Option F :=
  bif Nat.beq f 39 then (match xs with | [.s (.str a), .s (.str b)] => bif Nat.blt a.size 4294967281 then some (.s (.bool (Lib.contains a.data.toList b.data.toList))) else none | _ => none) else none
noncomputable def env58 (l : Known) : Env := envK tyTab fnTab pureTab [23, 25, 42, 144] glob58 base58 .none l
end Go.Vm
set_option maxRecDepth 100000
namespace Go.Vm
noncomputable abbrev n (k : Int) : F := .s (.int .i64 k)
noncomputable abbrev bt : F := .s (.bool true)
noncomputable abbrev bf : F := .s (.bool false)
noncomputable abbrev ns : F := .s .nslice
noncomputable abbrev sb (l : List UInt8) : F := .s (.str ⟨⟨l⟩⟩)
noncomputable def known0 : Known := []
/- tidegate/pattern.check -/
noncomputable def arg1 : List F := [(.agg [(n 5), (.row 14 [[(n 1), (.row 14 [[(n 0), ns, (n 0), (n 1), (n 0), (n 0), (n 0), ns, (n 0), (n 0), (n 0), (n 1), (n 1), (sb [])], [(n 0), ns, (n 0), (n 2), (n 0), (n 0), (n 0), ns, (n 0), (n 0), (n 0), (n 1), (n 1), (sb [])]]), (n 0), (n 0), (n 0), (n 0), (n 0), ns, (n 0), (n 0), (n 0), (n 0), (n 0), (sb [])]]), (n 1), (n 0), (n 0), (n 0), (n 0), ns, (n 0), (n 0), (n 0), (n 1), (n 1), (sb [])])]
noncomputable def res1 : F := (n 0)
noncomputable def known1 : Known := (183, arg1, res1) :: known0
/- tidegate/expr.Check -/
noncomputable def arg2 : List F := [(.agg [(n 0), ns, (n 0), (n 0), (n 0), (n 1), (n 1), (sb [])])]
noncomputable def res2 : F := (n 0)
noncomputable def known2 : Known := (143, arg2, res2) :: known1
/- tidegate/pattern.CheckRest -/
noncomputable def arg3 : List F := [(.agg [(n 5), (.row 14 [[(n 1), (.row 14 [[(n 0), ns, (n 0), (n 1), (n 0), (n 0), (n 0), ns, (n 0), (n 0), (n 0), (n 1), (n 1), (sb [])], [(n 0), ns, (n 0), (n 2), (n 0), (n 0), (n 0), ns, (n 0), (n 0), (n 0), (n 1), (n 1), (sb [])]]), (n 0), (n 0), (n 0), (n 0), (n 0), ns, (n 0), (n 0), (n 0), (n 0), (n 0), (sb [])]]), (n 1), (n 0), (n 0), (n 0), (n 0), ns, (n 0), (n 0), (n 0), (n 1), (n 1), (sb [])])]
noncomputable def res3 : F := (n 0)
noncomputable def known3 : Known := (136, arg3, res3) :: known2
/- tidegate/pattern.Check -/
noncomputable def arg4 : List F := [(.agg [(n 5), (.row 14 [[(n 1), (.row 14 [[(n 0), ns, (n 0), (n 1), (n 0), (n 0), (n 0), ns, (n 0), (n 0), (n 0), (n 1), (n 1), (sb [])], [(n 0), ns, (n 0), (n 2), (n 0), (n 0), (n 0), ns, (n 0), (n 0), (n 0), (n 1), (n 1), (sb [])]]), (n 0), (n 0), (n 0), (n 0), (n 0), ns, (n 0), (n 0), (n 0), (n 0), (n 0), (sb [])]]), (n 1), (n 0), (n 0), (n 0), (n 0), ns, (n 0), (n 0), (n 0), (n 1), (n 1), (sb [])])]
noncomputable def res4 : F := (n 0)
noncomputable def known4 : Known := (129, arg4, res4) :: known3
/- tidegate/pattern.check -/
noncomputable def arg5 : List F := [(.agg [(n 0), ns, (n 0), (n 2), (n 0), (n 0), (n 0), ns, (n 0), (n 0), (n 0), (n 1), (n 1), (sb [])])]
noncomputable def res5 : F := (n 0)
noncomputable def known5 : Known := (183, arg5, res5) :: known4
/- tidegate/derivative.Residuals -/
noncomputable def arg6 : List F := [(.agg [(n 5), (.row 14 [[(n 1), (.row 14 [[(n 0), ns, (n 0), (n 1), (n 0), (n 0), (n 0), ns, (n 0), (n 0), (n 0), (n 1), (n 1), (sb [])], [(n 0), ns, (n 0), (n 2), (n 0), (n 0), (n 0), ns, (n 0), (n 0), (n 0), (n 1), (n 1), (sb [])]]), (n 0), (n 0), (n 0), (n 0), (n 0), ns, (n 0), (n 0), (n 0), (n 0), (n 0), (sb [])]]), (n 1), (n 0), (n 0), (n 0), (n 0), ns, (n 0), (n 0), (n 0), (n 1), (n 1), (sb [])])]
noncomputable def res6 : F := (.tup [(.row 14 [[(n 5), (.row 14 [[(n 1), (.row 14 [[(n 0), ns, (n 0), (n 1), (n 0), (n 0), (n 0), ns, (n 0), (n 0), (n 0), (n 1), (n 1), (sb [])], [(n 0), ns, (n 0), (n 2), (n 0), (n 0), (n 0), ns, (n 0), (n 0), (n 0), (n 1), (n 1), (sb [])]]), (n 0), (n 0), (n 0), (n 0), (n 0), ns, (n 0), (n 0), (n 0), (n 0), (n 0), (sb [])]]), (n 1), (n 0), (n 0), (n 0), (n 0), ns, (n 0), (n 0), (n 0), (n 1), (n 1), (sb [])], [(n 9), (.row 14 [[(n 0), ns, (n 0), (n 2), (n 0), (n 0), (n 0), ns, (n 0), (n 0), (n 0), (n 1), (n 1), (sb [])]]), (n 1), (n 0), (n 0), (n 0), (n 0), ns, (n 0), (n 0), (n 0), (n 1), (n 1), (sb [])]]), (n 0)])
noncomputable def known6 : Known := (88, arg6, res6) :: known5
/- tidegate/pattern.count -/
noncomputable def arg7 : List F := [(.agg [(n 5), (.row 14 [[(n 1), (.row 14 [[(n 0), ns, (n 0), (n 1), (n 0), (n 0), (n 0), ns, (n 0), (n 0), (n 0), (n 1), (n 1), (sb [])], [(n 0), ns, (n 0), (n 2), (n 0), (n 0), (n 0), ns, (n 0), (n 0), (n 0), (n 1), (n 1), (sb [])]]), (n 0), (n 0), (n 0), (n 0), (n 0), ns, (n 0), (n 0), (n 0), (n 0), (n 0), (sb [])]]), (n 1), (n 0), (n 0), (n 0), (n 0), ns, (n 0), (n 0), (n 0), (n 1), (n 1), (sb [])])]
noncomputable def res7 : F := (.tup [(n 3), (n 1), bt])
noncomputable def known7 : Known := (132, arg7, res7) :: known6
/- tidegate/derivative.scoped -/
noncomputable def arg8 : List F := [(.agg [(n 5), (.row 14 [[(n 1), (.row 14 [[(n 0), ns, (n 0), (n 1), (n 0), (n 0), (n 0), ns, (n 0), (n 0), (n 0), (n 1), (n 1), (sb [])], [(n 0), ns, (n 0), (n 2), (n 0), (n 0), (n 0), ns, (n 0), (n 0), (n 0), (n 1), (n 1), (sb [])]]), (n 0), (n 0), (n 0), (n 0), (n 0), ns, (n 0), (n 0), (n 0), (n 0), (n 0), (sb [])]]), (n 1), (n 0), (n 0), (n 0), (n 0), ns, (n 0), (n 0), (n 0), (n 1), (n 1), (sb [])]), (.agg [(n 0), (n 0), (n 1), (n 0), (n 0), ns, (n 0), (n 0), (n 0), (n 1), (n 1), (sb []), ns, ns, ns, ns, ns]), bf, bt]
noncomputable def res8 : F := (.agg [(n 0), (n 0), (n 1), (n 0), (n 0), ns, (n 0), (n 0), (n 0), (n 1), (n 1), (sb []), (.row 1 [[(n 0)]]), ns, ns, ns, (.row 1 [[(n 0)]])])
noncomputable def known8 : Known := (245, arg8, res8) :: known7
/- tidegate/pattern.CheckRest -/
noncomputable def arg9 : List F := [(.agg [(n 9), (.row 14 [[(n 0), ns, (n 0), (n 2), (n 0), (n 0), (n 0), ns, (n 0), (n 0), (n 0), (n 1), (n 1), (sb [])]]), (n 1), (n 0), (n 0), (n 0), (n 0), ns, (n 0), (n 0), (n 0), (n 1), (n 1), (sb [])])]
noncomputable def res9 : F := (n 0)
noncomputable def known9 : Known := (136, arg9, res9) :: known8
/- tidegate/derivative.scoped -/
noncomputable def arg10 : List F := [(.agg [(n 9), (.row 14 [[(n 0), ns, (n 0), (n 2), (n 0), (n 0), (n 0), ns, (n 0), (n 0), (n 0), (n 1), (n 1), (sb [])]]), (n 1), (n 0), (n 0), (n 0), (n 0), ns, (n 0), (n 0), (n 0), (n 1), (n 1), (sb [])]), (.agg [(n 0), (n 0), (n 2), (n 0), (n 0), ns, (n 0), (n 0), (n 0), (n 1), (n 1), (sb []), ns, ns, ns, ns, ns]), bt, bf]
noncomputable def res10 : F := (.agg [(n 0), (n 0), (n 2), (n 0), (n 0), ns, (n 0), (n 0), (n 0), (n 1), (n 1), (sb []), ns, (.row 1 [[(n 0)]]), ns, ns, (.row 1 [[(n 0)]])])
noncomputable def known10 : Known := (245, arg10, res10) :: known9
/- tidegate/compile.compiled -/
noncomputable def arg11 : List F := [(.agg [(n 5), (.row 14 [[(n 1), (.row 14 [[(n 0), ns, (n 0), (n 1), (n 0), (n 0), (n 0), ns, (n 0), (n 0), (n 0), (n 1), (n 1), (sb [])], [(n 0), ns, (n 0), (n 2), (n 0), (n 0), (n 0), ns, (n 0), (n 0), (n 0), (n 1), (n 1), (sb [])]]), (n 0), (n 0), (n 0), (n 0), (n 0), ns, (n 0), (n 0), (n 0), (n 0), (n 0), (sb [])]]), (n 1), (n 0), (n 0), (n 0), (n 0), ns, (n 0), (n 0), (n 0), (n 1), (n 1), (sb [])])]
noncomputable def res11 : F := (.tup [(.agg [(n 3), (n 1), (.row 1 [[ns], [(.row 11 [[(n 0), (n 1), (n 0), (n 0), ns, (n 0), (n 0), (n 0), (n 1), (n 1), (sb [])]])]]), (.row 17 [[(n 0), (n 1), (n 1), (n 0), (n 0), ns, (n 0), (n 0), (n 0), (n 1), (n 1), (sb []), (.row 1 [[(n 0)]]), ns, ns, ns, (.row 1 [[(n 0)]])], [(n 1), (n (-1)), (n 2), (n 0), (n 0), ns, (n 0), (n 0), (n 0), (n 1), (n 1), (sb []), ns, (.row 1 [[(n 0)]]), ns, ns, (.row 1 [[(n 0)]])]])]), (.row 14 [[(n 5), (.row 14 [[(n 1), (.row 14 [[(n 0), ns, (n 0), (n 1), (n 0), (n 0), (n 0), ns, (n 0), (n 0), (n 0), (n 1), (n 1), (sb [])], [(n 0), ns, (n 0), (n 2), (n 0), (n 0), (n 0), ns, (n 0), (n 0), (n 0), (n 1), (n 1), (sb [])]]), (n 0), (n 0), (n 0), (n 0), (n 0), ns, (n 0), (n 0), (n 0), (n 0), (n 0), (sb [])]]), (n 1), (n 0), (n 0), (n 0), (n 0), ns, (n 0), (n 0), (n 0), (n 1), (n 1), (sb [])], [(n 9), (.row 14 [[(n 0), ns, (n 0), (n 2), (n 0), (n 0), (n 0), ns, (n 0), (n 0), (n 0), (n 1), (n 1), (sb [])]]), (n 1), (n 0), (n 0), (n 0), (n 0), ns, (n 0), (n 0), (n 0), (n 1), (n 1), (sb [])]]), (n 0)])
noncomputable def known11 : Known := (62, arg11, res11) :: known10
/- tidegate/stream.Check -/
noncomputable def arg12 : List F := [(.row 5 [[(n 0), (n 1), (n 0), (n 1), ns], [(n 0), (n 2), (n 1), (n 2), ns], [(n 0), (n 3), (n 0), (n 3), ns]])]
noncomputable def res12 : F := (n 0)
noncomputable def known12 : Known := (43, arg12, res12) :: known11
/- tidegate/expr.Truth -/
noncomputable def arg13 : List F := [(.agg [(n 0), ns, (n 0), (n 0), (n 0), (n 1), (n 1), (sb [])]), (.agg [(.row 1 [[ns], [(.row 5 [[(n 0), (n 1), (n 0), (n 1), ns]])], [ns], [ns], [ns], [ns], [ns], [ns], [ns], [ns], [ns], [ns], [ns], [ns], [ns], [ns]])]), (n 0), (.agg [(n 0), (n 2), (n 1), (n 2), ns])]
noncomputable def res13 : F := bt
noncomputable def known13 : Known := (95, arg13, res13) :: known12
/- tidegate/explain.Blame -/
noncomputable def arg14 : List F := [(.agg [(n 5), (.row 14 [[(n 1), (.row 14 [[(n 0), ns, (n 0), (n 1), (n 0), (n 0), (n 0), ns, (n 0), (n 0), (n 0), (n 1), (n 1), (sb [])], [(n 0), ns, (n 0), (n 2), (n 0), (n 0), (n 0), ns, (n 0), (n 0), (n 0), (n 1), (n 1), (sb [])]]), (n 0), (n 0), (n 0), (n 0), (n 0), ns, (n 0), (n 0), (n 0), (n 0), (n 0), (sb [])]]), (n 1), (n 0), (n 0), (n 0), (n 0), ns, (n 0), (n 0), (n 0), (n 1), (n 1), (sb [])]), (.row 5 [[(n 0), (n 1), (n 0), (n 1), ns], [(n 0), (n 2), (n 1), (n 2), ns], [(n 0), (n 3), (n 0), (n 3), ns]]), (.agg [(.row 4 [[(n 1), (n 1), (n 0), (n 1)], [(n 2), (n 3), (n 0), (n 3)]])])]
noncomputable def res14 : F := (.tup [(.agg [(n 2), (n 0), (n 0), (n 2), (n 0), (n 2)]), bt, (n 0)])
noncomputable def known14 : Known := (13, arg14, res14) :: known13
/- tidegate/explain.Format -/
noncomputable def arg15 : List F := [(.row 2 [[(sb [110]), (n 0)], [(sb [97]), (n 0)], [(sb [98]), (n 0)]]), (.agg [(n 2), (n 0), (n 0), (n 2), (n 0), (n 2)])]
noncomputable def res15 : F := (.tup [(sb [108, 97, 99, 107, 115, 32, 110, 64, 50, 47, 48, 47, 50, 32, 115, 99, 111, 112, 101, 32, 48]), (n 0)])
noncomputable def known15 : Known := (4, arg15, res15) :: known14
/- tidegate/automaton.Check -/
noncomputable def arg16 : List F := [(.agg [(n 3), (n 1), (.row 1 [[ns], [(.row 11 [[(n 0), (n 1), (n 0), (n 0), ns, (n 0), (n 0), (n 0), (n 1), (n 1), (sb [])]])]]), (.row 17 [[(n 0), (n 1), (n 1), (n 0), (n 0), ns, (n 0), (n 0), (n 0), (n 1), (n 1), (sb []), (.row 1 [[(n 0)]]), ns, ns, ns, (.row 1 [[(n 0)]])], [(n 1), (n (-1)), (n 2), (n 0), (n 0), ns, (n 0), (n 0), (n 0), (n 1), (n 1), (sb []), ns, (.row 1 [[(n 0)]]), ns, ns, (.row 1 [[(n 0)]])]])])]
noncomputable def res16 : F := (n 0)
noncomputable def known16 : Known := (69, arg16, res16) :: known15
/- tidegate/run.compare -/
noncomputable def arg17 : List F := [(.agg [(n 1), (.row 4 [[(n 1), (n 1), (n 0), (n 1)]]), (.row 2 [[(n 0), (n 1)]])]), (.agg [(n 0), ns, ns])]
noncomputable def res17 : F := (n 1)
noncomputable def known17 : Known := (73, arg17, res17) :: known16
/- tidegate/run.compare -/
noncomputable def arg18 : List F := [(.agg [(n 1), (.row 4 [[(n 1), (n 3), (n 0), (n 3)]]), (.row 2 [[(n 0), (n 3)]])]), (.agg [(n 0), ns, ns])]
noncomputable def res18 : F := (n 1)
noncomputable def known18 : Known := (73, arg18, res18) :: known17
/- tidegate/run.Run -/
noncomputable def arg19 : List F := [(.agg [(n 3), (n 1), (.row 1 [[ns], [(.row 11 [[(n 0), (n 1), (n 0), (n 0), ns, (n 0), (n 0), (n 0), (n 1), (n 1), (sb [])]])]]), (.row 17 [[(n 0), (n 1), (n 1), (n 0), (n 0), ns, (n 0), (n 0), (n 0), (n 1), (n 1), (sb []), (.row 1 [[(n 0)]]), ns, ns, ns, (.row 1 [[(n 0)]])], [(n 1), (n (-1)), (n 2), (n 0), (n 0), ns, (n 0), (n 0), (n 0), (n 1), (n 1), (sb []), ns, (.row 1 [[(n 0)]]), ns, ns, (.row 1 [[(n 0)]])]])]), (.row 5 [[(n 0), (n 1), (n 0), (n 1), ns], [(n 0), (n 2), (n 1), (n 2), ns], [(n 0), (n 3), (n 0), (n 3), ns]])]
noncomputable def res19 : F := (.tup [(.row 3 [[(n 0), ns, ns], [(n 1), (.row 4 [[(n 1), (n 3), (n 0), (n 3)]]), (.row 2 [[(n 0), (n 3)]])]]), ns, (n 0)])
noncomputable def known19 : Known := (29, arg19, res19) :: known18
/- tidegate/event.Compare -/
noncomputable def arg20 : List F := [(.agg [(n 0), (n 1), (n 0), (n 1), ns]), (.agg [(n 0), (n 2), (n 1), (n 2), ns])]
noncomputable def res20 : F := (n (-1))
noncomputable def known20 : Known := (64, arg20, res20) :: known19
/- tidegate/expr.Truth -/
noncomputable def arg21 : List F := [(.agg [(n 0), ns, (n 0), (n 0), (n 0), (n 1), (n 1), (sb [])]), (.agg [(.row 1 [[ns], [ns], [ns]])]), (n 1), (.agg [(n 0), (n 1), (n 0), (n 1), ns])]
noncomputable def res21 : F := bt
noncomputable def known21 : Known := (95, arg21, res21) :: known20
/- tidegate/run.opened -/
noncomputable def arg22 : List F := [ns, (.row 1 [[(n 0)]]), (n 1)]
noncomputable def res22 : F := (.row 2 [[(n 0), (n 1)]])
noncomputable def known22 : Known := (150, arg22, res22) :: known21
/- tidegate/run.violates -/
noncomputable def arg23 : List F := [(.agg [(n 0), (n 1), (n 0), (n 0), ns, (n 0), (n 0), (n 0), (n 1), (n 1), (sb [])]), (.agg [(.row 1 [[ns], [(.row 5 [[(n 0), (n 1), (n 0), (n 1), ns]])], [ns]])]), (.agg [(n 0), (n 2), (n 1), (n 2), ns])]
noncomputable def res23 : F := bt
noncomputable def known23 : Known := (102, arg23, res23) :: known22
/- tidegate/run.Run -/
noncomputable def arg24 : List F := [(.agg [(n 3), (n 1), (.row 1 [[ns], [(.row 11 [[(n 0), (n 1), (n 0), (n 0), ns, (n 0), (n 0), (n 0), (n 1), (n 1), (sb [])]])]]), (.row 17 [[(n 0), (n 1), (n 1), (n 0), (n 0), ns, (n 0), (n 0), (n 0), (n 1), (n 1), (sb []), (.row 1 [[(n 0)]]), ns, ns, ns, (.row 1 [[(n 0)]])], [(n 1), (n (-1)), (n 2), (n 0), (n 0), ns, (n 0), (n 0), (n 0), (n 1), (n 1), (sb []), ns, (.row 1 [[(n 0)]]), ns, ns, (.row 1 [[(n 0)]])]])]), (.row 5 [[(n 0), (n 1), (n 0), (n 1), ns], [(n 0), (n 2), (n 1), (n 2), ns]])]
noncomputable def res24 : F := (.tup [(.row 3 [[(n 0), ns, ns]]), ns, (n 0)])
noncomputable def known24 : Known := (29, arg24, res24) :: known23
/- tidegate/explain.Why -/
noncomputable def arg25 : List F := [(.agg [(n 5), (.row 14 [[(n 1), (.row 14 [[(n 0), ns, (n 0), (n 1), (n 0), (n 0), (n 0), ns, (n 0), (n 0), (n 0), (n 1), (n 1), (sb [])], [(n 0), ns, (n 0), (n 2), (n 0), (n 0), (n 0), ns, (n 0), (n 0), (n 0), (n 1), (n 1), (sb [])]]), (n 0), (n 0), (n 0), (n 0), (n 0), ns, (n 0), (n 0), (n 0), (n 0), (n 0), (sb [])]]), (n 1), (n 0), (n 0), (n 0), (n 0), ns, (n 0), (n 0), (n 0), (n 1), (n 1), (sb [])]), (.row 5 [[(n 0), (n 1), (n 0), (n 1), ns], [(n 0), (n 2), (n 1), (n 2), ns], [(n 0), (n 3), (n 0), (n 3), ns]]), (.agg [(n 3), (n 0), (n 3)])]
noncomputable def res25 : F := (.tup [ns, (.row 6 [[(n 7), (n 1), (n 0), (n 3), (n 0), (n 3)], [(n 1), (n 2), (n 0), (n 3), (n 0), (n 3)]]), (n 0)])
noncomputable def known25 : Known := (14, arg25, res25) :: known24
/- tidegate/explain.Why -/
noncomputable def arg26 : List F := [(.agg [(n 5), (.row 14 [[(n 1), (.row 14 [[(n 0), ns, (n 0), (n 1), (n 0), (n 0), (n 0), ns, (n 0), (n 0), (n 0), (n 1), (n 1), (sb [])], [(n 0), ns, (n 0), (n 2), (n 0), (n 0), (n 0), ns, (n 0), (n 0), (n 0), (n 1), (n 1), (sb [])]]), (n 0), (n 0), (n 0), (n 0), (n 0), ns, (n 0), (n 0), (n 0), (n 0), (n 0), (sb [])]]), (n 1), (n 0), (n 0), (n 0), (n 0), ns, (n 0), (n 0), (n 0), (n 1), (n 1), (sb [])]), (.row 5 [[(n 0), (n 1), (n 0), (n 1), ns], [(n 0), (n 2), (n 1), (n 2), ns], [(n 0), (n 3), (n 0), (n 3), ns]]), (.agg [(n 2), (n 0), (n 2)])]
noncomputable def res26 : F := (.tup [ns, (.row 6 [[(n 3), (n (-1)), (n 0), (n 2), (n 0), (n 2)]]), (n 0)])
noncomputable def known26 : Known := (14, arg26, res26) :: known25
/- tidegate/explain.typed -/
noncomputable def arg27 : List F := [(.agg [(n 5), (.row 14 [[(n 1), (.row 14 [[(n 0), ns, (n 0), (n 1), (n 0), (n 0), (n 0), ns, (n 0), (n 0), (n 0), (n 1), (n 1), (sb [])], [(n 0), ns, (n 0), (n 2), (n 0), (n 0), (n 0), ns, (n 0), (n 0), (n 0), (n 1), (n 1), (sb [])]]), (n 0), (n 0), (n 0), (n 0), (n 0), ns, (n 0), (n 0), (n 0), (n 0), (n 0), (sb [])]]), (n 1), (n 0), (n 0), (n 0), (n 0), ns, (n 0), (n 0), (n 0), (n 1), (n 1), (sb [])]), (n 0)]
noncomputable def res27 : F := (.row 1 [[(n 1)], [(n 2)]])
noncomputable def known27 : Known := (34, arg27, res27) :: known26
/- tidegate/explain.numbers -/
noncomputable def arg28 : List F := [(.row 1 [[(n 2)], [(n 0)], [(n 2)]])]
noncomputable def res28 : F := (sb [50, 47, 48, 47, 50])
noncomputable def known28 : Known := (8, arg28, res28) :: known27
/- tidegate/tidegatelaw58.awake -/
noncomputable def arg29 : List F := []
noncomputable def res29 : F := bt
noncomputable def known29 : Known := (5, arg29, res29) :: known28
end Go.Vm
