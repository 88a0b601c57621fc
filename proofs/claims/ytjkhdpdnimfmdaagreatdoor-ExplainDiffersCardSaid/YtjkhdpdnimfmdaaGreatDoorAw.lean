/- What the library's contracts pay: strings.Contains. -/
import Derived.Test.YtjkhdpdnimfmdaaGreatDoorEnv
import Derived.Test.YtjkhdpdnimfmdaaGreatDoorVd
import Derived.Test.YtjkhdpdnimfmdaaGreatDoorSh
import Derived.KernelRfl
import Derived.Test.YtjkhdpdnimfmdaaGreatDoorMa
import Derived.Test.YtjkhdpdnimfmdaaGreatDoorMb
import Derived.Test.YtjkhdpdnimfmdaaGreatDoorMc
import Derived.Test.YtjkhdpdnimfmdaaGreatDoorMd
set_option linter.unusedVariables false
set_option linter.unusedSimpArgs false
set_option linter.unusedSectionVars false
set_option maxRecDepth 100000
namespace Go.Vm
open Go.Proofs
variable [Valu]
theorem cell_at {w w1 : World} {r : Nat} (h : w1.heap[r]? = w.heap[r]?) (o : Nat) : w1.cell? ⟨r, o, none⟩ = w.cell? ⟨r, o, none⟩ := by
  unfold World.cell?; rw [h]
theorem enters58 (f : Nat) (fn : Func) (h1 : Tryz.prog.funcs[f]? = some fn) (h2 : (fn.name == "runtime.NumGoroutine") = false) (h3 : fn.body.isSome = true) : ∀ args w, (callFunc f args).run Tryz.prog w = .ok (.enter f args) w := by
  intro args w
  have hp : (program : Sem Program).run Tryz.prog w = .ok Tryz.prog w := rfl
  obtain ⟨c, hc⟩ := Option.isSome_iff_exists.1 h3
  simp only [callFunc, Sem.run_bind, hp, Result.andThen, h1]
  simp [h2, hc]
theorem base_ok {w : World} {m : Int} (hm : w.cell? ⟨2, 0, none⟩ = some (.int .i64 m)) : ∀ f xs x, base58 f xs = some x → PureCalls Tryz.prog ⟨w, 6⟩ f xs x := by
  intro f xs x h
  unfold base58 at h
  cases hf : Nat.beq f 39 with
  | false => rw [hf] at h; cases h
  | true =>
    rw [hf, cond_true] at h
    have := Nat.eq_of_beq_eq_true hf
    subst this
    split at h
    · rename_i a b
      cases hlt : Nat.blt a.size 4294967281 with
      | false => rw [hlt] at h; cases h
      | true =>
        rw [hlt, cond_true] at h
        cases h
        have hsz : a.size < 4294967281 := by simpa [Nat.blt_eq] using hlt
        refine ⟨enters58 39 Tryz.f39 (by kernel_rfl) (by kernel_rfl) (by kernel_rfl), fun st w1 vals hg hlt hl hr => ?_⟩
        have hv : vals = #[.string a, .string b] := by
          have h2 : vals.size = 2 := by simpa using hl.symm
          have e0 := hr 0 _ vals[0] rfl (by simp [h2])
          have e1 := hr 1 _ vals[1] rfl (by simp [h2])
          have v0 : vals[0] = .string a := by generalize vals[0] = y at e0; cases e0; rfl
          have v1 : vals[1] = .string b := by generalize vals[1] = y at e1; cases e1; rfl
          apply Array.ext
          · simpa using h2
          · intro i h3 h4
            have : i = 0 ∨ i = 1 := by omega
            rcases this with rfl | rfl
            · simpa using v0
            · simpa using v1
        subst hv
        refine (callsIn_wide (n := 0)).1 (((callsIn_wide (n := 0)).2 (Tryz.strings_Contains a b m w1 hsz (by rw [cell_at (hg 2 (show 2 < 6 by omega)).2]; exact hm))).mono ?_)
        rintro e w' ⟨rfl, rfl⟩
        exact ⟨_, rfl, Nat.le_refl _, fun _ _ => rfl, rfl, rfl, rfl, .s (.bool _)⟩
    · cases h
end Go.Vm
/- The examples of the chapter: awake answers true. -/
set_option linter.unusedVariables false
set_option linter.unusedSectionVars false
set_option maxRecDepth 100000
namespace Go.Vm
open Go.Proofs
variable [Valu] {w : World} {m : Int}
theorem known0_ok : KnownOk Tryz.prog ⟨w, 6⟩ known0 := fun _ h => by cases h
section
variable (hg : Stands w 6 glob58) (hm : w.cell? ⟨2, 0, none⟩ = some (.int .i64 m))
include hg hm
theorem known1_ok : KnownOk Tryz.prog ⟨w, 6⟩ known1 := KnownOk.cons known0_ok (KnownOk.run seat_ok hg .none (base_ok hm) known0_ok reck1)
theorem known2_ok : KnownOk Tryz.prog ⟨w, 6⟩ known2 := KnownOk.cons (known1_ok hg hm) (KnownOk.run seat_ok hg .none (base_ok hm) (known1_ok hg hm) reck2)
theorem known3_ok : KnownOk Tryz.prog ⟨w, 6⟩ known3 := KnownOk.cons (known2_ok hg hm) (KnownOk.run seat_ok hg .none (base_ok hm) (known2_ok hg hm) reck3)
theorem known4_ok : KnownOk Tryz.prog ⟨w, 6⟩ known4 := KnownOk.cons (known3_ok hg hm) (KnownOk.run seat_ok hg .none (base_ok hm) (known3_ok hg hm) reck4)
theorem known5_ok : KnownOk Tryz.prog ⟨w, 6⟩ known5 := KnownOk.cons (known4_ok hg hm) (KnownOk.run seat_ok hg .none (base_ok hm) (known4_ok hg hm) reck5)
theorem known6_ok : KnownOk Tryz.prog ⟨w, 6⟩ known6 := KnownOk.cons (known5_ok hg hm) (KnownOk.run seat_ok hg .none (base_ok hm) (known5_ok hg hm) reck6)
theorem known7_ok : KnownOk Tryz.prog ⟨w, 6⟩ known7 := KnownOk.cons (known6_ok hg hm) (KnownOk.run seat_ok hg .none (base_ok hm) (known6_ok hg hm) reck7)
theorem known8_ok : KnownOk Tryz.prog ⟨w, 6⟩ known8 := KnownOk.cons (known7_ok hg hm) (KnownOk.run seat_ok hg .none (base_ok hm) (known7_ok hg hm) reck8)
theorem known9_ok : KnownOk Tryz.prog ⟨w, 6⟩ known9 := KnownOk.cons (known8_ok hg hm) (KnownOk.run seat_ok hg .none (base_ok hm) (known8_ok hg hm) reck9)
theorem known10_ok : KnownOk Tryz.prog ⟨w, 6⟩ known10 := KnownOk.cons (known9_ok hg hm) (KnownOk.run seat_ok hg .none (base_ok hm) (known9_ok hg hm) reck10)
theorem known11_ok : KnownOk Tryz.prog ⟨w, 6⟩ known11 := KnownOk.cons (known10_ok hg hm) (KnownOk.run seat_ok hg .none (base_ok hm) (known10_ok hg hm) reck11)
theorem known12_ok : KnownOk Tryz.prog ⟨w, 6⟩ known12 := KnownOk.cons (known11_ok hg hm) (KnownOk.run seat_ok hg .none (base_ok hm) (known11_ok hg hm) reck12)
theorem known13_ok : KnownOk Tryz.prog ⟨w, 6⟩ known13 := KnownOk.cons (known12_ok hg hm) (KnownOk.run seat_ok hg .none (base_ok hm) (known12_ok hg hm) reck13)
theorem known14_ok : KnownOk Tryz.prog ⟨w, 6⟩ known14 := KnownOk.cons (known13_ok hg hm) (KnownOk.run seat_ok hg .none (base_ok hm) (known13_ok hg hm) reck14)
theorem known15_ok : KnownOk Tryz.prog ⟨w, 6⟩ known15 := KnownOk.cons (known14_ok hg hm) (KnownOk.run seat_ok hg .none (base_ok hm) (known14_ok hg hm) reck15)
theorem known16_ok : KnownOk Tryz.prog ⟨w, 6⟩ known16 := KnownOk.cons (known15_ok hg hm) (KnownOk.run seat_ok hg .none (base_ok hm) (known15_ok hg hm) reck16)
theorem known17_ok : KnownOk Tryz.prog ⟨w, 6⟩ known17 := KnownOk.cons (known16_ok hg hm) (KnownOk.run seat_ok hg .none (base_ok hm) (known16_ok hg hm) reck17)
theorem known18_ok : KnownOk Tryz.prog ⟨w, 6⟩ known18 := KnownOk.cons (known17_ok hg hm) (KnownOk.run seat_ok hg .none (base_ok hm) (known17_ok hg hm) reck18)
theorem known19_ok : KnownOk Tryz.prog ⟨w, 6⟩ known19 := KnownOk.cons (known18_ok hg hm) (KnownOk.run seat_ok hg .none (base_ok hm) (known18_ok hg hm) reck19)
theorem known20_ok : KnownOk Tryz.prog ⟨w, 6⟩ known20 := KnownOk.cons (known19_ok hg hm) (KnownOk.run seat_ok hg .none (base_ok hm) (known19_ok hg hm) reck20)
theorem known21_ok : KnownOk Tryz.prog ⟨w, 6⟩ known21 := KnownOk.cons (known20_ok hg hm) (KnownOk.run seat_ok hg .none (base_ok hm) (known20_ok hg hm) reck21)
theorem known22_ok : KnownOk Tryz.prog ⟨w, 6⟩ known22 := KnownOk.cons (known21_ok hg hm) (KnownOk.run seat_ok hg .none (base_ok hm) (known21_ok hg hm) reck22)
theorem known23_ok : KnownOk Tryz.prog ⟨w, 6⟩ known23 := KnownOk.cons (known22_ok hg hm) (KnownOk.run seat_ok hg .none (base_ok hm) (known22_ok hg hm) reck23)
theorem known24_ok : KnownOk Tryz.prog ⟨w, 6⟩ known24 := KnownOk.cons (known23_ok hg hm) (KnownOk.run seat_ok hg .none (base_ok hm) (known23_ok hg hm) reck24)
theorem known25_ok : KnownOk Tryz.prog ⟨w, 6⟩ known25 := KnownOk.cons (known24_ok hg hm) (KnownOk.run seat_ok hg .none (base_ok hm) (known24_ok hg hm) reck25)
theorem known26_ok : KnownOk Tryz.prog ⟨w, 6⟩ known26 := KnownOk.cons (known25_ok hg hm) (KnownOk.run seat_ok hg .none (base_ok hm) (known25_ok hg hm) reck26)
theorem known27_ok : KnownOk Tryz.prog ⟨w, 6⟩ known27 := KnownOk.cons (known26_ok hg hm) (KnownOk.run seat_ok hg .none (base_ok hm) (known26_ok hg hm) reck27)
theorem known28_ok : KnownOk Tryz.prog ⟨w, 6⟩ known28 := KnownOk.cons (known27_ok hg hm) (KnownOk.run seat_ok hg .none (base_ok hm) (known27_ok hg hm) reck28)
theorem known29_ok : KnownOk Tryz.prog ⟨w, 6⟩ known29 := KnownOk.cons (known28_ok hg hm) (KnownOk.run seat_ok hg .none (base_ok hm) (known28_ok hg hm) reck29)
/-- awake, called, returns true -/
theorem awake58 : PureCalls Tryz.prog ⟨w, 6⟩ 5 [] (.s (.bool true)) :=
  (known29_ok hg hm) (5, arg29, res29) (show (5, arg29, res29) ∈ (5, arg29, res29) :: known28 from List.mem_cons_self)
end
end Go.Vm
