/- explain.Format at symbols: its runs that end in an error. -/
import Derived.Test.YtjkhdpdnimfmdaaGreatDoorFa
import Derived.Test.YtjkhdpdnimfmdaaGreatDoorAw
import Derived.Lib.ItoaLen
set_option maxRecDepth 100000
set_option linter.unusedVariables false
namespace Go.Vm
/-- it ends in an error -/
noncomputable def failRun (o : Orac) (args : List F) : Bool :=
  match run (envF o knF) 10000 (.pcall 4 [varsF, .agg args]) with
  | some (.pv (.tup [.s (.str _), .s (.int .i64 e)])) => decide (e ≠ 0)
  | _ => false
/-- 4 Var, 5 Kind -/
def kindBins (lo hi : Bool) : List (BinOp × S × S × S) := [(.eql, .sym 5, inS 2, .bool false), (.eql, .sym 5, inS 5, .bool false), (.lss, .sym 5, inS 0, .bool lo), (.gtr, .sym 5, inS 7, .bool hi)]
theorem failLow : failRun ⟨kindBins true false, []⟩ [y 5, y 4, y 3, y 0, y 1, y 2] = true := by kernel_rfl
theorem failHigh : failRun ⟨kindBins false true, []⟩ [y 5, y 4, y 3, y 0, y 1, y 2] = true := by kernel_rfl
theorem failForm : failRun ⟨[], [(25, [inS 0, .sym 4, .sym 3, .sym 0, .sym 1, .sym 2], [inS 0, inS 0, inS 0, inS 0, inS 0, inS 0], false)]⟩ [n 0, y 4, y 3, y 0, y 1, y 2] = true := by kernel_rfl

def maxB : Int := 1099511627776
/-- the first test on the reference that fails -/
def placeBins : Nat → List (BinOp × S × S × S)
  | 0 => [(.geq, .sym 0, inS 0, .bool false)]
  | 1 => [(.geq, .sym 0, inS 0, .bool true), (.leq, .sym 0, inS maxB, .bool false)]
  | 2 => [(.geq, .sym 0, inS 0, .bool true), (.leq, .sym 0, inS maxB, .bool true), (.geq, .sym 1, inS 0, .bool false)]
  | 3 => [(.geq, .sym 0, inS 0, .bool true), (.leq, .sym 0, inS maxB, .bool true), (.geq, .sym 1, inS 0, .bool true), (.lss, .sym 1, inS 8, .bool false)]
  | 4 => [(.geq, .sym 0, inS 0, .bool true), (.leq, .sym 0, inS maxB, .bool true), (.geq, .sym 1, inS 0, .bool true), (.lss, .sym 1, inS 8, .bool true), (.geq, .sym 2, inS 0, .bool false)]
  | 5 => [(.geq, .sym 0, inS 0, .bool true), (.leq, .sym 0, inS maxB, .bool true), (.geq, .sym 1, inS 0, .bool true), (.lss, .sym 1, inS 8, .bool true), (.geq, .sym 2, inS 0, .bool true), (.leq, .sym 2, inS maxB, .bool false)]
  | 6 => okBins ++ [(.lss, .sym 3, inS 0, .bool true)]
  | 7 => okBins ++ [(.lss, .sym 3, inS 0, .bool false), (.geq, .sym 3, inS 64, .bool true)]
  | _ => okBins ++ scBins ++ [(.neq, .sym 3, inS 0, .bool true)]
theorem failPlace : ((List.range 7).all fun k => (List.range 8).all fun p => failRun ⟨placeBins p, []⟩ [n (k + 1 : Nat), y 4, y 3, y 0, y 1, y 2]) = true := by kernel_rfl
theorem failScope : ([1, 3, 4, 6, 7].all fun k : Nat => failRun ⟨placeBins 8, []⟩ [n k, y 4, y 3, y 0, y 1, y 2]) = true := by kernel_rfl
noncomputable def scopeOf (k : Nat) : F := if k == 2 || k == 5 then y 3 else n 0
theorem failVarLow : ((List.range 7).all fun k => failRun ⟨okBins ++ scBins ++ [(.neq, .sym 4, inS (-1), .bool true), (.lss, .sym 4, inS 0, .bool true)], []⟩ [n (k + 1 : Nat), y 4, scopeOf (k + 1), y 0, y 1, y 2]) = true := by kernel_rfl
theorem failVarHigh : ((List.range 7).all fun k => failRun ⟨okBins ++ scBins ++ [(.neq, .sym 4, inS (-1), .bool true), (.lss, .sym 4, inS 0, .bool false), (.geq, .sym 4, inS 16, .bool true)], []⟩ [n (k + 1 : Nat), y 4, scopeOf (k + 1), y 0, y 1, y 2]) = true := by kernel_rfl
theorem failVarNone : ([1, 2, 4, 5, 6, 7].all fun k : Nat => failRun ⟨okBins ++ scBins, []⟩ [n k, n (-1), scopeOf k, y 0, y 1, y 2]) = true := by kernel_rfl
theorem runNone : run (envF .none knF) 10000 (.pcall 4 [varsF, .agg [n 0, n 0, n 0, n 0, n 0, n 0]]) = some (.pv (.tup [.s (stS (wordOf 0)), n 0])) := by kernel_rfl
end Go.Vm
/- explain.Format: what the symbols of its runs stand for. -/
set_option linter.unusedVariables false
set_option linter.unusedSimpArgs false
set_option linter.unusedSectionVars false
set_option maxRecDepth 100000
namespace Go.Vm
open Go.Proofs
/-- a number's text -/
def itB (k : Int) : ByteArray := ⟨(Lib.itoa k).toArray⟩
def strB (l : List UInt8) : ByteArray := ⟨⟨l⟩⟩
def numText (r : Six) : ByteArray := (itB r.T ++ (strB [47] ++ itB r.So)) ++ (strB [47] ++ itB r.Sq)
def valF (p : List UInt8) (r : Six) : Nat → Value
  | 0 => .int .i64 r.T
  | 1 => .int .i64 r.So
  | 2 => .int .i64 r.Sq
  | 3 => .int .i64 r.Sc
  | 4 => .int .i64 r.V
  | 5 => .int .i64 r.K
  | 10 => .string (itB r.T)
  | 11 => .string (itB r.So)
  | 12 => .string (itB r.Sq)
  | 13 => .string (itB r.Sc)
  | 21 => .string (strB [47] ++ itB r.So)
  | 30 => .string (itB r.T ++ (strB [47] ++ itB r.So))
  | 22 => .string (strB [47] ++ itB r.Sq)
  | 31 => .string (numText r)
  | 40 => .string (strB p ++ numText r)
  | 23 => .string (strB scopeB ++ itB r.Sc)
  | 41 => .string ((strB p ++ numText r) ++ (strB scopeB ++ itB r.Sc))
  | _ => .bool false
theorem valF_plain (p : List UInt8) (r : Six) (i : Nat) : (∃ k n, valF p r i = .int k n) ∨ (∃ s, valF p r i = .string s) ∨ ∃ b, valF p r i = .bool b := by
  unfold valF
  split <;> first | exact .inl ⟨_, _, rfl⟩ | exact .inr (.inl ⟨_, rfl⟩) | exact .inr (.inr ⟨_, rfl⟩)
@[reducible] def valuF (p : List UInt8) (r : Six) : Valu := ⟨valF p r, valF_plain p r⟩
/-- the numbers are int64s -/
structure Six.fits (r : Six) : Prop where
  T : -9223372036854775808 ≤ r.T ∧ r.T ≤ 9223372036854775807
  So : -9223372036854775808 ≤ r.So ∧ r.So ≤ 9223372036854775807
  Sq : -9223372036854775808 ≤ r.Sq ∧ r.Sq ≤ 9223372036854775807
  Sc : -9223372036854775808 ≤ r.Sc ∧ r.Sc ≤ 9223372036854775807
theorem itB_size {k : Int} (h : -9223372036854775808 ≤ k ∧ k ≤ 9223372036854775807) : (itB k).size ≤ 21 := by
  have := Lib.itoa_length_le k h.1 h.2
  show (Lib.itoa k).toArray.size ≤ 21
  simpa using this
end Go.Vm
namespace Go.Vm
/-- it is so, of what the symbols stand for -/
def BinOk (v : Valu) (e : BinOp × S × S × S) : Prop := ∃ sa sb sr : S, @S.val v e.2.1 = @S.val v sa ∧ @S.val v e.2.2.1 = @S.val v sb ∧ @S.val v e.2.2.2 = @S.val v sr ∧ binS e.1 sa sb = some sr
theorem binOk_int {v : Valu} {op : BinOp} {a b : S} {x y : Int} {t : Bool} (ha : @S.val v a = .int .i64 x) (hb : @S.val v b = .int .i64 y) (h : binS op (.int .i64 x) (.int .i64 y) = some (.bool t)) : BinOk v (op, a, b, .bool t) :=
  ⟨.int .i64 x, .int .i64 y, .bool t, ha, hb, rfl, h⟩
theorem binOk_add {v : Valu} {a b c : S} {x y : ByteArray} (ha : @S.val v a = .string x) (hb : @S.val v b = .string y) (hc : @S.val v c = .string (x ++ y)) (h : x.size + y.size ≤ 2 ^ 40) : BinOk v (.add, a, b, c) :=
  ⟨.str x, .str y, .str (x ++ y), ha, hb, hc, by simp [binS, h]⟩
theorem oracOk_of {v : Valu} {T : Tab TyI} {l : List (BinOp × S × S × S)} (h : ∀ e ∈ l, BinOk v e) : @OracOk v T ⟨l, []⟩ :=
  @OracOk.mk v T ⟨l, []⟩ (fun op a b s hm => h _ hm) (fun _ _ _ _ hm => by cases hm)
theorem okBins_ok {p : List UInt8} {r : Six} (h : r.placed) : ∀ e ∈ okBins, BinOk (valuF p r) e := by
  obtain ⟨h1, h2, h3, h4⟩ := h
  intro e he
  simp only [okBins, List.mem_cons, List.not_mem_nil, or_false] at he
  rcases he with rfl | rfl | rfl | rfl | rfl | rfl <;> refine binOk_int rfl rfl ?_ <;> simp [binS, arith] <;> omega
theorem scBins_ok {p : List UInt8} {r : Six} (h : r.placed) : ∀ e ∈ scBins, BinOk (valuF p r) e := by
  obtain ⟨h1, h2, h3, h4⟩ := h
  intro e he
  simp only [scBins, List.mem_cons, List.not_mem_nil, or_false] at he
  rcases he with rfl | rfl <;> refine binOk_int rfl rfl ?_ <;> simp [binS, arith] <;> omega
end Go.Vm
namespace Go.Vm
open Go.Proofs
theorem size_app (a b : ByteArray) : (a ++ b).size = a.size + b.size := by simp
theorem numText_size {r : Six} (h : r.fits) : (numText r).size ≤ 65 := by
  have h1 := itB_size h.T
  have h2 := itB_size h.So
  have h3 := itB_size h.Sq
  have h4 : (strB [47]).size = 1 := rfl
  simp only [numText, size_app]
  omega
theorem numBins_ok {p : List UInt8} {r : Six} (h : r.fits) : ∀ e ∈ numBins, BinOk (valuF p r) e := by
  have h1 := itB_size h.T
  have h2 := itB_size h.So
  have h3 := itB_size h.Sq
  have h4 : (strB [47]).size = 1 := rfl
  intro e he
  simp only [numBins, List.mem_cons, List.not_mem_nil, or_false] at he
  rcases he with rfl | rfl | rfl | rfl
  · exact binOk_add (x := strB [47]) (y := itB r.So) rfl rfl rfl (by omega)
  · exact binOk_add (x := itB r.T) (y := strB [47] ++ itB r.So) rfl rfl rfl (by rw [size_app]; omega)
  · exact binOk_add (x := strB [47]) (y := itB r.Sq) rfl rfl rfl (by omega)
  · exact binOk_add (x := itB r.T ++ (strB [47] ++ itB r.So)) (y := strB [47] ++ itB r.Sq) rfl rfl rfl (by simp only [size_app]; omega)
theorem outBins_ok {p : List UInt8} {sco : Bool} {r : Six} (h : r.fits) (hp : p.length ≤ 100) : ∀ e ∈ outBins p sco, BinOk (valuF p r) e := by
  have h1 := numText_size h
  have h2 := itB_size h.Sc
  have h3 : (strB p).size = p.length := rfl
  have h4 : (strB scopeB).size = 7 := rfl
  intro e he
  unfold outBins at he
  cases sco <;> simp only [Bool.false_eq_true, if_false, if_true, List.mem_cons, List.not_mem_nil, or_false] at he
  · subst he; exact binOk_add (x := strB p) (y := numText r) rfl rfl rfl (by omega)
  · rcases he with rfl | rfl | rfl
    · exact binOk_add (x := strB p) (y := numText r) rfl rfl rfl (by omega)
    · exact binOk_add (x := strB scopeB) (y := itB r.Sc) rfl rfl rfl (by omega)
    · exact binOk_add (x := strB p ++ numText r) (y := strB scopeB ++ itB r.Sc) rfl rfl rfl (by simp only [size_app]; omega)
end Go.Vm
/- explain.Format: calls with symbols, paid. -/
set_option linter.unusedVariables false
set_option linter.unusedSimpArgs false
set_option linter.unusedSectionVars false
set_option maxRecDepth 100000
namespace Go.Vm
open Go.Proofs
abbrev TabP (w : World) : Prop := Lib.TabIs Tryz.prog w "internal/strconv.uint64pow10" .u64 Lib.pow10Tab
theorem tab_kept {w w1 : World} (h : TabP w) (hg : w1.heap[1]? = w.heap[1]?) : TabP w1 := by
  unfold TabP Lib.TabIs World.var? at h ⊢
  have e : Tryz.prog.globalNamed "internal/strconv.uint64pow10" = some 1 := by kernel_rfl
  rw [e] at h ⊢
  simp only [Option.bind_some] at h ⊢
  rw [hg]; exact h
theorem itoa_pure {v : Valu} {w : World} (htab : TabP w) {i j : Nat} {k : Int} (hi : v.val i = .int .i64 k) (hj : v.val j = .string (itB k)) (hk : -9223372036854775808 ≤ k ∧ k ≤ 9223372036854775807) :
    @PureCalls v Tryz.prog ⟨w, 6⟩ 9 [.s (.sym i)] (.s (.sym j)) := by
  refine ⟨enters58 9 Tryz.f9 (by kernel_rfl) (by kernel_rfl) (by kernel_rfl), fun st w1 vals hg hlt hl hr => ?_⟩
  have hv : vals = #[.int .i64 k] := by
    have h2 : vals.size = 1 := by simpa using hl.symm
    have e0 := hr 0 _ vals[0] rfl (by simp [h2])
    have v0 : vals[0] = .int .i64 k := by
      generalize vals[0] = y at e0
      cases e0; exact hi
    apply Array.ext
    · simpa using h2
    · intro i h3 h4
      have : i = 0 := by omega
      subst this; simpa using v0
  subst hv
  refine (callsIn_wide (n := 0)).1 (((callsIn_wide (n := 0)).2 (Tryz.strconv_Itoa k hk.1 hk.2 w1 (tab_kept htab (hg 1 (show 1 < 6 by omega)).2))).mono ?_)
  rintro e w' ⟨rfl, k', os, rfl⟩
  refine ⟨_, rfl, ?_, fun r hr => ?_, rfl, rfl, rfl, ?_⟩
  · show w1.heap.size ≤ (w1.heap ++ os).size
    simp
  · show (w1.heap ++ os)[r]? = w1.heap[r]?
    rw [Array.getElem?_append_left hr]
  · have e : @S.val v (.sym j) = .string ⟨(Lib.itoa k).toArray⟩ := hj
    rw [← e]
    exact @FRel.s v _ _ (.sym j)
theorem knF_ok {p : List UInt8} {r : Six} {w : World} (h : r.fits) (htab : TabP w) : @KnownOk (valuF p r) Tryz.prog ⟨w, 6⟩ knF := by
  intro e he
  simp only [knF, List.mem_cons, List.not_mem_nil, or_false] at he
  rcases he with rfl | rfl | rfl | rfl
  · exact itoa_pure (v := valuF p r) htab rfl rfl h.T
  · exact itoa_pure (v := valuF p r) htab rfl rfl h.So
  · exact itoa_pure (v := valuF p r) htab rfl rfl h.Sq
  · exact itoa_pure (v := valuF p r) htab rfl rfl h.Sc
end Go.Vm
/- explain.Format, at each reason. -/
set_option linter.unusedVariables false
set_option linter.unusedSimpArgs false
set_option linter.unusedSectionVars false
set_option maxRecDepth 100000
namespace Go.Vm
open Go.Proofs
/-- a reason by content -/
noncomputable def sixF (r : Six) : F := .agg [n r.K, n r.V, n r.Sc, n r.T, n r.So, n r.Sq]
/-- what Format returns for a reason -/
def FmtRes (w : World) (r : Six) : Prop :=
  ∃ (s : ByteArray) (e : Int), (∀ v : Valu, @PureCalls v Tryz.prog ⟨w, 6⟩ 4 [varsF, sixF r] (.tup [.s (.str s), n e])) ∧ (e ≠ 0 ∨ (e = 0 ∧ r.good ∧ s = strB (okText r)))
theorem strB_app (a b : List UInt8) : strB a ++ strB b = strB (a ++ b) := by
  apply ByteArray.ext
  rw [ByteArray.data_append]
  simp [strB]
theorem itB_eq (k : Int) : itB k = strB (Lib.itoa k) := rfl
theorem numText_eq (r : Six) : numText r = strB (numL r) := by
  unfold numText numL
  simp only [itB_eq, strB_app]
section
variable {w : World} {m : Int} {p : List UInt8} {r : Six}
theorem fmt_of_run (hg : ∀ v : Valu, @Stands v w 6 glob58) (hm : w.cell? ⟨2, 0, none⟩ = some (.int .i64 m)) {o : Orac} (ho : @OracOk (valuF p r) tyTab o) {l : Known} (hl : @KnownOk (valuF p r) Tryz.prog ⟨w, 6⟩ l) {f : Nat} {args : List F} {x : F}
    (hrun : run (envF o l) 10000 (.pcall f args) = some (.pv x)) (v : Valu) : @PureCalls v Tryz.prog ⟨w, 6⟩ f (F.concL (valF p r) args) (x.conc (valF p r)) :=
  @PureCalls.conc (valuF p r) v _ _ _ _ _ (@KnownOk.run (valuF p r) _ _ _ _ _ _ _ _ _ _ _ (@seat_ok (valuF p r)) (hg _) ho (@base_ok (valuF p r) _ _ hm) hl _ _ _ _ hrun)
theorem failRun_some {o : Orac} {args : List F} (h : failRun o args = true) : ∃ s e, run (envF o knF) 10000 (.pcall 4 [varsF, .agg args]) = some (.pv (.tup [.s (.str s), .s (.int .i64 e)])) ∧ e ≠ 0 := by
  unfold failRun at h
  split at h
  · rename_i s e hs
    exact ⟨s, e, hs, by simpa using h⟩
  · cases h
theorem fmt_of_fail (hg : ∀ v : Valu, @Stands v w 6 glob58) (hm : w.cell? ⟨2, 0, none⟩ = some (.int .i64 m)) (htab : TabP w) (hf : r.fits) {o : Orac} (ho : @OracOk (valuF [] r) tyTab o) {args : List F} (h : failRun o args = true)
    (ha : F.concL (valF [] r) [varsF, .agg args] = [varsF, sixF r]) : FmtRes w r := by
  obtain ⟨s, e, hs, he⟩ := failRun_some h
  refine ⟨s, e, fun v => ?_, .inl he⟩
  have := fmt_of_run hg hm ho (knF_ok hf htab) hs v
  rw [ha] at this
  exact this
theorem okRun_some {k : Nat} {v : Int} {p : List UInt8} {sco : Bool} (hs : (k == 2 || k == 5) = sco) (h : okRun k v p = true) :
    run (envF ⟨okBins ++ scBins ++ outBins p sco, []⟩ ((8, [.row 1 [[y 0], [y 1], [y 2]]], y 31) :: knF)) 10000 (.pcall 4 [varsF, .agg [n k, n v, (if sco then y 3 else n 0), y 0, y 1, y 2]]) = some (.pv (.tup [if sco then y 41 else y 40, n 0])) := by
  unfold okRun at h
  simp only [hs] at h
  split at h
  · rename_i x hx
    rw [hx, @F.beq_eq ⟨fun _ => .bool false, fun _ => .inr (.inr ⟨_, rfl⟩)⟩ _ _ h]
  · cases h
theorem conc_args0 (r : Six) (p : List UInt8) (a b c : F) : F.concL (valF p r) [varsF, .agg [a, b, c, y 0, y 1, y 2]] = [varsF, .agg [a.conc (valF p r), b.conc (valF p r), c.conc (valF p r), n r.T, n r.So, n r.Sq]] := by kernel_rfl
theorem fmt_of_ok (hg : ∀ v : Valu, @Stands v w 6 glob58) (hm : w.cell? ⟨2, 0, none⟩ = some (.int .i64 m)) (htab : TabP w) (hf : r.fits) (hgood : r.good) {k : Nat} {v : Int} {p : List UInt8} {sco : Bool} (hs : (k == 2 || k == 5) = sco) (h : okRun k v p = true)
    (hK : r.K = k) (hk0 : k ≠ 0) (hV : r.V = v) (hp : p = r.pre) (hpl : p.length ≤ 100) : FmtRes w r := by
  have hsco : r.sco = sco := by
    rw [← hs]; unfold Six.sco; rw [hK]
    have e1 : ((k : Int) == 2) = (k == 2) := by rw [Bool.eq_iff_iff]; simp only [beq_iff_eq]; omega
    have e2 : ((k : Int) == 5) = (k == 5) := by rw [Bool.eq_iff_iff]; simp only [beq_iff_eq]; omega
    rw [e1, e2]
  have hnum : @KnownOk (valuF p r) Tryz.prog ⟨w, 6⟩ ((8, [.row 1 [[y 0], [y 1], [y 2]]], y 31) :: knF) := by
    refine @KnownOk.cons (valuF p r) _ _ _ (knF_ok hf htab) _ _ _ ?_
    exact @KnownOk.run (valuF p r) _ _ _ _ _ _ _ _ _ _ _ (@seat_ok (valuF p r)) (hg _) (oracOk_of (numBins_ok hf)) (@base_ok (valuF p r) _ _ hm) (knF_ok hf htab) _ _ _ _ numRun
  have ho : @OracOk (valuF p r) tyTab ⟨okBins ++ scBins ++ outBins p sco, []⟩ := oracOk_of fun e he => by
    rcases List.mem_append.1 he with he | he
    · rcases List.mem_append.1 he with he | he
      · exact okBins_ok hgood.placed e he
      · exact scBins_ok hgood.placed e he
    · exact outBins_ok hf hpl e he
  have hrun := fun v => fmt_of_run hg hm ho hnum (okRun_some hs h) v
  have hK0 : r.K ≠ 0 := by omega
  refine ⟨strB (okText r), 0, fun v' => ?_, .inr ⟨rfl, hgood, rfl⟩⟩
  have h1 := hrun v'
  rw [conc_args0] at h1
  have ha : F.agg [F.conc (valF p r) (n k), F.conc (valF p r) (n v), F.conc (valF p r) (if sco then y 3 else n 0), n r.T, n r.So, n r.Sq] = sixF r := by
    unfold sixF
    have hc : F.conc (valF p r) (if sco then y 3 else n 0) = n r.Sc := by
      cases sco with
      | true => rfl
      | false => rw [hgood.sc hsco]; rfl
    rw [hc, hK, hV]; rfl
  rw [ha] at h1
  have hx : F.conc (valF p r) (.tup [if sco then y 41 else y 40, n 0]) = .tup [.s (.str (strB (okText r))), n 0] := by
    unfold okText
    rw [if_neg hK0, hsco]
    cases sco with
    | true =>
      simp only [↓reduceIte]
      rw [← strB_app, ← strB_app, ← strB_app, ← numText_eq, ← itB_eq, ← hp]; rfl
    | false =>
      simp only [Bool.false_eq_true, ↓reduceIte]
      rw [← strB_app, ← numText_eq, ← hp]; rfl
  rw [hx] at h1
  exact h1

theorem kind_cases {P : Nat → Prop} (h : ∀ k, k < 7 → P (k + 1)) {K : Int} (h1 : 1 ≤ K) (h2 : K ≤ 7) : ∃ k : Nat, K = k ∧ 1 ≤ k ∧ k ≤ 7 ∧ P k :=
  ⟨K.toNat, by omega, by omega, by omega, by have := h (K.toNat - 1) (by omega); rwa [show K.toNat - 1 + 1 = K.toNat by omega] at this⟩
theorem okAll {k v : Nat} (h1 : 1 ≤ k) (h2 : k ≤ 7) (hv : v < 16) : okRun k v (preOf k v) = true := by
  have hm := List.mem_range.2 hv
  have hk : k = 1 ∨ k = 2 ∨ k = 3 ∨ k = 4 ∨ k = 5 ∨ k = 6 ∨ k = 7 := by omega
  rcases hk with rfl | rfl | rfl | rfl | rfl | rfl | rfl
  · exact List.all_eq_true.1 okAll1 v hm
  · exact List.all_eq_true.1 okAll2 v hm
  · exact List.all_eq_true.1 okAll3 v hm
  · exact List.all_eq_true.1 okAll4 v hm
  · exact List.all_eq_true.1 okAll5 v hm
  · exact List.all_eq_true.1 okAll6 v hm
  · exact List.all_eq_true.1 okAll7 v hm
theorem wordOf_len (k : Nat) (h : k ≤ 7) : (wordOf k).length ≤ 10 := by
  have : ∀ k : Fin 8, (wordOf k.val).length ≤ 10 := by decide
  exact this ⟨k, by omega⟩
theorem bins_cons {v : Valu} {e : BinOp × S × S × S} {l} (h : BinOk v e) (hl : ∀ x ∈ l, BinOk v x) : ∀ x ∈ e :: l, BinOk v x := by
  intro x hx
  rcases List.mem_cons.1 hx with rfl | hx
  · exact h
  · exact hl x hx
theorem bins_app {v : Valu} {l l' : List (BinOp × S × S × S)} (h : ∀ x ∈ l, BinOk v x) (hl : ∀ x ∈ l', BinOk v x) : ∀ x ∈ l ++ l', BinOk v x := by
  intro x hx
  rcases List.mem_append.1 hx with hx | hx
  · exact h x hx
  · exact hl x hx
theorem bins_nil {v : Valu} : ∀ x ∈ ([] : List (BinOp × S × S × S)), BinOk v x := fun _ h => by cases h
theorem zeroSix {r : Six} (h : r = ⟨0, 0, 0, 0, 0, 0⟩) : sixF r = .agg [n 0, n 0, n 0, n 0, n 0, n 0] := by rw [h]; rfl
theorem get25 : tyTab.get 25 = some ty25 := by kernel_rfl
theorem zero25 : ty25.zero = [.int .i64 0, .int .i64 0, .int .i64 0, .int .i64 0, .int .i64 0, .int .i64 0] := by kernel_rfl
theorem fmt_all (hg : ∀ v : Valu, @Stands v w 6 glob58) (hm : w.cell? ⟨2, 0, none⟩ = some (.int .i64 m)) (htab : TabP w) (hf : r.fits) : FmtRes w r := by
  -- the kind
  rcases Int.lt_or_le r.K 0 with hlo | hlo
  · refine fmt_of_fail hg hm htab hf (oracOk_of ?_) failLow rfl
    unfold kindBins
    refine bins_cons (binOk_int rfl rfl ?_) (bins_cons (binOk_int rfl rfl ?_) (bins_cons (binOk_int rfl rfl ?_) (bins_cons (binOk_int rfl rfl ?_) bins_nil))) <;> simp [binS, arith] <;> omega
  rcases Int.lt_or_le 7 r.K with hhi | hhi
  · refine fmt_of_fail hg hm htab hf (oracOk_of ?_) failHigh rfl
    unfold kindBins
    refine bins_cons (binOk_int rfl rfl ?_) (bins_cons (binOk_int rfl rfl ?_) (bins_cons (binOk_int rfl rfl ?_) (bins_cons (binOk_int rfl rfl ?_) bins_nil))) <;> simp [binS, arith] <;> omega
  by_cases h0 : r.K = 0
  · by_cases hz : r = ⟨0, 0, 0, 0, 0, 0⟩
    · have hgood : r.good := by
        rw [hz]; exact ⟨⟨by decide, by decide, by decide, by decide⟩, by decide, fun _ => rfl, fun _ => rfl, fun h => absurd rfl h⟩
      refine ⟨strB (wordOf 0), 0, fun v => ?_, .inr ⟨rfl, hgood, by unfold okText; rw [if_pos h0]⟩⟩
      have := fmt_of_run (p := []) (r := r) hg hm (@OracOk.none (valuF [] r) tyTab) (knF_ok hf htab) runNone v
      rw [zeroSix hz]
      exact this
    · refine fmt_of_fail hg hm htab hf (o := ⟨[], _⟩) ?_ failForm (by rw [conc_args0]; unfold sixF; rw [h0]; rfl)
      refine @OracOk.mk (valuF [] r) _ _ (fun _ _ _ _ h => by cases h) ?_
      intro t xs ys b hmem
      simp only [List.mem_cons, List.not_mem_nil, or_false, Prod.mk.injEq] at hmem
      obtain ⟨rfl, rfl, rfl, rfl⟩ := hmem
      refine ⟨[.int .i64 0, .int .i64 r.V, .int .i64 r.Sc, .int .i64 r.T, .int .i64 r.So, .int .i64 r.Sq], [.int .i64 0, .int .i64 0, .int .i64 0, .int .i64 0, .int .i64 0, .int .i64 0], rfl, rfl, rfl, fun i hi => ?_, ?_⟩
      · rw [get25] at hi; cases hi; rw [zero25]; rfl
      · symm; rw [decide_eq_false_iff_not]
        intro he
        simp only [List.cons.injEq, S.int.injEq, true_and, and_true] at he
        exact hz (Six.ext h0 he.1 he.2.1 he.2.2.1 he.2.2.2.1 he.2.2.2.2)
  obtain ⟨k, hK, hk1, hk7⟩ : ∃ k : Nat, r.K = k ∧ 1 ≤ k ∧ k ≤ 7 := ⟨r.K.toNat, by omega, by omega, by omega⟩
  have hplace : ∀ q, q < 8 → (∀ e ∈ placeBins q, BinOk (valuF [] r) e) → FmtRes w r := by
    intro q hq hb
    have h1 := List.all_eq_true.1 (List.all_eq_true.1 failPlace (k - 1) (List.mem_range.2 (by omega))) q (List.mem_range.2 hq)
    rw [show ((k - 1 + 1 : Nat) : Int) = r.K by omega] at h1
    refine fmt_of_fail hg hm htab hf (oracOk_of hb) h1 ?_
    rw [conc_args0]; rfl
  rcases Int.lt_or_le r.T 0 with h | hT1
  · refine hplace 0 (by omega) ?_
    unfold placeBins
    exact bins_cons (binOk_int rfl rfl (by simp [binS, arith]; omega)) bins_nil
  have b1 : BinOk (valuF [] r) (.geq, .sym 0, inS 0, .bool true) := binOk_int rfl rfl (by simp [binS, arith]; omega)
  rcases Int.lt_or_le maxB r.T with h | hT2
  · refine hplace 1 (by omega) ?_
    unfold placeBins
    unfold maxB at h
    exact bins_cons b1 (bins_cons (binOk_int rfl rfl (by simp [binS, arith]; unfold maxB; omega)) bins_nil)
  unfold maxB at hT2
  have b2 : BinOk (valuF [] r) (.leq, .sym 0, inS maxB, .bool true) := binOk_int rfl rfl (by simp [binS, arith]; unfold maxB; omega)
  rcases Int.lt_or_le r.So 0 with h | hS1
  · refine hplace 2 (by omega) ?_
    unfold placeBins
    exact bins_cons b1 (bins_cons b2 (bins_cons (binOk_int rfl rfl (by simp [binS, arith]; omega)) bins_nil))
  have b3 : BinOk (valuF [] r) (.geq, .sym 1, inS 0, .bool true) := binOk_int rfl rfl (by simp [binS, arith]; omega)
  rcases Int.lt_or_le r.So 8 with hS2 | h
  rotate_left
  · refine hplace 3 (by omega) ?_
    unfold placeBins
    exact bins_cons b1 (bins_cons b2 (bins_cons b3 (bins_cons (binOk_int rfl rfl (by simp [binS, arith]; omega)) bins_nil)))
  have b4 : BinOk (valuF [] r) (.lss, .sym 1, inS 8, .bool true) := binOk_int rfl rfl (by simp [binS, arith]; omega)
  rcases Int.lt_or_le r.Sq 0 with h | hQ1
  · refine hplace 4 (by omega) ?_
    unfold placeBins
    exact bins_cons b1 (bins_cons b2 (bins_cons b3 (bins_cons b4 (bins_cons (binOk_int rfl rfl (by simp [binS, arith]; omega)) bins_nil))))
  have b5 : BinOk (valuF [] r) (.geq, .sym 2, inS 0, .bool true) := binOk_int rfl rfl (by simp [binS, arith]; omega)
  rcases Int.lt_or_le maxB r.Sq with h | hQ2
  · refine hplace 5 (by omega) ?_
    unfold placeBins
    unfold maxB at h
    exact bins_cons b1 (bins_cons b2 (bins_cons b3 (bins_cons b4 (bins_cons b5 (bins_cons (binOk_int rfl rfl (by simp [binS, arith]; unfold maxB; omega)) bins_nil)))))
  unfold maxB at hQ2
  have hok : ∀ p, ∀ e ∈ okBins, BinOk (valuF p r) e := fun p e he => by
    simp only [okBins, List.mem_cons, List.not_mem_nil, or_false] at he
    rcases he with rfl | rfl | rfl | rfl | rfl | rfl <;> refine binOk_int rfl rfl ?_ <;> simp [binS, arith] <;> omega
  rcases Int.lt_or_le r.Sc 0 with h | hC1
  · refine hplace 6 (by omega) ?_
    unfold placeBins
    exact bins_app (hok _) (bins_cons (binOk_int rfl rfl (by simp [binS, arith]; omega)) bins_nil)
  have b6 : BinOk (valuF [] r) (.lss, .sym 3, inS 0, .bool false) := binOk_int rfl rfl (by simp [binS, arith]; omega)
  rcases Int.lt_or_le r.Sc 64 with hC2 | h
  rotate_left
  · refine hplace 7 (by omega) ?_
    unfold placeBins
    exact bins_app (hok _) (bins_cons b6 (bins_cons (binOk_int rfl rfl (by simp [binS, arith]; omega)) bins_nil))
  have hpl : r.placed := ⟨⟨hT1, hT2⟩, ⟨hS1, hS2⟩, ⟨hQ1, hQ2⟩, hC1, hC2⟩
  have hscB : ∀ e ∈ scBins, BinOk (valuF [] r) e := scBins_ok hpl
  have hkeq : (k = 2 ∨ k = 5) ∨ (k = 1 ∨ k = 3 ∨ k = 4 ∨ k = 6 ∨ k = 7) := by omega
  -- the scope
  by_cases hsc0 : ¬ (k = 2 ∨ k = 5) ∧ r.Sc ≠ 0
  · have hmem : k ∈ [1, 3, 4, 6, 7] := by simp; omega
    have h1 := List.all_eq_true.1 failScope k hmem
    refine fmt_of_fail hg hm htab hf (oracOk_of ?_) h1 (by rw [conc_args0]; unfold sixF; rw [hK]; rfl)
    exact bins_app (bins_app (hok _) hscB) (bins_cons (binOk_int rfl rfl (by simp [binS, arith]; omega)) bins_nil)
  have hscope : ∀ p, F.conc (valF p r) (scopeOf k) = n r.Sc := by
    intro p
    unfold scopeOf
    rcases hkeq with h | h
    · rw [if_pos (by simp; exact h)]; rfl
    · rw [if_neg (by simp; omega)]
      have : r.Sc = 0 := by omega
      rw [this]; rfl
  have hargs : ∀ a : F, a.conc (valF [] r) = n r.V → F.concL (valF [] r) [varsF, .agg [n k, a, scopeOf k, y 0, y 1, y 2]] = [varsF, sixF r] := by
    intro a ha
    rw [conc_args0, hscope, ha]; unfold sixF; rw [hK]; rfl
  -- the variable
  by_cases hvn : r.V = -1 ∧ k ≠ 3
  · have hmem : k ∈ [1, 2, 4, 5, 6, 7] := by simp; omega
    have h1 := List.all_eq_true.1 failVarNone k hmem
    refine fmt_of_fail hg hm htab hf (oracOk_of ?_) h1 (hargs _ (by rw [hvn.1]; rfl))
    exact bins_app (hok _) hscB
  by_cases hvt : r.V = -1
  · have hk3 : k = 3 := by omega
    subst hk3
    have hgood : r.good := ⟨hpl, ⟨hlo, hhi⟩, fun h => absurd h h0, fun _ => by omega, fun _ => .inr ⟨hK, hvt⟩⟩
    refine fmt_of_ok hg hm htab hf hgood (k := 3) (sco := false) rfl okType hK (by omega) hvt ?_ ?_
    · unfold Six.pre; rw [if_pos hvt, hK]; rfl
    · have := wordOf_len 3 (by omega)
      simp; omega
  have bneq : BinOk (valuF [] r) (.neq, .sym 4, inS (-1), .bool true) := binOk_int rfl rfl (by simp [binS, arith]; omega)
  rcases Int.lt_or_le r.V 0 with h | hV1
  · have h1 := List.all_eq_true.1 failVarLow (k - 1) (List.mem_range.2 (by omega))
    rw [show k - 1 + 1 = k by omega] at h1
    refine fmt_of_fail hg hm htab hf (oracOk_of ?_) h1 (hargs _ rfl)
    exact bins_app (bins_app (hok _) hscB) (bins_cons bneq (bins_cons (binOk_int rfl rfl (by simp [binS, arith]; omega)) bins_nil))
  rcases Int.lt_or_le r.V 16 with hV2 | h
  rotate_left
  · have h1 := List.all_eq_true.1 failVarHigh (k - 1) (List.mem_range.2 (by omega))
    rw [show k - 1 + 1 = k by omega] at h1
    refine fmt_of_fail hg hm htab hf (oracOk_of ?_) h1 (hargs _ rfl)
    exact bins_app (bins_app (hok _) hscB) (bins_cons bneq (bins_cons (binOk_int rfl rfl (by simp [binS, arith]; omega)) (bins_cons (binOk_int rfl rfl (by simp [binS, arith]; omega)) bins_nil)))
  obtain ⟨v, hv⟩ : ∃ v : Nat, r.V = v := ⟨r.V.toNat, by omega⟩
  have hgood : r.good := ⟨hpl, ⟨hlo, hhi⟩, fun h => absurd h h0, fun hs => by
    unfold Six.sco at hs
    simp only [Bool.or_eq_false_iff, beq_eq_false_iff_ne] at hs
    by_cases hz : r.Sc = 0
    · exact hz
    · exact absurd ⟨by omega, hz⟩ hsc0, fun _ => .inl ⟨hV1, hV2⟩⟩
  refine fmt_of_ok hg hm htab hf hgood (k := k) (v := v) rfl (okAll hk1 hk7 (by omega)) hK (by omega) hv ?_ ?_
  · unfold Six.pre; rw [if_neg hvt, hK, hv]; rfl
  · have := wordOf_len k hk7
    unfold preOf; simp; omega
end
end Go.Vm
