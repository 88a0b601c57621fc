/- For every two reasons a and b, tidegatelaw58.ExplainDiffers(a, b) returns true and leaves its arguments as they were. Conditions: none on the arguments; the five listed package variables hold what the program text lays (the card ties that); internal/bytealg.MaxLen may hold any value. -/
import Derived.Test.YtjkhdpdnimfmdaaGreatDoorFb
import Derived.Test.YtjkhdpdnimfmdaaGreatDoorAw
import Derived.Laws.StructEq
import Derived.WideShapes
import Derived.Test.YtjkhdpdnimfmdaaGreatDoorVe
import Derived.Test.YtjkhdpdnimfmdaaGreatDoorCards
import Derived.Test.YtjkhdpdnimfmdaaGreatDoorTie
import Derived.WalkKit
import Derived.ProofKit
import Derived.OpenShut
import Derived.Deep.DeepHandedRow
import Derived.Lib.LaidTab
set_option linter.unusedVariables false
set_option linter.unusedSimpArgs false
set_option linter.unusedSectionVars false
set_option maxRecDepth 100000
namespace Go.Vm
open Go.Proofs
noncomputable def aS : F := .agg [y 0, y 1, y 2, y 3, y 4, y 5]
noncomputable def bS : F := .agg [y 6, y 7, y 8, y 9, y 10, y 11]
noncomputable def knD : Known := [(5, [], .s (.bool true)), (4, [varsF, aS], .tup [y 20, y 21]), (4, [varsF, bS], .tup [y 22, y 23])]
def aL : List S := [.sym 0, .sym 1, .sym 2, .sym 3, .sym 4, .sym 5]
def bL : List S := [.sym 6, .sym 7, .sym 8, .sym 9, .sym 10, .sym 11]
noncomputable def difRun (o : Orac) : Bool := match run (envF o knD) 10000 (.pcall 3 [aS, bS]) with | some (.pv (.s (.bool true))) => true | _ => false
theorem dif1 : difRun ⟨[(.neq, .sym 21, inS 0, .bool true)], []⟩ = true := by kernel_rfl
theorem dif2 : difRun ⟨[(.neq, .sym 21, inS 0, .bool false), (.neq, .sym 23, inS 0, .bool true)], []⟩ = true := by kernel_rfl
theorem dif3 : difRun ⟨[(.neq, .sym 21, inS 0, .bool false), (.neq, .sym 23, inS 0, .bool false), (.eql, .sym 20, .sym 22, .bool true)], [(25, aL, bL, true)]⟩ = true := by kernel_rfl
theorem dif4 : difRun ⟨[(.neq, .sym 21, inS 0, .bool false), (.neq, .sym 23, inS 0, .bool false), (.eql, .sym 20, .sym 22, .bool false)], [(25, aL, bL, false)]⟩ = true := by kernel_rfl
def valD (a b : Six) (s t : ByteArray) (e f : Int) : Nat → Value
  | 0 => .int .i64 a.K
  | 1 => .int .i64 a.V
  | 2 => .int .i64 a.Sc
  | 3 => .int .i64 a.T
  | 4 => .int .i64 a.So
  | 5 => .int .i64 a.Sq
  | 6 => .int .i64 b.K
  | 7 => .int .i64 b.V
  | 8 => .int .i64 b.Sc
  | 9 => .int .i64 b.T
  | 10 => .int .i64 b.So
  | 11 => .int .i64 b.Sq
  | 20 => .string s
  | 21 => .int .i64 e
  | 22 => .string t
  | 23 => .int .i64 f
  | _ => .bool false
theorem valD_plain (a b : Six) (s t : ByteArray) (e f : Int) (i : Nat) : (∃ k n, valD a b s t e f i = .int k n) ∨ (∃ x, valD a b s t e f i = .string x) ∨ ∃ x, valD a b s t e f i = .bool x := by
  unfold valD
  split <;> first | exact .inl ⟨_, _, rfl⟩ | exact .inr (.inl ⟨_, rfl⟩) | exact .inr (.inr ⟨_, rfl⟩)
@[reducible] def valuD (a b : Six) (s t : ByteArray) (e f : Int) : Valu := ⟨valD a b s t e f, valD_plain a b s t e f⟩
def sixL (r : Six) : List S := [.int .i64 r.K, .int .i64 r.V, .int .i64 r.Sc, .int .i64 r.T, .int .i64 r.So, .int .i64 r.Sq]
theorem sixL_inj {a b : Six} (h : sixL a = sixL b) : a = b := by
  simp only [sixL, List.cons.injEq, S.int.injEq, true_and, and_true] at h
  exact Six.ext h.1 h.2.1 h.2.2.1 h.2.2.2.1 h.2.2.2.2.1 h.2.2.2.2.2
section
variable {w : World} {m : Int} {a b : Six}
theorem difRun_some {o : Orac} (h : difRun o = true) : run (envF o knD) 10000 (.pcall 3 [aS, bS]) = some (.pv (.s (.bool true))) := by
  unfold difRun at h
  split at h
  · rename_i hx; exact hx
  · cases h
theorem dif_of_run (hg : ∀ v : Valu, @Stands v w 6 glob58) (hm : w.cell? ⟨2, 0, none⟩ = some (.int .i64 m)) {s t : ByteArray} {e f : Int}
    (ha : ∀ v : Valu, @PureCalls v Tryz.prog ⟨w, 6⟩ 4 [varsF, sixF a] (.tup [.s (.str s), n e])) (hb : ∀ v : Valu, @PureCalls v Tryz.prog ⟨w, 6⟩ 4 [varsF, sixF b] (.tup [.s (.str t), n f]))
    {o : Orac} (ho : @OracOk (valuD a b s t e f) tyTab o) (h : difRun o = true) (v : Valu) : @PureCalls v Tryz.prog ⟨w, 6⟩ 3 [sixF a, sixF b] (.s (.bool true)) := by
  have hk : @KnownOk (valuD a b s t e f) Tryz.prog ⟨w, 6⟩ knD := by
    refine @KnownOk.cons (valuD a b s t e f) _ _ _ (@KnownOk.cons (valuD a b s t e f) _ _ _ (@KnownOk.cons (valuD a b s t e f) _ _ _ (fun _ h => by cases h) _ _ _ ?_) _ _ _ ?_) _ _ _ (@awake58 (valuD a b s t e f) _ _ (hg _) hm)
    · exact @PureCalls.unconc (valuD a b s t e f) (valuD a b s t e f) _ _ _ [varsF, bS] (.tup [y 22, y 23]) (hb _)
    · exact @PureCalls.unconc (valuD a b s t e f) (valuD a b s t e f) _ _ _ [varsF, aS] (.tup [y 20, y 21]) (ha _)
  exact @PureCalls.conc (valuD a b s t e f) v _ _ _ _ _ (@KnownOk.run (valuD a b s t e f) _ _ _ _ _ _ _ _ _ _ _ (@seat_ok (valuD a b s t e f)) (hg _) ho (@base_ok (valuD a b s t e f) _ _ hm) hk _ _ _ _ (difRun_some h))
theorem binOk_streq {v : Valu} {x y : S} {s t : ByteArray} {c : Bool} (hx : @S.val v x = .string s) (hy : @S.val v y = .string t) (h : (s == t) = c) : BinOk v (.eql, x, y, .bool c) :=
  ⟨.str s, .str t, .bool c, hx, hy, rfl, by simp only [binS]; rw [← Go.beq_toListBytes, h]⟩
theorem byteBeq (a b : ByteArray) : (a == b) = decide (a.data.toList = b.data.toList) := by
  obtain ⟨⟨a⟩⟩ := a
  obtain ⟨⟨b⟩⟩ := b
  show ((⟨a⟩ : Array UInt8) == ⟨b⟩) = _
  rw [Bool.eq_iff_iff]; simp
theorem eqs_ok {s t : ByteArray} {e f : Int} {l : List (BinOp × S × S × S)} {c : Bool} (hl : ∀ x ∈ l, BinOk (valuD a b s t e f) x) (hc : c = decide (a = b)) : @OracOk (valuD a b s t e f) tyTab ⟨l, [(25, aL, bL, c)]⟩ := by
  refine @OracOk.mk (valuD a b s t e f) _ _ (fun _ _ _ _ h => hl _ h) ?_
  intro ty xs ys d hmem
  simp only [List.mem_cons, List.not_mem_nil, or_false, Prod.mk.injEq] at hmem
  obtain ⟨rfl, rfl, rfl, rfl⟩ := hmem
  refine ⟨sixL a, sixL b, rfl, rfl, rfl, fun i hi => ?_, ?_⟩
  · rw [get25] at hi; cases hi; rw [zero25]; rfl
  · rw [hc, decide_eq_decide]
    exact ⟨fun h => by rw [h], sixL_inj⟩
theorem differs58 (hg : ∀ v : Valu, @Stands v w 6 glob58) (hm : w.cell? ⟨2, 0, none⟩ = some (.int .i64 m)) (htab : TabP w) (ha : a.fits) (hb : b.fits) (v : Valu) : @PureCalls v Tryz.prog ⟨w, 6⟩ 3 [sixF a, sixF b] (.s (.bool true)) := by
  obtain ⟨s, e, h1, h2⟩ := fmt_all (r := a) hg hm htab ha
  obtain ⟨t, f, h3, h4⟩ := fmt_all (r := b) hg hm htab hb
  have be : ∀ c : Bool, (c = decide (e ≠ 0)) → BinOk (valuD a b s t e f) (.neq, .sym 21, inS 0, .bool c) := fun c hc => binOk_int rfl rfl (by rw [hc]; simp [binS, arith, bne]; rw [Bool.eq_iff_iff]; simp)
  have bf : ∀ c : Bool, (c = decide (f ≠ 0)) → BinOk (valuD a b s t e f) (.neq, .sym 23, inS 0, .bool c) := fun c hc => binOk_int rfl rfl (by rw [hc]; simp [binS, arith, bne]; rw [Bool.eq_iff_iff]; simp)
  rcases h2 with he | ⟨he, ga, hs⟩
  · exact dif_of_run hg hm h1 h3 (oracOk_of (bins_cons (be _ (by simp [he])) bins_nil)) dif1 v
  rcases h4 with hf | ⟨hf, gb, ht⟩
  · exact dif_of_run hg hm h1 h3 (oracOk_of (bins_cons (be _ (by simp [he])) (bins_cons (bf _ (by simp [hf])) bins_nil))) dif2 v
  by_cases hab : a = b
  · refine dif_of_run hg hm h1 h3 (eqs_ok (bins_cons (be _ (by simp [he])) (bins_cons (bf _ (by simp [hf])) (bins_cons (binOk_streq rfl rfl ?_) bins_nil))) (by simp [hab])) dif3 v
    rw [hs, ht, hab, byteBeq]; simp
  · refine dif_of_run hg hm h1 h3 (eqs_ok (bins_cons (be _ (by simp [he])) (bins_cons (bf _ (by simp [hf])) (bins_cons (binOk_streq rfl rfl ?_) bins_nil))) (by simp [hab])) dif4 v
    rw [hs, ht, byteBeq, decide_eq_false_iff_not]
    intro hst
    exact hab (okText_inj ga gb hst)
end
end Go.Vm
/- tidegatelaw58.ExplainDiffers: it returns true, whatever the two reasons: the row, and its card. -/
set_option maxRecDepth 100000
set_option linter.unusedVariables false
set_option linter.unusedSimpArgs false
namespace Go.Proofs.YtjkhdpdnimfmdaaGreatDoor
open Go Go.ChangeShapes Go.WideShapes Go.ChangeAt Go.RowKit Go.Vm

/-- no symbol stands for anything -/
@[reducible] def valu0 : Valu := ⟨fun _ => .bool false, fun _ => .inr (.inr ⟨_, rfl⟩)⟩
theorem own : ownKnob Tryz.prog.godebug = none := by kernel_rfl
def argTypes : List TypeId := [25, 23, 3]
theorem argTypes_ok : closedT Tryz.prog argTypes = true := by kernel_rfl
theorem cells25 : Tryz.prog.cellsOf 25 = 6 := by kernel_rfl
theorem cells23 : Tryz.prog.cellsOf 23 = 3 := by kernel_rfl
theorem cells3 : Tryz.prog.cellsOf 3 = 1 := by kernel_rfl
abbrev I64 (i : Int) : Prop := -9223372036854775808 ≤ i ∧ i ≤ 9223372036854775807
theorem int_of {M n : Nat} {fs : List F} (h : okC Tryz.prog M n 3 fs) : ∃ i : Int, fs = [.s (.int .i64 i)] ∧ I64 i := by
  cases n with
  | zero => exact h.elim
  | succ n =>
    simp only [okC, Tryz.underlying3] at h
    obtain ⟨i, h1, h2⟩ := h
    refine ⟨i, h1, ?_⟩
    simp only [Lit.wf, Bool.and_eq_true, decide_eq_true_eq] at h2
    exact h2
theorem six_of {M n : Nat} {fs : List F} (h : okC Tryz.prog M n 25 fs) : ∃ r : Six, r.fits ∧ fs = [.s (.int .i64 r.K), .s (.int .i64 r.V), .s (.int .i64 r.Sc), .s (.int .i64 r.T), .s (.int .i64 r.So), .s (.int .i64 r.Sq)] := by
  cases n with
  | zero => exact h.elim
  | succ n =>
    simp only [okC, Tryz.underlying25, cells25] at h
    obtain ⟨hl, h⟩ := h
    match fs, hl with
    | [a, b, c, d, e, f], _ =>
      have k0 := h _ (List.mem_cons_self ..)
      have k1 := h _ (List.mem_cons_of_mem _ (List.mem_cons_self ..))
      have k2 := h _ (List.mem_cons_of_mem _ (List.mem_cons_of_mem _ (List.mem_cons_self ..)))
      have k3 := h _ (List.mem_cons_of_mem _ (List.mem_cons_of_mem _ (List.mem_cons_of_mem _ (List.mem_cons_self ..))))
      simp only [cells3, cells23, List.drop_succ_cons, List.drop_zero, List.take_succ_cons, List.take_zero] at k0 k1 k2 k3
      obtain ⟨K, q0, _⟩ := int_of k0
      obtain ⟨V, q1, _⟩ := int_of k1
      obtain ⟨S, q2, r2⟩ := int_of k2
      cases n with
      | zero => exact k3.elim
      | succ n =>
        simp only [okC, Tryz.underlying23, cells23] at k3
        obtain ⟨_, h3⟩ := k3
        have j0 := h3 _ (List.mem_cons_self ..)
        have j1 := h3 _ (List.mem_cons_of_mem _ (List.mem_cons_self ..))
        have j2 := h3 _ (List.mem_cons_of_mem _ (List.mem_cons_of_mem _ (List.mem_cons_self ..)))
        simp only [cells3, List.drop_succ_cons, List.drop_zero, List.take_succ_cons, List.take_zero] at j0 j1 j2
        obtain ⟨T, p0, s0⟩ := int_of j0
        obtain ⟨So, p1, s1⟩ := int_of j1
        obtain ⟨Sq, p2, s2⟩ := int_of j2
        simp only [List.cons.injEq, and_true] at q0 q1 q2 p0 p1 p2
        subst q0 q1 q2 p0 p1 p2
        exact ⟨⟨K, V, S, T, So, Sq⟩, ⟨s0, s1, s2, r2⟩, rfl⟩
theorem args_of {M : Nat} {xs : List F} (h : ArgsOk Tryz.prog M [25, 25] xs) : ∃ a b : Six, a.fits ∧ b.fits ∧ xs = [sixF a, sixF b] := by
  match xs, h with
  | [x, y], ⟨⟨n, fs, h1, h2⟩, ⟨m, gs, h3, h4⟩, _⟩ =>
    obtain ⟨a, ha, rfl⟩ := six_of h1
    obtain ⟨b, hb, rfl⟩ := six_of h3
    refine ⟨a, b, ha, hb, ?_⟩
    rw [h2, h4]
    unfold packT
    rw [Tryz.underlying25]
    rfl

/-! ### the listed variables -/
def varTypes : List TypeId := [34, 9, 171, 134, 283, 282, 3, 4]
theorem varTypes_ok : flatL Tryz.prog varTypes = true := by kernel_rfl
theorem gWords : Tryz.prog.globalNamed "tidegate/explain.words" = some 0 := by kernel_rfl
theorem gPow : Tryz.prog.globalNamed "internal/strconv.uint64pow10" = some 1 := by kernel_rfl
theorem gShapes : Tryz.prog.globalNamed "tidegate/pattern.shapes" = some 5 := by kernel_rfl
theorem tWords : (Tryz.prog.globals[0]?).map (·.type) = some 34 := by kernel_rfl
theorem tPow : (Tryz.prog.globals[1]?).map (·.type) = some 171 := by kernel_rfl
theorem tShapes : (Tryz.prog.globals[5]?).map (·.type) = some 283 := by kernel_rfl
theorem words_cells : wordsF = (cellsD (Rows.laid_tidegate_explain_words (H := Unit))).map F.s := by kernel_rfl
theorem pow_cells : p10F = (cellsD (Rows.laid_internal_strconv_uint64pow10 (H := Unit))).map F.s := by kernel_rfl
theorem shapes_cells : shapesF = (cellsD (Rows.laid_tidegate_pattern_shapes (H := Unit))).map F.s := by kernel_rfl
theorem noHandles : (Rows.explainDiffersRow.laid.filter fun x => x.2.handleName?.isSome) = [] := by kernel_rfl
theorem laid_plain {W : World} (h : laidMetH Tryz.prog Rows.explainDiffersRow.laid W) : laidMet Tryz.prog Rows.explainDiffersRow.laid W := by
  unfold laidMetH at h
  rw [noHandles] at h
  exact h
theorem stands (v : Valu) {W : World} (h : laidMetH Tryz.prog Rows.explainDiffersRow.laid W) : @Stands v W 6 glob58 := by
  have hl := laid_plain h
  have fin : ∀ {g t : Nat} {n : String} {d : DataW Unit} {cs : List F}, (n, d) ∈ Rows.explainDiffersRow.laid → Tryz.prog.globalNamed n = some g → (Tryz.prog.globals[g]?).map (·.type) = some t → varTypes.contains t = true → cs = (cellsD d).map F.s →
      ∀ (i : Nat) c, cs[i]? = some c → ∃ s, c = .s s ∧ W.cell? ⟨g, i, none⟩ = some (@S.val v s) := by
    intro g t n d cs hm hg ht hv hcs i c hc
    subst hcs
    rw [List.getElem?_map] at hc
    obtain ⟨s, hs, rfl⟩ := Option.map_eq_some_iff.1 hc
    exact ⟨s, rfl, @laid_at v _ _ _ varTypes_ok _ hl _ _ hm _ _ hg ht hv i s hs⟩
  intro g cs hg
  unfold glob58 at hg
  cases h0 : Nat.beq g 0 with
  | true =>
    rw [h0, cond_true] at hg; cases hg
    have := Nat.eq_of_beq_eq_true h0; subst this
    exact ⟨by omega, fin (List.mem_cons_of_mem _ (List.mem_cons_of_mem _ (List.mem_cons_of_mem _ (List.mem_cons_of_mem _ (List.mem_cons_self ..))))) gWords tWords rfl words_cells⟩
  | false =>
    rw [h0, cond_false] at hg
    cases h1 : Nat.beq g 1 with
    | true =>
      rw [h1, cond_true] at hg; cases hg
      have := Nat.eq_of_beq_eq_true h1; subst this
      exact ⟨by omega, fin (List.mem_cons_of_mem _ (List.mem_cons_of_mem _ (List.mem_cons_self ..))) gPow tPow rfl pow_cells⟩
    | false =>
      rw [h1, cond_false] at hg
      cases h5 : Nat.beq g 5 with
      | true =>
        rw [h5, cond_true] at hg; cases hg
        have := Nat.eq_of_beq_eq_true h5; subst this
        exact ⟨by omega, fin (List.mem_cons_of_mem _ (List.mem_cons_of_mem _ (List.mem_cons_of_mem _ (List.mem_cons_self ..)))) gShapes tShapes rfl shapes_cells⟩
      | false => rw [h5] at hg; cases hg
theorem table {W : World} (h : laidMetH Tryz.prog Rows.explainDiffersRow.laid W) : TabP W := by
  obtain ⟨ps, h1, _⟩ := laid_plain h
  obtain ⟨cs, h2, h3⟩ := @laid_cells valu0 _ _ _ varTypes_ok _ _ h1 "internal/strconv.uint64pow10" Rows.laid_internal_strconv_uint64pow10 (List.mem_cons_of_mem _ (List.mem_cons_of_mem _ (List.mem_cons_self ..))) 1 171 gPow tPow rfl
  unfold TabP Lib.TabIs
  rw [h2]
  congr 1
  rw [← Array.toList_inj, h3]
  kernel_rfl
theorem maxLen_cell {W : World} (h : W.ShapedOpen Tryz.prog) : ∃ m, W.cell? ⟨2, 0, none⟩ = some (.int .i64 m) :=
  cell_of_shapedOpen_int (zero := #[.int .i64 0]) (t := 3) h (of_decide_eq_true (by kernel_rfl)) (by kernel_rfl) rfl (by kernel_rfl) (by kernel_rfl) Tryz.underlying3
theorem size_le {W : World} (h : W.ShapedOpen Tryz.prog) : 6 ≤ W.heap.size := by
  obtain ⟨cs, h1, _⟩ := h.1 5 _ _ (of_decide_eq_true (by kernel_rfl)) (show ((begin Tryz.prog (fun _ _ => 0) default).world.heap[5]?).bind Obj.row? = some ((((begin Tryz.prog (fun _ _ => 0) default).world.heap[5]?).bind Obj.row?).getD default) by kernel_rfl)
  rcases Nat.lt_or_ge 5 W.heap.size with h | h
  · exact h
  · rw [Array.getElem?_eq_none h] at h1; cases h1

theorem contract (H : Type) (enc : TypeId × Value → H) (W : World) (base : Nat) (args : Array Value) (ds gs : List (DataW H)) (before : List MemPlace)
    (hval : ∀ (j : Nat) t v, Tryz.f3.params[j]? = some t → args[j]? = some v → Value.okWide Tryz.prog W .any base t v)
    (hW : DataW.Whole enc Tryz.prog Tryz.f3.params.toList Rows.explainDiffersSpec.vars false W args.toList ds gs before) (hL : laidMetH Tryz.prog Rows.explainDiffersRow.laid W) (hS : W.ShapedOpen Tryz.prog) :
    Calls Tryz.prog 3 args W fun e W' => ∃ v, e = .returned v ∧ Rows.explainDiffersSpec.post enc Tryz.prog Tryz.f3 false true false false W args v W' := by
  obtain ⟨m, hm⟩ := maxLen_cell hS
  refine @law_of_pure H enc Tryz.prog valu0 argTypes maxLen argTypes_ok 3 Tryz.f3 _ _ _ _ _ 4 (by kernel_rfl) Tryz.underlying4 rfl (fun ds hd => ?_) (fun t ht => ?_) W 6 base (size_le hS) args ds gs before hval hW (.inl (Nat.le_refl _)) (fun xs hx => ?_)
  · rw [Tryz.params3] at hd
    match ds, hd with
    | [a, b], _ => rfl
  · rw [Tryz.params3] at ht
    have : t = 25 := by simpa using ht
    subst this; rfl
  · rw [Tryz.params3] at hx
    obtain ⟨a, b, ha, hb, rfl⟩ := args_of hx
    exact differs58 (fun v => stands v hL) hm (table hL) ha hb valu0

/-! ### the witness -/
noncomputable def cellsV (d : DataW Unit) : Array Value := ((cellsD d).map (@S.val valu0)).toArray
noncomputable def laidHeap (h : Array Obj) : Array Obj :=
  let put (h : Array Obj) (g : Nat) (d : DataW Unit) : Array Obj := h.modify g fun | .cells _ t frozen => .cells (cellsV d) t frozen | o => o
  put (put (put (put (put h 0 Rows.laid_tidegate_explain_words) 1 Rows.laid_internal_strconv_uint64pow10) 3 Rows.laid_math_bits_deBruijn32tab) 4 Rows.laid_math_bits_deBruijn64tab) 5 Rows.laid_tidegate_pattern_shapes
noncomputable def laidWorld (os : Os) : World := { World.holding Tryz.prog os ⟨#[], #[], []⟩ with heap := laidHeap (World.holding Tryz.prog os ⟨#[], #[], []⟩).heap }
def zeroArg : Value := .agg #[.int .i64 0, .int .i64 0, .int .i64 0, .int .i64 0, .int .i64 0, .int .i64 0]
def zeroDatum {H : Type} : DataW H := .agg [.lit (.int .i64 0), .lit (.int .i64 0), .lit (.int .i64 0), .agg [.lit (.int .i64 0), .lit (.int .i64 0), .lit (.int .i64 0)]]
theorem laid_met (os : Os) : laidMet Tryz.prog Rows.explainDiffersRow.laid ((laidWorld os).forCall (fun _ _ => 0) ⟨#[], #[zeroArg, zeroArg], []⟩).memory :=
  laidMet_of_run' 8 (by kernel_rfl) (by kernel_rfl)
theorem reads (os : Os) {H : Type} (enc : TypeId × Value → H) : ∃ places, DataW.whole enc Tryz.prog ((laidWorld os).forCall (fun _ _ => 0) ⟨#[], #[zeroArg, zeroArg], []⟩).memory Tryz.f3.params.toList Rows.explainDiffersSpec.vars false #[zeroArg, zeroArg].toList 8 = some ([zeroDatum, zeroDatum], [], places) :=
  ⟨[], by kernel_rfl⟩
theorem lifted (os : Os) (started : os.Started) (H : Type) (enc : TypeId × Value → H) (F : Stop.Interp) :
    ReturnsInHanded {} Tryz.checked os 3 .any ((OpenSpec.ofChange Rows.explainDiffersSpec).preRow enc Tryz.prog Tryz.f3 Rows.explainDiffersRow.domain false Rows.explainDiffersRow.laid) (((OpenSpec.ofChange Rows.explainDiffersSpec).at F).post enc Tryz.prog Tryz.f3 false true false false) := by
  obtain ⟨places, hx⟩ := reads os enc
  refine returnsInHanded_of_row (C := Tryz.checked) (s := OpenSpec.ofChange Rows.explainDiffersSpec) own started (by kernel_rfl) Tryz.func3
    (witness_row_at (enc := enc) (C := Tryz.checked) false (laidWorld os) #[zeroArg, zeroArg] rfl (by kernel_rfl) (by kernel_rfl) (by kernel_rfl)
      (OpenSpec.preRow_of_cond 8 hx (by kernel_rfl) (fun k hk => by cases hk) (by kernel_rfl) (laid_met os))) ?_
  intro W base args ds gs before hval hW _ _ _ hL hS _
  exact contract H enc W base args ds gs before hval hW hL hS
theorem said : Rows.ExplainDiffersSaid :=
  OpenClaim.holds_of_cond 3 Tryz.f3 rfl rfl rfl rfl rfl rfl rfl ⟨rfl, rfl, rfl, rfl, rfl⟩ rfl rfl rfl rfl rfl (by kernel_rfl) Tryz.func3 (by kernel_rfl)
    (of_decide_eq_true (by kernel_rfl)) (by unfold Func.isWrapper; first | (rw [if_pos (by decide +kernel)]; kernel_rfl) | (rw [if_neg (by decide +kernel)]; exact ⟨rfl, rfl⟩))
    (fun os started H enc _ F => by rw [OpenClaim.pre_eq_preRow]; exact lifted os started H enc F)
theorem plain (f : FuncId) (fn : Func) (hf : Tryz.pinned.checked.prog.funcNamed "tidegate/tidegatelaw58.ExplainDiffers" = some f) (hfn : Tryz.pinned.checked.prog.funcs[f]? = some fn) :
    false = Tryz.pinned.checked.prog.looks [] ∧ ∀ (j : Nat) t, fn.params[j]? = some t → Tryz.pinned.checked.prog.wantsStandIn t = false := by
  obtain rfl : f = 3 := Option.some.inj ((show Tryz.prog.funcNamed "tidegate/tidegatelaw58.ExplainDiffers" = some 3 by kernel_rfl).symm.trans hf) |>.symm
  obtain rfl : fn = Tryz.f3 := (Option.some.inj (Tryz.func3.symm.trans hfn)).symm
  refine ⟨by kernel_rfl, fun j t ht => ?_⟩
  rw [Tryz.params3] at ht
  obtain rfl : t = 25 := by simpa using Array.mem_of_getElem? ht
  exact (show Tryz.prog.wantsStandIn 25 = false by kernel_rfl)
/-- the card -/
theorem card : Rows.ExplainDiffersCardSaid :=
  Claim7.holds_tied_plain_at .later [] _ _ _ _ said (fun _ h => by cases h) (by kernel_rfl) (fun _ h => by cases h) explainDiffers_row_tie rfl ⟨rfl, rfl⟩ (by kernel_rfl) rfl plain (by kernel_rfl)
end Go.Proofs.YtjkhdpdnimfmdaaGreatDoor
