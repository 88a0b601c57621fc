/- What a row's reading tells of the arguments: their contents; a law that returns true. -/
import Derived.Test.YtjkhdpdnimfmdaaGreatDoorVd
import Derived.Deep.Slices
import Derived.ChangeArms
import Derived.ChangeSame
import Derived.DataReads
import Derived.ChangeShapes
import Derived.RowKit
import Derived.ProofKit
import Derived.OpenShut
import Derived.Shelf.Vars
import Derived.FnData
set_option linter.unusedVariables false
set_option linter.unusedSimpArgs false
set_option linter.unusedSectionVars false
namespace Go.Vm
open Go.ChangeShapes Go.WideShapes Go.RowKit

/-! ### bulk -/
mutual
def bulkW {H : Type} : DataW H → Nat
  | .lit (.string bytes) => bytes.length + 1
  | .lit _ => 1
  | .nil => 1
  | .ptr d => bulkW d + 1
  | .slice elems spare => bulkWAll elems + bulkWAll spare + 1
  | .agg parts => bulkWAll parts + 1
  | .iface _ d => bulkW d + 1
  | .map entries => bulkWEntries entries + 1
  | .held _ => 1
def bulkWAll {H : Type} : List (DataW H) → Nat
  | [] => 0
  | d :: r => bulkW d + bulkWAll r
def bulkWEntries {H : Type} : List (Lit × DataW H) → Nat
  | [] => 0
  | x :: r => bulkWEntry x + bulkWEntries r
def bulkWEntry {H : Type} : Lit × DataW H → Nat
  | (.string bytes, d) => bytes.length + bulkW d + 1
  | (_, d) => bulkW d + 1
end
theorem bulkW_pos {H : Type} (d : DataW H) : 1 ≤ bulkW d := by
  unfold bulkW
  split <;> omega
theorem bulkWAll_len {H : Type} (ds : List (DataW H)) : ds.length ≤ bulkWAll ds := by
  induction ds with
  | nil => simp [bulkWAll]
  | cons d r ih =>
    have := bulkW_pos d
    simp only [bulkWAll, List.length_cons]; omega
theorem bulkWAll_mem {H : Type} {ds : List (DataW H)} {d : DataW H} (h : d ∈ ds) : bulkW d ≤ bulkWAll ds := by
  induction ds with
  | nil => cases h
  | cons e r ih =>
    simp only [bulkWAll]
    rcases List.mem_cons.1 h with rfl | h
    · omega
    · have := ih h; omega

/-! ### contents of a type -/
/-- the cells of a value of a type -/
def okC (P : Program) (M : Nat) : Nat → TypeId → List F → Prop
  | 0, _, _ => False
  | n + 1, t, fs =>
    match P.underlying t with
    | some .bool => ∃ b, fs = [.s (.bool b)]
    | some (.int k) => ∃ i, fs = [.s (.int k i)] ∧ (Lit.int k i).wf = true
    | some .string => ∃ s, fs = [.s (.str s)] ∧ s.size ≤ M
    | some (.slice e) => fs = [.s .nslice] ∨ ∃ rs, fs = [.row (P.cellsOf e) rs] ∧ rs.length ≤ M ∧ ∀ r ∈ rs, okC P M n e r
    | some (.struct fds) => fs.length = P.cellsOf t ∧ ∀ fd ∈ fds.toList, okC P M n fd.type ((fs.drop fd.offset).take (P.cellsOf fd.type))
    | _ => False
def fieldsOk (P : Program) (L : List TypeId) : List Field → Nat → Nat → Bool
  | [], off, sz => off == sz
  | f :: r, off, sz => f.offset == off && L.contains f.type && fieldsOk P L r (off + P.cellsOf f.type) sz
/-- types of plain data, closed under their parts -/
def closedT (P : Program) (L : List TypeId) : Bool :=
  L.all fun t => match P.underlying t with
    | some .bool | some (.int _) | some .string => P.cellsOf t == 1
    | some (.slice e) => P.cellsOf t == 1 && L.contains e && Nat.ble 1 (P.cellsOf e)
    | some (.struct fds) => fieldsOk P L fds.toList 0 (P.cellsOf t)
    | _ => false
theorem fieldsOk_ge {P : Program} {L : List TypeId} : ∀ {fds : List Field} {off sz : Nat}, fieldsOk P L fds off sz = true → ∀ fd ∈ fds, off ≤ fd.offset
  | [], _, _, _, _, h => by cases h
  | f :: r, off, sz, h, fd, hm => by
    simp only [fieldsOk, Bool.and_eq_true, beq_iff_eq] at h
    rcases List.mem_cons.1 hm with rfl | hm
    · omega
    · have := fieldsOk_ge h.2 fd hm; omega
section
variable [Valu]
variable {H : Type} {enc : TypeId × Value → H} {P : Program} {w : World} {sp : Nat → Bool} {held : Bool} {L : List TypeId} {M : Nat}
def Below (w : World) (fs : List F) (cs : List Value) : Prop := ∀ (i : Nat) f v, fs[i]? = some f → cs[i]? = some v → FRel w (fun r => r < w.heap.size) f v
theorem Below.one {f : F} {v : Value} (h : FRel w (fun r => r < w.heap.size) f v) : Below w [f] [v] := by
  intro i f' v' h1 h2
  cases i with
  | zero => simp only [List.getElem?_cons_zero, Option.some.injEq] at h1 h2; subst h1 h2; exact h
  | succ i => simp at h1
theorem open_fields {n : Nat} {cs : List Value} (ih : ∀ t cs x, L.contains t = true → DataW.trod enc P w 0 sp held n t cs = some x → (maxLen ≤ M ∨ bulkW x.1 ≤ M) → ∃ fs, okC P M n t fs ∧ fs.length = cs.length ∧ cs.length = P.cellsOf t ∧ Below w fs cs) :
    ∀ (fds : List Field) (off : Nat) (ys : List (DataW H × List MemPlace)), fieldsOk P L fds off cs.length = true → (∀ (i : Nat) f, fds[i]? = some f → DataW.trod enc P w 0 sp held n f.type ((cs.drop f.offset).take (P.cellsOf f.type)) = ys[i]?) → ys.length = fds.length →
      (∀ y ∈ ys, maxLen ≤ M ∨ bulkW y.1 ≤ M) → ∃ fs : List F, off + fs.length = cs.length ∧ (∀ fd ∈ fds, okC P M n fd.type ((fs.drop (fd.offset - off)).take (P.cellsOf fd.type))) ∧ Below w fs (cs.drop off)
  | [], off, ys, hf, _, _, _ => by
    simp only [fieldsOk, beq_iff_eq] at hf
    refine ⟨[], by simpa using hf, (fun fd h => (nomatch h)), fun i f v h _ => by simp at h⟩
  | fd :: r, off, [], hf, _, hl, _ => by simp at hl
  | fd :: r, off, y :: ys, hf, ht, hl, hb => by
    simp only [fieldsOk, Bool.and_eq_true, beq_iff_eq] at hf
    obtain ⟨⟨h1, h2⟩, h3⟩ := hf
    have t0 := ht 0 fd rfl
    simp only [List.getElem?_cons_zero] at t0
    obtain ⟨fs1, k1, k2, k3, k4⟩ := ih _ _ _ h2 t0 (hb y (by simp))
    obtain ⟨fs2, g1, g2, g3⟩ := open_fields ih r (off + P.cellsOf fd.type) ys h3 (fun i f hi => by simpa using ht (i + 1) f (by simpa using hi)) (by simpa using hl) (fun y hy => hb y (by simp [hy]))
    have hl1 : fs1.length = P.cellsOf fd.type := by rw [k2, k3]
    refine ⟨fs1 ++ fs2, by rw [List.length_append]; omega, fun fd' hm => ?_, fun i f v hi hv => ?_⟩
    · rcases List.mem_cons.1 hm with rfl | hm
      · rw [h1, Nat.sub_self, List.drop_zero, List.take_append_of_le_length (by omega), List.take_of_length_le (by omega)]
        exact k1
      · have hge := fieldsOk_ge h3 fd' hm
        have := g2 fd' hm
        rw [List.drop_append, List.drop_of_length_le (by omega), List.nil_append, show fd'.offset - off - fs1.length = fd'.offset - (off + P.cellsOf fd.type) by omega]
        exact this
    · rcases Nat.lt_or_ge i fs1.length with hlt | hge
      · rw [List.getElem?_append_left hlt] at hi
        refine k4 i f v hi ?_
        rw [List.getElem?_take_of_lt (by omega), h1]; exact hv
      · rw [List.getElem?_append_right hge] at hi
        refine g3 (i - fs1.length) f v hi ?_
        rw [List.getElem?_drop] at hv ⊢
        rw [← hv]; congr 1; omega
theorem open_cells (hL : closedT P L = true) : ∀ (n : Nat) (t : TypeId) (cs : List Value) (x : DataW H × List MemPlace), L.contains t = true → DataW.trod enc P w 0 sp held n t cs = some x → (maxLen ≤ M ∨ bulkW x.1 ≤ M) →
    ∃ fs, okC P M n t fs ∧ fs.length = cs.length ∧ cs.length = P.cellsOf t ∧ Below w fs cs
  | 0, t, cs, x, _, h, _ => by simp [DataW.trod] at h
  | n + 1, t, cs, x, ht, h, hb => by
    have hc := List.all_eq_true.1 hL t (by simpa using ht)
    cases hu : P.underlying t with
    | none => simp [hu] at hc
    | some d =>
      rw [hu] at hc
      cases d with
      | bool =>
        simp only [beq_iff_eq] at hc
        rw [DataW.trod_step] at h
        unfold DataW.trodStep at h
        rw [hu] at h
        split at h <;> simp_all
        rename_i b
        exact ⟨[.s (.bool b)], by simp [okC, hu], rfl, Below.one (.s (.bool b))⟩
      | int k =>
        simp only [beq_iff_eq] at hc
        obtain ⟨i, rfl, hx, hw⟩ := DataW.trod_int hu h
        exact ⟨[.s (.int k i)], by simp [okC, hu, hw], rfl, by simp [hc], Below.one (.s (.int k i))⟩
      | string =>
        simp only [beq_iff_eq] at hc
        rw [DataW.trod_step] at h
        unfold DataW.trodStep at h
        rw [hu] at h
        split at h <;> simp_all
        rename_i s
        obtain ⟨hs, rfl⟩ := h
        refine ⟨[.s (.str s)], ?_, rfl, Below.one (.s (.str s))⟩
        simp only [okC, hu]
        refine ⟨s, rfl, ?_⟩
        rcases hb with hb | hb
        · omega
        · simp only [bulkW, Array.length_toList] at hb
          have : s.data.size = s.size := rfl
          omega
      | slice e =>
        simp only [Bool.and_eq_true, beq_iff_eq, Nat.ble_eq] at hc
        obtain ⟨⟨hc1, hce⟩, hpos⟩ := hc
        rcases DataW.trod_slice hu h with ⟨rfl, rfl⟩ | ⟨a, len, cap, elems, rest, n', he, rfl, rfl, hba, hlc, hcm, hlen, hel, _, _⟩
        · exact ⟨[.s .nslice], by simp [okC, hu], rfl, by simp [hc1], Below.one (.s .nslice)⟩
        · cases he
          have hbl : maxLen ≤ M ∨ (len ≤ M ∧ ∀ y ∈ elems, bulkW y.1 ≤ M) := by
            rcases hb with hb | hb
            · exact .inl hb
            · right
              simp only [bulkW] at hb
              have h1 := bulkWAll_len (elems.map (·.1))
              rw [List.length_map] at h1
              refine ⟨by omega, fun y hy => ?_⟩
              have := bulkWAll_mem (List.mem_map_of_mem (f := (·.1)) hy)
              omega
          have hch : ∀ i : Nat, ∃ fs : List F, i < len → okC P M n e fs ∧ fs.length = P.cellsOf e ∧ ∃ cs', w.cells? 0 (a.add (i * P.cellsOf e)) (P.cellsOf e) = some cs' ∧ Below w fs cs' := by
            intro i
            rcases Nat.lt_or_ge i len with hi | hi
            · have h1 := hel i hi
              rw [List.getElem?_eq_getElem (by omega)] at h1
              obtain ⟨cs', h2, h3⟩ := Option.bind_eq_some_iff.1 h1
              obtain ⟨fs, k1, k2, k3, k4⟩ := open_cells hL n e cs' _ hce h3 (by
                rcases hbl with hbl | hbl
                · exact .inl hbl
                · exact .inr (hbl.2 _ (List.getElem_mem _)))
              exact ⟨fs, fun _ => ⟨k1, by rw [k2, k3], cs', h2, k4⟩⟩
            · exact ⟨[], fun h => by omega⟩
          obtain ⟨R, hR⟩ := Classical.axiomOfChoice hch
          have hrs : ∀ (i : Nat) (row : List F), ((List.range len).map R)[i]? = some row → i < len ∧ row = R i := by
            intro i row h
            rw [List.getElem?_map] at h
            obtain ⟨k, hk, rfl⟩ := Option.map_eq_some_iff.1 h
            rw [List.getElem?_range (by
              rcases Nat.lt_or_ge i len with hi | hi
              · exact hi
              · rw [List.getElem?_eq_none (by simpa using hi)] at hk; cases hk)] at hk
            cases hk
            refine ⟨?_, rfl⟩
            rcases Nat.lt_or_ge i len with hi | hi
            · exact hi
            · rw [List.getElem?_eq_none (by simpa using hi)] at h; simp at h
          have hspot : 0 < len → a.spot = none ∧ a.block < w.heap.size := by
            intro h0
            obtain ⟨_, _, cs', h2, _⟩ := hR 0 h0
            obtain ⟨_, hcl, hcell⟩ := World.cells?_some h2
            have h3 := hcell 0 (by omega)
            rw [List.getElem?_eq_getElem (by omega)] at h3
            simp only [Nat.zero_mul, Addr.add, if_pos] at h3
            unfold World.cell? at h3
            split at h3
            · rename_i c _ _ hh
              have hlt : a.block < w.heap.size := by
                rcases Nat.lt_or_ge a.block w.heap.size with h | h
                · exact h
                · rw [Array.getElem?_eq_none h] at hh; cases hh
              cases hs : a.spot with
              | none => exact ⟨rfl, hlt⟩
              | some _ => rw [hs] at h3; simp at h3
            · cases h3
          refine ⟨[.row (P.cellsOf e) ((List.range len).map R)], ?_, rfl, by simp [hc1], Below.one ?_⟩
          · simp only [okC, hu]
            refine .inr ⟨_, rfl, ?_, fun r hr => ?_⟩
            · rw [List.length_map, List.length_range]
              rcases hbl with hbl | hbl
              · omega
              · exact hbl.1
            · obtain ⟨i, hi, rfl⟩ := List.mem_map.1 hr
              exact (hR i (List.mem_range.1 hi)).1
          · have := FRel.row (w := w) (st := fun r => r < w.heap.size) (P.cellsOf e) ((List.range len).map R) a cap a.block a.off (fun i j => (w.cell? ⟨a.block, a.off + (i * P.cellsOf e + j), none⟩).getD (.bool false)) (by simpa using hlc) (fun hn => ?_) (fun r hr => ?_) (fun i j row c h1 h2 => ?_) (fun i j row c h1 h2 => ?_)
            · simpa using this
            · have h0 : 0 < len := by
                rcases Nat.eq_zero_or_pos len with h | h
                · subst h; simp at hn
                · exact h
              obtain ⟨q1, q2⟩ := hspot h0
              exact ⟨by rw [← q1], q2⟩
            · obtain ⟨i, hi, rfl⟩ := List.mem_map.1 hr
              exact (hR i (List.mem_range.1 hi)).2.1
            all_goals
              obtain ⟨hi, rfl⟩ := hrs i row h1
              obtain ⟨_, k2, cs', k3, k4⟩ := hR i hi
              obtain ⟨_, hcl, hcell⟩ := World.cells?_some k3
              have hj : j < P.cellsOf e := by
                rw [← k2]
                rcases Nat.lt_or_ge j (R i).length with h | h
                · exact h
                · rw [List.getElem?_eq_none h] at h2; cases h2
              have hq := hspot (by omega)
              have hadd : (a.add (i * P.cellsOf e)).add j = ⟨a.block, a.off + (i * P.cellsOf e + j), none⟩ := by
                obtain ⟨ab, ao, asp⟩ := a
                simp only at hq
                obtain ⟨rfl, _⟩ := hq
                unfold Addr.add
                split <;> split <;> simp_all <;> omega
              have hc2 := hcell j hj
              rw [hadd, List.getElem?_eq_getElem (by omega)] at hc2
              rw [hc2]
            · rfl
            · exact k4 j c _ h2 (List.getElem?_eq_getElem (by omega))
      | struct fds =>
        obtain ⟨ys, n', he, hx, hl, hyl, hf⟩ := DataW.trod_struct hu h
        cases he
        subst hx
        have hcl : fieldsOk P L fds.toList 0 cs.length = true := by rw [hl]; exact hc
        obtain ⟨fs, g1, g2, g3⟩ := open_fields (fun t cs x h1 h2 h3 => open_cells hL n t cs x h1 h2 h3) fds.toList 0 ys hcl (fun i f hi => hf i f (by simpa using hi)) (by simpa using hyl) (fun y hy => by
          rcases hb with hb | hb
          · exact .inl hb
          · right
            simp only [bulkW] at hb
            have := bulkWAll_mem (List.mem_map_of_mem (f := (·.1)) hy)
            omega)
        refine ⟨fs, ?_, by omega, hl, by simpa using g3⟩
        simp only [okC, hu]
        exact ⟨by omega, fun fd hfd => by simpa using g2 fd hfd⟩
      | _ => simp at hc
end
end Go.Vm
/- A law that returns true, by content: what its row's reading asks. -/
set_option linter.unusedVariables false
set_option linter.unusedSimpArgs false
set_option linter.unusedSectionVars false
namespace Go.Vm
open Go.ChangeShapes Go.WideShapes Go.RowKit

/-- a value of a type, of its cells -/
def packT (P : Program) (t : TypeId) (fs : List F) : F :=
  match P.underlying t with
  | some (.struct _) => .agg fs
  | _ => fs.headD (.s .undef)
def ArgsOk (P : Program) (M : Nat) : List TypeId → List F → Prop
  | [], [] => True
  | t :: ts, x :: xs => (∃ n fs, okC P M n t fs ∧ x = packT P t fs) ∧ ArgsOk P M ts xs
  | _, _ => False
section
variable [Valu]
variable {H : Type} {enc : TypeId × Value → H} {P : Program} {w : World} {sp : Nat → Bool} {held : Bool} {L : List TypeId} {M : Nat}
theorem open_value (hL : closedT P L = true) {r : Reach} {b0 : Nat} {t : TypeId} {v : Value} {d : DataW H} {ps : List MemPlace} (ht : L.contains t = true) (hv : Value.okWide P w r b0 t v) (h : DataW.Trod enc P w 0 sp held t v d ps) (hb : maxLen ≤ M ∨ bulkW d ≤ M) :
    ∃ n fs, okC P M n t fs ∧ FRel w (fun r => r < w.heap.size) (packT P t fs) v := by
  obtain ⟨n, hn⟩ := h
  obtain ⟨fs, h1, h2, h3, h4⟩ := open_cells hL n t _ _ ht hn hb
  refine ⟨n, fs, h1, ?_⟩
  have hc := List.all_eq_true.1 hL t (by simpa using ht)
  unfold packT
  cases hu : P.underlying t with
  | none => simp [hu] at hc
  | some q =>
    rw [hu] at hc
    have single : ∀ {q : TypeDesc}, P.underlying t = some q → (∀ fds, q ≠ .struct fds) → P.cellsOf t = 1 → v.cells = #[v] → FRel w (fun r => r < w.heap.size) (fs.headD (.s .undef)) v := by
      intro q _ _ hc1 hvc
      rw [hvc] at h2 h3 h4
      have hl : fs.length = 1 := by rw [h2]; rfl
      match fs, hl with
      | [f], _ => exact h4 0 f v rfl rfl
    cases q with
    | bool =>
      obtain ⟨b, rfl⟩ := okWide_bool hu hv
      exact single hu (by simp) (by simpa using hc) rfl
    | int k =>
      obtain ⟨b, rfl⟩ := okWide_int hu hv
      exact single hu (by simp) (by simpa using hc) rfl
    | string =>
      obtain ⟨b, rfl⟩ := okWide_string hu hv
      exact single hu (by simp) (by simpa using hc) rfl
    | slice e =>
      obtain ⟨a, l, c, rfl⟩ := okWide_slice hu hv
      simp only [Bool.and_eq_true, beq_iff_eq] at hc
      exact single hu (by simp) hc.1.1 rfl
    | struct fds =>
      obtain ⟨cs, rfl, hsz⟩ := okWide_struct hu hv
      refine .agg fs cs (by simpa [Value.cells] using h2) fun i c v h5 h6 => h4 i c v h5 (by simpa [Value.cells] using h6)
    | _ => simp at hc
theorem open_args (hL : closedT P L = true) {r : Reach} {b0 : Nat} : ∀ {ts : List TypeId} {vs : List Value} {ds : List (DataW H)} {ps : List MemPlace}, DataW.TrodAll enc P w 0 sp held ts vs ds ps → (∀ t ∈ ts, L.contains t = true) →
    (∀ (j : Nat) t v, ts[j]? = some t → vs[j]? = some v → Value.okWide P w r b0 t v) → (maxLen ≤ M ∨ bulkWAll ds ≤ M) → ∃ xs, ArgsOk P M ts xs ∧ xs.length = vs.length ∧ Below w xs vs
  | [], vs, ds, ps, h, _, _, _ => by
    obtain ⟨rfl, rfl, rfl⟩ := trodAll_nil h
    exact ⟨[], trivial, rfl, fun i f v h => by simp at h⟩
  | t :: ts, vs, ds, ps, h, ht, hv, hb => by
    obtain ⟨v, vs', d, ds', p, q, rfl, rfl, rfl, h1, h2⟩ := trodAll_cons h
    simp only [bulkWAll] at hb
    obtain ⟨n, fs, k1, k2⟩ := open_value hL (ht t (by simp)) (hv 0 t v rfl rfl) h1 (hb.imp (fun h => h) (fun h => by omega))
    obtain ⟨xs, g1, g2, g3⟩ := open_args hL h2 (fun t h => ht t (by simp [h])) (fun j t v q1 q2 => hv (j + 1) t v (by simpa using q1) (by simpa using q2)) (hb.imp (fun h => h) (fun h => by omega))
    refine ⟨packT P t fs :: xs, ⟨⟨n, fs, k1, rfl⟩, g1⟩, by simp [g2], fun i f u q1 q2 => ?_⟩
    cases i with
    | zero => simp only [List.getElem?_cons_zero, Option.some.injEq] at q1 q2; subst q1 q2; exact k2
    | succ i => exact g3 i f u (by simpa using q1) (by simpa using q2)
end
section
variable {H : Type} {enc : TypeId × Value → H} {P : Program}
theorem kept_old {w w' : World} (h : ∀ r, r < w.heap.size → w'.heap[r]? = w.heap[r]?) (p : MemPlace) (hp : p.block < w.heap.size) : w.sameAt w' p := by
  cases p with
  | cell b off =>
    show w'.cell? _ = w.cell? _
    unfold World.cell?
    simp only [MemPlace.block] at hp
    simp only [h b hp]
  | map b => exact h b hp
theorem keptBut_old {w w' : World} (may : MemPlace → Prop) (h : ∀ r, r < w.heap.size → w'.heap[r]? = w.heap[r]?) (ho : w'.os = w.os) (hp : w'.output = w.output) : w.keptBut w' may := by
  refine ⟨ho, hp, fun i hi => ?_⟩
  rw [h i hi]
  cases hc : w.heap[i]? with
  | none => trivial
  | some o => cases o <;> simp
theorem mapM_points {α β : Type} {g : α → Option β} : ∀ (l : List α) (r : List β), (∀ (i : Nat) f, l[i]? = some f → g f = r[i]?) → r.length = l.length → l.mapM g = some r
  | [], [], _, _ => rfl
  | [], _ :: _, _, h => by simp at h
  | _ :: _, [], _, h => by simp at h
  | a :: l, b :: r, h, hl => by
    have h0 := h 0 a rfl
    simp only [List.getElem?_cons_zero] at h0
    have ih := mapM_points l r (fun i f hi => by simpa using h (i + 1) f (by simpa using hi)) (by simpa using hl)
    simp [h0, ih]
/-- a reading of all places, at another mode that reads all of them -/
theorem trod_spare {L : List TypeId} (hL : closedT P L = true) {w : World} {b : Nat} {sp' : Nat → Bool} {held : Bool} : ∀ (n : Nat) (t : TypeId) (cs : List Value) (x : DataW H × List MemPlace), L.contains t = true → DataW.trod enc P w b (fun _ => true) held n t cs = some x → (∀ p ∈ x.2, sp' p.block = true) → DataW.trod enc P w b sp' held n t cs = some x
  | 0, t, cs, x, _, h, _ => by simp [DataW.trod] at h
  | n + 1, t, cs, x, ht, h, hs => by
    have hc := List.all_eq_true.1 hL t (by simpa using ht)
    cases hu : P.underlying t with
    | none => simp [hu] at hc
    | some d =>
      rw [hu] at hc
      have h0 := h
      rw [DataW.trod_step] at h ⊢
      unfold DataW.trodStep at h ⊢
      rw [hu] at h ⊢
      cases d with
      | bool => split at h <;> simp_all
      | int k => split at h <;> simp_all
      | string => split at h <;> simp_all
      | slice e =>
        simp only [Bool.and_eq_true, beq_iff_eq, Nat.ble_eq] at hc
        obtain ⟨⟨hc1, hce⟩, hpos⟩ := hc
        rcases DataW.trod_slice hu h0 with ⟨rfl, rfl⟩ | ⟨a, len, cap, elems, rest, n', he, rfl, hx, hba, hlc, hcm, hlen, hel, hsp, _⟩
        · exact h
        · cases he
          clear h0
          simp only [hba, hlc, hcm, and_self, if_true] at h ⊢
          simp only [Option.bind_eq_some_iff, Option.map_eq_some_iff] at h ⊢
          obtain ⟨el, h1, re, h2, h3⟩ := h
          subst h3
          have hmem : ∀ y ∈ el ++ re, ∀ p ∈ y.2, sp' p.block = true := fun y hy p hp => hs p (by
            simp only [List.mem_append, List.mem_flatMap]
            exact .inr ⟨y, by simpa using hy, hp⟩)
          have carry : ∀ (i : Nat) (y : DataW H × List MemPlace), (∀ p ∈ y.2, sp' p.block = true) → (w.cells? b (a.add (i * P.cellsOf e)) (P.cellsOf e)).bind (DataW.trod enc P w b (fun _ => true) held n e) = some y →
              (w.cells? b (a.add (i * P.cellsOf e)) (P.cellsOf e)).bind (DataW.trod enc P w b sp' held n e) = some y := by
            intro i y hy h
            obtain ⟨cs', k1, k2⟩ := Option.bind_eq_some_iff.1 h
            exact Option.bind_eq_some_iff.2 ⟨cs', k1, trod_spare hL n e cs' y hce k2 hy⟩
          refine ⟨el, mapM_carry h1 fun i y hi hy => carry i y (hmem y (by simp [hy])), re, ?_, rfl⟩
          have h2' := mapM_carry h2 fun i y hi hy => carry (len + i) y (hmem y (by simp [hy]))
          cases hsa : sp' a.block with
          | true => simpa using h2'
          | false =>
            have hz : (el.length + re.length) * P.cellsOf e = 0 := by
              rcases Nat.eq_zero_or_pos ((el.length + re.length) * P.cellsOf e) with h | h
              · exact h
              · have := hs (.cell a.block (a.off + 0)) (by
                  simp only [List.mem_append]
                  exact .inl (MemPlace.mem_row.2 ⟨0, h, rfl⟩))
                simp only [MemPlace.block] at this
                rw [hsa] at this; cases this
            have hr0 : re.length = 0 := by
              rcases Nat.mul_eq_zero.1 hz with h | h <;> omega
            obtain rfl := List.eq_nil_of_length_eq_zero hr0
            rfl
      | struct fds =>
        have e1 : ∀ (spx : Nat → Bool) (hlen : cs.length = P.cellsOf t) (xs : List (DataW H × List MemPlace)), fds.toList.mapM (fun f => DataW.trod enc P w b spx held n f.type ((cs.drop f.offset).take (P.cellsOf f.type))) = some xs → DataW.trod enc P w b spx held (n + 1) t cs = some (.agg (xs.map (·.1)), xs.flatMap (·.2)) := fun spx hlen xs hm => trod_struct_mk hu hlen hm
        obtain ⟨xs, n', he, rfl, hlen, hxl, hf⟩ := DataW.trod_struct hu h0
        cases he
        suffices DataW.trod enc P w b sp' held (n + 1) t cs = some (.agg (xs.map (·.1)), xs.flatMap (·.2)) by
          rw [DataW.trod_step] at this
          unfold DataW.trodStep at this
          rw [hu] at this
          exact this
        refine e1 sp' hlen xs (mapM_points fds.toList xs (fun i f hi => ?_) (by simpa using hxl))
        have hi' : fds[i]? = some f := by simpa using hi
        have h2 := hf i f hi'
        have hlt : i < xs.length := by
          rw [hxl]
          rcases Nat.lt_or_ge i fds.size with h | h
          · exact h
          · rw [Array.getElem?_eq_none h] at hi'; cases hi'
        rw [List.getElem?_eq_getElem hlt] at h2 ⊢
        have hfl : ∀ {fds : List Field} {off sz : Nat}, fieldsOk P L fds off sz = true → f ∈ fds → L.contains f.type = true := by
          intro fds
          induction fds with
          | nil => intro _ _ _ h; cases h
          | cons g r ih =>
            intro off sz h hm
            simp only [fieldsOk, Bool.and_eq_true, beq_iff_eq] at h
            rcases List.mem_cons.1 hm with rfl | hm
            · exact h.1.2
            · exact ih h.2 hm
        exact trod_spare hL n _ _ _ (hfl hc (List.mem_of_getElem? hi)) h2 fun p hp => hs p (List.mem_flatMap.2 ⟨xs[i], List.getElem_mem hlt, hp⟩)
      | _ => simp at hc
theorem trodAll_spare {L : List TypeId} (hL : closedT P L = true) {w w' : World} {sp' : Nat → Bool} {held : Bool} (h : ∀ r, r < w.heap.size → w'.heap[r]? = w.heap[r]?) : ∀ {ts : List TypeId} {vs : List Value} {ds : List (DataW H)} {ps : List MemPlace}, DataW.TrodAll enc P w 0 (fun _ => true) held ts vs ds ps → (∀ t ∈ ts, L.contains t = true) → (∀ p ∈ ps, p.block < w.heap.size) → (∀ p ∈ ps, sp' p.block = true) → DataW.TrodAll enc P w' 0 sp' held ts vs ds ps
  | [], vs, ds, ps, hh, _, _, _ => by
    obtain ⟨rfl, rfl, rfl⟩ := trodAll_nil hh
    rfl
  | t :: ts, vs, ds, ps, hh, ht, hlt, hs => by
    obtain ⟨v, vs', d, ds', p, q, rfl, rfl, rfl, h1, h2⟩ := trodAll_cons hh
    refine ⟨p, q, ?_, trodAll_spare hL h h2 (fun t hm => ht t (by simp [hm])) (fun p hp => hlt p (by simp [hp])) (fun p hp => hs p (by simp [hp])), rfl⟩
    obtain ⟨n, hn⟩ := h1
    exact ⟨n, trod_spare hL n _ _ _ (ht t (by simp)) (DataW.trod_carry n _ _ _ hn fun p hp => kept_old h p (hlt p (by simp [hp]))) fun p hp => hs p (by simp [hp])⟩
/-- a law's row: what it must do, and what its specification says -/
theorem law_of_pure [Valu] {L : List TypeId} {M : Nat} (hL : closedT P L = true) {f : FuncId} {fn : Func} {s : ChangeSpec} {apart fresh handsOn again : Bool} {tb : TypeId} (hres : fn.resultTypes = #[tb]) (htb : P.underlying tb = some .bool) (hvars : s.vars = [])
    (hspec : ∀ ds : List (DataW H), ds.length = fn.params.size → s.fn H ds = { results := [.lit (.bool true)], args := ds }) (hts : ∀ t ∈ fn.params.toList, L.contains t = true)
    {W : World} {ng base : Nat} (hng : ng ≤ W.heap.size) {args : Array Value} {ds gs : List (DataW H)} {before : List MemPlace}
    (hval : ∀ (j : Nat) t v, fn.params[j]? = some t → args[j]? = some v → Value.okWide P W .any base t v) (hW : DataW.Whole enc P fn.params.toList s.vars apart W args.toList ds gs before) (hb : maxLen ≤ M ∨ bulkWAll ds ≤ M)
    (hpure : ∀ xs, ArgsOk P M fn.params.toList xs → PureCalls P ⟨W, ng⟩ f xs (.s (.bool true))) : Calls P f args W fun e W' => ∃ v, e = .returned v ∧ s.post enc P fn apart fresh handsOn again W args v W' := by
  have hW' := hW
  obtain ⟨p, q, hA, hV, rfl, hfz, hnd⟩ := hW
  rw [hvars] at hV
  obtain ⟨rfl, rfl⟩ := trodVars_none hV
  have hdl : ds.length = fn.params.size := by
    have : ∀ {ts : List TypeId} {vs : List Value} {ds : List (DataW H)} {ps : List MemPlace}, DataW.TrodAll enc P W 0 (fun _ => true) true ts vs ds ps → ds.length = ts.length := by
      intro ts
      induction ts with
      | nil => intro vs ds ps h; obtain ⟨_, rfl, _⟩ := trodAll_nil h; rfl
      | cons t ts ih => intro vs ds ps h; obtain ⟨_, _, _, _, _, _, _, rfl, _, _, h2⟩ := trodAll_cons h; simp [ih h2]
    rw [this hA]; simp
  obtain ⟨xs, hx1, hx2, hx3⟩ := open_args hL hA hts (fun j t v h1 h2 => hval j t v (by simpa using h1) (by simpa using h2)) hb
  have hc := (hpure xs hx1).2 (fun r => r < W.heap.size) W args (fun r hr => ⟨by show r < W.heap.size; simp only at hr; omega, rfl⟩) (fun r h => h) (by simpa using hx2) (fun i x v h1 h2 => hx3 i x v h1 (by simpa using h2))
  refine (callsIn_wide (n := 0)).1 (((callsIn_wide (n := 0)).2 hc).mono ?_)
  rintro e W1 ⟨y, rfl, h1, h2, h3, h4, h5, h6⟩
  have hy : y = .bool true := by
    cases h6; rfl
  subst hy
  refine ⟨_, rfl, ?_⟩
  have hlt := hW'.lt
  simp only [List.append_nil] at hW' hfz hnd hlt
  have hsp := hspec (ds ++ []) (by simpa using hdl)
  simp only [List.append_nil] at hsp
  have hargs : ∀ sp : Nat → Bool, (∀ p' ∈ p, sp p'.block = true) → DataW.TrodAll enc P W1 0 sp true fn.params.toList args.toList ds p := fun sp hsp => trodAll_spare hL h2 hA hts hlt hsp
  have hrl : (Value.bool true).resultList fn.resultTypes.size = [.bool true] := by rw [hres]; rfl
  have hres' : ∀ (b : Nat) (sp : Nat → Bool) (hd : Bool), DataW.TrodAll enc P W1 b sp hd fn.resultTypes.toList ((Value.bool true).resultList fn.resultTypes.size) [.lit (.bool true)] [] := by
    intro b sp hd
    rw [hrl, hres]
    exact trodAll_cons_mk (shut_bool htb true) trodAll_mk0
  have hvars' : ∀ sp : Nat → Bool, DataW.TrodVars enc P W1 sp s.vars (s.fn H (ds ++ [])).vars [] := fun sp => by
    rw [hvars]; simp only [List.append_nil]; rw [hsp]; rfl
  refine ⟨ds, [], p, [], p, [], by simpa using hW', ?_, ?_, hvars' _, keptBut_old _ h2 h3 h5, fun _ => ⟨?_, ?_⟩⟩
  · simp only [List.append_nil]; rw [hsp]; exact hres' _ _ _
  · simp only [List.append_nil]; rw [hsp]; exact hargs _ fun p' hp' => by simpa using hlt p' hp'
  · intro j t r h7 h8
    rw [hrl] at h8
    cases j with
    | zero =>
      simp only [List.getElem?_cons_zero, Option.some.injEq] at h8
      subst h8
      rw [hres] at h7
      simp at h7
      subst h7
      exact okWide_bool_mk htb true
    | succ j => simp at h8
  · have e1 := trodAll_append (hargs (fun _ => true) fun _ _ => rfl) (hres' 0 (fun _ => true) true)
    refine ⟨[.lit (.bool true)] ++ ds, [], [] ++ p, ⟨[] ++ p, [], trodAll_append (hargs _ fun _ _ => rfl) (hres' _ _ _), by rw [hvars]; rfl, by simp, ?_, ?_⟩, fun p' hp' _ => by simpa using hp'⟩
    · intro b off hp'
      have hp2 : MemPlace.cell b off ∈ p := by simpa using hp'
      have := hfz b off hp2
      unfold World.frozen? at this ⊢
      rw [h2 b (hlt _ hp2)]; exact this
    · intro ha; simpa using hnd ha
end
end Go.Vm
/- Package variables as a row lists them: their cells. -/
set_option linter.unusedVariables false
set_option linter.unusedSimpArgs false
set_option linter.unusedSectionVars false
namespace Go.Vm
open Go.ChangeShapes Go.WideShapes Go.RowKit

/-- flat types, closed under their parts -/
def flatL (P : Program) (L : List TypeId) : Bool :=
  L.all fun t => match P.underlying t with
    | some .bool | some (.int _) | some .string => P.cellsOf t == 1
    | some (.array n e) => L.contains e && P.cellsOf t == n * P.cellsOf e
    | some (.struct fds) => fieldsOk P L fds.toList 0 (P.cellsOf t)
    | _ => false
mutual
/-- a flat datum's cells -/
def cellsD {H : Type} : DataW H → List S
  | .lit (.bool b) => [.bool b]
  | .lit (.int k n) => [.int k n]
  | .lit (.string l) => [.str ⟨l.toArray⟩]
  | .agg ps => cellsDL ps
  | _ => []
def cellsDL {H : Type} : List (DataW H) → List S
  | [] => []
  | d :: r => cellsD d ++ cellsDL r
end
section
variable [Valu]
variable {H : Type} {enc : TypeId × Value → H} {P : Program} {w : World} {b : Nat} {sp : Nat → Bool} {held : Bool} {L : List TypeId}
theorem flat_fields {n : Nat} {cs : List Value} (ih : ∀ t cs x, L.contains t = true → DataW.trod enc P w b sp held n t cs = some x → cs = (cellsD x.1).map S.val ∧ cs.length = P.cellsOf t) :
    ∀ (fds : List Field) (off : Nat) (ys : List (DataW H × List MemPlace)), fieldsOk P L fds off cs.length = true → (∀ (i : Nat) f, fds[i]? = some f → DataW.trod enc P w b sp held n f.type ((cs.drop f.offset).take (P.cellsOf f.type)) = ys[i]?) → ys.length = fds.length →
      cs.drop off = (cellsDL (ys.map (·.1))).map S.val
  | [], off, ys, hf, _, hl => by
    simp only [fieldsOk, beq_iff_eq] at hf
    have : ys = [] := List.eq_nil_of_length_eq_zero (by simpa using hl)
    subst this
    simp [cellsDL, hf]
  | fd :: r, off, [], hf, _, hl => by simp at hl
  | fd :: r, off, y :: ys, hf, ht, hl => by
    simp only [fieldsOk, Bool.and_eq_true, beq_iff_eq] at hf
    obtain ⟨⟨h1, h2⟩, h3⟩ := hf
    have t0 := ht 0 fd rfl
    simp only [List.getElem?_cons_zero] at t0
    obtain ⟨k1, k2⟩ := ih _ _ _ h2 t0
    have g := flat_fields ih r (off + P.cellsOf fd.type) ys h3 (fun i f hi => by simpa using ht (i + 1) f (by simpa using hi)) (by simpa using hl)
    simp only [List.map_cons, cellsDL, List.map_append]
    rw [← k1, ← g, h1, ← List.drop_drop, List.take_append_drop]
theorem flat_items {e m : Nat} (ih : ∀ t cs x, L.contains t = true → DataW.trod enc P w b sp held m t cs = some x → cs = (cellsD x.1).map S.val ∧ cs.length = P.cellsOf t) (he : L.contains e = true) {cs : List Value} :
    ∀ (xs : List (DataW H × List MemPlace)) (n k : Nat), (∀ i, i < n → DataW.trod enc P w b sp held m e ((cs.drop ((k + i) * P.cellsOf e)).take (P.cellsOf e)) = xs[i]?) → xs.length = n → cs.length = (k + n) * P.cellsOf e → cs.drop (k * P.cellsOf e) = (cellsDL (xs.map (·.1))).map S.val
  | [], n, k, _, hl, hc => by
    have : n = 0 := by simpa using hl.symm
    subst this
    simp [cellsDL, hc]
  | x :: xs, n, k, ht, hl, hc => by
    obtain ⟨n, rfl⟩ : ∃ n', n = n' + 1 := ⟨xs.length, by simpa using hl.symm⟩
    have t0 := ht 0 (by omega)
    simp only [Nat.add_zero, List.getElem?_cons_zero] at t0
    obtain ⟨k1, k2⟩ := ih _ _ _ he t0
    have g := flat_items ih he xs n (k + 1) (fun i hi => by
      have := ht (i + 1) (by omega)
      rw [show k + 1 + i = k + (i + 1) by omega]; simpa using this) (by simpa using hl) (by rw [hc]; congr 1; omega)
    simp only [List.map_cons, cellsDL, List.map_append]
    rw [← k1, ← g, Nat.add_mul, Nat.one_mul, ← List.drop_drop, List.take_append_drop]
theorem flat_cells (hL : flatL P L = true) : ∀ (n : Nat) (t : TypeId) (cs : List Value) (x : DataW H × List MemPlace), L.contains t = true → DataW.trod enc P w b sp held n t cs = some x → cs = (cellsD x.1).map S.val ∧ cs.length = P.cellsOf t
  | 0, t, cs, x, _, h => by simp [DataW.trod] at h
  | n + 1, t, cs, x, ht, h => by
    have hc := List.all_eq_true.1 hL t (by simpa using ht)
    cases hu : P.underlying t with
    | none => simp [hu] at hc
    | some d =>
      rw [hu] at hc
      cases d with
      | bool =>
        simp only [beq_iff_eq] at hc
        rw [DataW.trod_step] at h
        unfold DataW.trodStep at h
        rw [hu] at h
        split at h <;> simp_all
        subst h
        simp [cellsD, S.val]
      | int k =>
        simp only [beq_iff_eq] at hc
        obtain ⟨i, rfl, hx, hw⟩ := DataW.trod_int hu h
        subst hx
        simp [cellsD, S.val, hc]
      | string =>
        simp only [beq_iff_eq] at hc
        rw [DataW.trod_step] at h
        unfold DataW.trodStep at h
        rw [hu] at h
        split at h <;> simp_all
        obtain ⟨hs, rfl⟩ := h
        simp [cellsD, S.val]
      | array k e =>
        simp only [Bool.and_eq_true, beq_iff_eq] at hc
        obtain ⟨xs, m, hm, rfl, hl, hxl, hf⟩ := DataW.trod_array hu h
        cases hm
        refine ⟨?_, hl⟩
        have := flat_items (fun t cs x h1 h2 => flat_cells hL n t cs x h1 h2) hc.1 (cs := cs) xs k 0 (fun i hi => by simpa using hf i hi) hxl (by rw [hl, hc.2]; simp)
        simpa [cellsD] using this
      | struct fds =>
        obtain ⟨ys, n', he, hx, hl, hyl, hf⟩ := DataW.trod_struct hu h
        cases he
        subst hx
        refine ⟨?_, hl⟩
        have := flat_fields (fun t cs x h1 h2 => flat_cells hL n t cs x h1 h2) (cs := cs) fds.toList 0 ys (by rw [hl]; exact hc) (fun i f hi => hf i f (by simpa using hi)) (by simpa using hyl)
        simpa [cellsD] using this
      | _ => simp at hc
/-- a listed variable's cells -/
theorem laid_cells (hL : flatL P L = true) : ∀ {laid : List (String × DataW Unit)} {ps : List MemPlace}, DataW.LaidVars P w laid ps → ∀ n d, (n, d) ∈ laid → ∀ g t, P.globalNamed n = some g → (P.globals[g]?).map (·.type) = some t → L.contains t = true →
    ∃ cs, w.var? P n = some cs ∧ cs.toList = (cellsD d).map S.val
  | [], _, _, n, d, hm, _, _, _, _, _ => by cases hm
  | (n0, d0) :: r, ps, h, n, d, hm, g, t, hg, ht, hl => by
    obtain ⟨g', t', cs, fuel, p, q, h1, h2, h3, h4, h5, _⟩ := h
    rcases List.mem_cons.1 hm with hm | hm
    · cases hm
      obtain rfl := Option.some.inj (h1.symm.trans hg)
      obtain rfl := Option.some.inj (h2.symm.trans ht)
      exact ⟨cs, h3, (flat_cells hL _ _ _ _ hl h4).1⟩
    · exact laid_cells hL h5 n d hm g t hg ht hl
theorem laid_at (hL : flatL P L = true) {laid : List (String × DataW Unit)} (h : laidMet P laid w) {n : String} {d : DataW Unit} (hm : (n, d) ∈ laid) {g t : Nat} (hg : P.globalNamed n = some g) (ht : (P.globals[g]?).map (·.type) = some t) (hl : L.contains t = true) (i : Nat) {s : S} (hs : (cellsD d)[i]? = some s) :
    w.cell? ⟨g, i, none⟩ = some s.val := by
  obtain ⟨ps, h1, _⟩ := h
  obtain ⟨cs, h2, h3⟩ := laid_cells hL h1 n d hm g t hg ht hl
  rw [World.var?_cell hg h2 i, ← Array.getElem?_toList, h3, List.getElem?_map, hs]; rfl
end
end Go.Vm
