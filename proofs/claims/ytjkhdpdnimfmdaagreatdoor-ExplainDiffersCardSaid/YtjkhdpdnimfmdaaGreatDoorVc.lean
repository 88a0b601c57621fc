/- Freezing: a value by content. -/
import Derived.Test.YtjkhdpdnimfmdaaGreatDoorVb
set_option linter.unusedVariables false
set_option linter.unusedSimpArgs false
set_option linter.unusedSectionVars false
namespace Go.Vm
variable [Valu]
variable {P : Program} {E : Env} {Z : Nat → Prop} {φ φ' : Phi} {H H' : Heap} {w w' : World}

/-- some blocks more are marked -/
def Marked (H H' : Heap) : Prop :=
  H'.length = H.length ∧ ∀ b : Nat, H'[b]? = H[b]? ∨ ∃ v fr wd rs, H[b]? = some (.mem v fr wd rs) ∧ H'[b]? = some (.mem v true wd rs)
theorem Marked.refl (H : Heap) : Marked H H := ⟨rfl, fun b => .inl rfl⟩
theorem Marked.trans {A B C : Heap} (h : Marked A B) (h' : Marked B C) : Marked A C := by
  refine ⟨by rw [h'.1, h.1], fun b => ?_⟩
  rcases h.2 b with e | ⟨v, fr, wd, rs, e1, e2⟩ <;> rcases h'.2 b with f | ⟨v', fr', wd', rs', f1, f2⟩
  · exact .inl (by rw [f, e])
  · exact .inr ⟨v', fr', wd', rs', by rw [← e]; exact f1, f2⟩
  · exact .inr ⟨v, fr, wd, rs, e1, by rw [f]; exact e2⟩
  · rw [e2] at f1; cases f1
    exact .inr ⟨v, fr, wd, rs, e1, f2⟩
theorem Marked.set {b v wd : Nat} {fr : Bool} {rs : List (List V)} (h : H[b]? = some (.mem v fr wd rs)) : Marked H (H.set b (.mem v true wd rs)) := by
  refine ⟨by simp, fun k => ?_⟩
  by_cases hk : k = b
  · subst hk; exact .inr ⟨v, fr, wd, rs, h, List.getElem?_set_self (lt_of_get h)⟩
  · exact .inl (List.getElem?_set_ne (Ne.symm hk))
theorem Marked.frz (m : Marked H H') {b v wd : Nat} {rs : List (List V)} (h : H[b]? = some (.mem v true wd rs)) : H'[b]? = some (.mem v true wd rs) := by
  rcases m.2 b with e | ⟨v', fr, wd', rs', e1, e2⟩
  · rw [e, h]
  · rw [h] at e1; cases e1; exact e2
theorem Marked.ext (m : Marked H H') (h : HRel Z φ H w) : Ext Z φ H w φ H' w := by
  refine ⟨Nat.le_refl _, fun _ _ _ => rfl, fun b v wd rs r o hm hb => ⟨rfl, hb, v, wd, rs, m.frz hm⟩, fun b r o hb => .inl ⟨o, hb⟩, fun _ _ hn => hn, by rw [m.1]; exact Nat.le_refl _, fun b B B' h1 h2 => ?_, fun r L hL => ⟨L, hL⟩, rfl, rfl, rfl⟩
  rcases m.2 b with e | ⟨v, fr, wd, rs, e1, e2⟩
  · rw [h2, h1] at e; cases e
    exact Blk.to_refl _ (fun r o hb => ⟨hb, rfl⟩)
  · rw [h1] at e1; rw [h2] at e2; cases e1; cases e2
    exact ⟨Nat.le_refl _, fun _ => ⟨fun r o hb => ⟨hb, rfl⟩, rfl, rfl⟩⟩
theorem Marked.hrel (m : Marked H H') (h : HRel Z φ H w) : HRel Z φ H' w := by
  have e := m.ext h
  refine ⟨h.inj, fun b r o hb => by rw [m.1]; exact h.dom b r o hb, h.zlt, fun b B r o hB hb => ?_⟩
  rcases m.2 b with e1 | ⟨v, fr, wd, rs, e1, e2⟩
  · rw [hB] at e1
    obtain ⟨ob, h1, h2⟩ := h.blk b B r o e1.symm hb
    exact ⟨ob, h1, h2.ext e⟩
  · rw [hB] at e2; cases e2
    obtain ⟨ob, h1, h2⟩ := h.blk b _ r o e1 hb
    exact ⟨ob, h1, ORel.ext (B := .mem v true wd rs) e (by obtain ⟨c, el, q1, q2, q3⟩ := h2; exact ⟨c, el, q1, q2, q3⟩)⟩

/-- what a freezing step owes -/
def FrzOk (Z : Nat → Prop) (φ : Phi) (w : World) (fr : Heap → V → Option (F × Heap)) : Prop :=
  ∀ H v x H' y, HRel Z φ H w → VRel Z φ H w v y → fr H v = some (x, H') → Marked H H' ∧ FRel w (stable Z φ H' w) x y
theorem frzRow_ok {fr : Heap → V → Option (F × Heap)} (hf : FrzOk Z φ w fr) {row : List V} {l : List F} (h : HRel Z φ H w) {g : Nat → Value} (hr : ∀ (j : Nat) x, row[j]? = some x → VRel Z φ H w x (g j)) (hl : frzRow fr H row = some (l, H')) :
    Marked H H' ∧ l.length = row.length ∧ ∀ (j : Nat) c, l[j]? = some c → FRel w (stable Z φ H' w) c (g j) := by
  induction row generalizing H l g with
  | nil => simp only [frzRow, Option.some.injEq, Prod.mk.injEq] at hl; obtain ⟨rfl, rfl⟩ := hl; exact ⟨.refl _, rfl, fun j c h => by simp at h⟩
  | cons v row ih =>
    simp only [frzRow] at hl
    split at hl
    · rename_i x H1 h1
      split at hl
      · rename_i l' H2 h2
        cases hl
        obtain ⟨m1, f1⟩ := hf H v x H1 _ h (hr 0 v rfl) h1
        have e1 := m1.ext h
        obtain ⟨m2, hlen, f2⟩ := ih (m1.hrel h) (g := fun j => g (j + 1)) (fun j x hx => (hr (j + 1) x (by simpa using hx)).ext e1) h2
        refine ⟨m1.trans m2, by simp [hlen], fun j c hc => ?_⟩
        cases j with
        | zero => simp at hc; subst hc; exact f1.ext (m2.ext (m1.hrel h))
        | succ j => exact f2 j c (by simpa using hc)
      · cases hl
    · cases hl
theorem frzRows_ok {fr : Heap → V → Option (F × Heap)} (hf : FrzOk Z φ w fr) {rows : List (List V)} {l : List (List F)} (h : HRel Z φ H w) {g : Nat → Nat → Value} (hr : ∀ (i j : Nat) row x, rows[i]? = some row → row[j]? = some x → VRel Z φ H w x (g i j)) (hl : frzRows fr H rows = some (l, H')) :
    Marked H H' ∧ l.length = rows.length ∧ (∀ (i : Nat) r r', l[i]? = some r → rows[i]? = some r' → r.length = r'.length) ∧ ∀ (i j : Nat) row c, l[i]? = some row → row[j]? = some c → FRel w (stable Z φ H' w) c (g i j) := by
  induction rows generalizing H l g with
  | nil => simp only [frzRows, Option.some.injEq, Prod.mk.injEq] at hl; obtain ⟨rfl, rfl⟩ := hl; exact ⟨.refl _, rfl, fun i r r' h => by simp at h, fun i j row c h => by simp at h⟩
  | cons v rows ih =>
    simp only [frzRows] at hl
    split at hl
    · rename_i x H1 h1
      split at hl
      · rename_i l' H2 h2
        cases hl
        obtain ⟨m1, hl1, f1⟩ := frzRow_ok hf h (g := fun j => g 0 j) (fun j x hx => hr 0 j v x rfl hx) h1
        have e1 := m1.ext h
        obtain ⟨m2, hlen, hw, f2⟩ := ih (m1.hrel h) (g := fun i j => g (i + 1) j) (fun i j row x h3 h4 => (hr (i + 1) j row x (by simpa using h3) h4).ext e1) h2
        refine ⟨m1.trans m2, by simp [hlen], fun i r r' h3 h4 => ?_, fun i j row c h3 h4 => ?_⟩
        · cases i with
          | zero => simp at h3 h4; subst h3 h4; exact hl1
          | succ i => exact hw i r r' (by simpa using h3) (by simpa using h4)
        · cases i with
          | zero => simp at h3; subst h3; exact (f1 j c h4).ext (m2.ext (m1.hrel h))
          | succ i => exact f2 i j row c (by simpa using h3) h4
      · cases hl
    · cases hl

theorem stable_of_frz (h : HRel Z φ H w) {b r o v wd : Nat} {rs : List (List V)} (hφ : φ b = some (r, o)) (hb : H[b]? = some (.mem v true wd rs)) : stable Z φ H w r := by
  refine ⟨(h.dom b r o hφ).2.1, (h.dom b r o hφ).2.2, fun b' o' hb' => ?_⟩
  have := h.inj _ _ _ _ _ hb' hφ
  subst this; exact ⟨v, wd, rs, hb⟩

theorem frzV_ok (n : Nat) : FrzOk Z φ w (frzV n) := by
  induction n with
  | zero => intro H v x H' y h hv hl; simp [frzV] at hl
  | succ n ih =>
    intro H v x H' y h hv hl
    unfold frzV at hl
    split at hl
    · cases hl; exact ⟨.refl _, hv.fz_inv⟩
    · cases hl
      cases hv with
      | cl _ _ a hf => exact ⟨.refl _, hf⟩
    · rename_i cs
      split at hl
      · rename_i l H1 h1
        cases hl
        cases hv with
        | agg _ vs hlen hh =>
          have := frzRow_ok ih h (g := fun j => (vs[j]?).getD undef) (fun j x hx => by
            have hlt := lt_of_get hx
            have : vs[j]? = some (vs[j]'(by omega)) := by simp
            rw [this]; exact hh j x _ hx this) h1
          obtain ⟨m, hl1, hf⟩ := this
          refine ⟨m, .agg _ _ (by omega) fun i c v h2 h3 => ?_⟩
          have := hf i c h2; rw [h3] at this; exact this
      · cases hl
    · rename_i cs
      split at hl
      · rename_i l H1 h1
        cases hl
        cases hv with
        | tup _ vs hlen hh =>
          have := frzRow_ok ih h (g := fun j => (vs[j]?).getD undef) (fun j x hx => by
            have hlt := lt_of_get hx
            have : vs[j]? = some (vs[j]'(by omega)) := by simp
            rw [this]; exact hh j x _ hx this) h1
          obtain ⟨m, hl1, hf⟩ := this
          refine ⟨m, .tup _ _ (by omega) fun i c v h2 h3 => ?_⟩
          have := hf i c h2; rw [h3] at this; exact this
      · cases hl
    · rename_i b ver lo len clip
      split at hl
      · rename_i v0 fr wd rs hb
        split at hl
        · rename_i hcond
          obtain ⟨rfl, hle⟩ := hcond
          split at hl
          · rename_i l H1 h1
            cases hl
            have hro : rowsOf H (.own b v0 lo len clip) = some (wd, (rs.drop lo).take len) := by simp [rowsOf, memAt, hb, hle]
            obtain ⟨ad, cap, news, rfl, h3, _, h5, h6⟩ := rowsOf_rel h hv hro
            have m0 := Marked.set hb
            have e0 := m0.ext h
            obtain ⟨m, hlen, hw, hf⟩ := frzRows_ok ih (m0.hrel h) (g := fun i j => (news[i * wd + j]?).getD undef) (fun i j row x h7 h8 => by
              obtain ⟨v, h9, h10⟩ := h5.2.2 i j row x h7 h8
              rw [List.getElem?_toArray] at h9
              rw [h9]; exact h10.ext e0) h1
            refine ⟨m0.trans m, ?_⟩
            have hlr : ((rs.drop lo).take len).length = len := by rw [List.length_take, List.length_drop]; omega
            cases hv with
            | own _ _ _ _ _ _ hv hbl hh =>
              obtain ⟨r, o, a', cap', hφ, he, q1, q2, q3, q4, q5⟩ := (hh v0 fr wd rs hb).2 rfl
              simp only [Value.slice.injEq, Option.some.injEq] at he
              obtain ⟨rfl, _, rfl⟩ := he
              have hst : stable Z φ H' w r := stable_of_frz ((m0.trans m).hrel h) hφ (m.frz (List.getElem?_set_self hbl))
              rw [← hlen]
              refine .row wd l ad cap r (o + lo * wd) _ (by omega) (fun hne => ⟨q3 (fun h0 => ?_), hst⟩) (fun row hrow => ?_) (fun i j row c h7 h8 => ?_) hf
              · apply hne; apply List.eq_nil_of_length_eq_zero; omega
              · obtain ⟨i, hi, rfl⟩ := List.getElem_of_mem hrow
                have hi2 : i < ((rs.drop lo).take len).length := by omega
                rw [hw i _ _ (by rw [List.getElem?_eq_getElem hi]) (by rw [List.getElem?_eq_getElem hi2])]
                exact h5.2.1 _ (List.getElem_mem hi2)
              · have hi := lt_of_get h7
                have hi2 : i < ((rs.drop lo).take len).length := by omega
                have hrl := hw i row _ h7 (by rw [List.getElem?_eq_getElem hi2])
                have hj := lt_of_get h8
                obtain ⟨v, h9, h10⟩ := h5.2.2 i j (((rs.drop lo).take len)[i]) _ (by rw [List.getElem?_eq_getElem hi2]) (List.getElem?_eq_getElem (by omega))
                rw [List.getElem?_toArray] at h9
                have := h6 _ v h9
                rw [q3 (by omega), add_none] at this
                rw [h9]; exact this
          · cases hl
        · cases hl
      · cases hl
    · rename_i b ver i j
      split at hl
      · rename_i v0 fr wd rs hb
        split at hl
        · rename_i hver; subst hver
          split at hl
          · rename_i row hrow
            split at hl
            · rename_i l H1 h1
              cases hl
              have m0 := Marked.set hb
              have e0 := m0.ext h
              cases hv with
              | ptr _ _ _ _ _ hv hbl hh =>
                obtain ⟨r, o, hφ, rfl⟩ := (hh v0 fr wd rs hb).2 rfl
                obtain ⟨ob, hob, c, e, rfl, hwd, hcells⟩ := h.blk b _ r o hb hφ
                obtain ⟨m, hlen, hf⟩ := frzRow_ok ih (m0.hrel h) (g := fun k => (c[o + (i * wd + k)]?).getD undef) (fun k x h7 => by
                  obtain ⟨v, h9, h10⟩ := hcells i k row x hrow h7
                  rw [h9]; exact h10.ext e0) h1
                refine ⟨m0.trans m, ?_⟩
                have hst : stable Z φ H' w r := stable_of_frz ((m0.trans m).hrel h) hφ (m.frz (List.getElem?_set_self hbl))
                have := FRel.ptr (w := w) (st := stable Z φ H' w) l j r (o + i * wd) _ hst (fun k x hk => ?_) hf
                · rw [show o + (i * wd + j) = o + i * wd + j by omega]; exact this
                · have hk2 : k < row.length := by rw [← hlen]; exact lt_of_get hk
                  obtain ⟨v, h9, h10⟩ := hcells i k row row[k] hrow (by simp [hk2])
                  simp only [World.cell?, hob]
                  rw [show o + i * wd + k = o + (i * wd + k) by omega, h9]; rfl
            · cases hl
          · cases hl
        · cases hl
      · cases hl
    · cases hl

/-- flat values look at nothing -/
theorem FRel.flat {st st' : Nat → Prop} : ∀ {x : F} {v : Value}, FRel w st x v → x.flat = true → FRel w' st' x v := by
  have hl : ∀ {cs : List F}, F.flatL cs = true → ∀ (i : Nat) c, cs[i]? = some c → c.flat = true := by
    intro cs
    induction cs with
    | nil => intro _ i c h; simp at h
    | cons x cs ih =>
      intro hf i c h
      simp only [F.flatL, Bool.and_eq_true] at hf
      cases i with
      | zero => simp at h; subst h; exact hf.1
      | succ i => exact ih hf.2 i c (by simpa using h)
  intro x v h
  induction h with
  | s x => intro _; exact .s x
  | agg cs vs hlen _ ih => intro hf; exact .agg cs vs hlen fun i c v h1 h2 => ih i c v h1 h2 (hl (by simpa [F.flat] using hf) i c h1)
  | tup cs vs hlen _ ih => intro hf; exact .tup cs vs hlen fun i c v h1 h2 => ih i c v h1 h2 (hl (by simpa [F.flat] using hf) i c h1)
  | row => intro hf; simp [F.flat] at hf
  | ptr => intro hf; simp [F.flat] at hf
end Go.Vm
/- Calls, rounds, code: what is claimed of them; an operation in the calculus. -/
set_option linter.unusedVariables false
set_option linter.unusedSimpArgs false
set_option linter.unusedSectionVars false
namespace Go.Vm
variable [Valu]
variable {P : Program} {B : Base} {E : Env} {Z : Nat → Prop} {φ φ' : Phi} {H H' : Heap} {w w' : World}

def Fz (ro : Option Nat) : Fence := { Fence.wide with round := ro }
theorem Fz_none : Fz none = Fence.wide := rfl
theorem Fz_some (l : Nat) : Fz (some l) = Fence.wide.inRound l := rfl
theorem fz_about {ro : Option Nat} {f : FuncId} : (Fz ro).fn f := trivial
theorem fz_calls {ro : Option Nat} {n : Nat} {f : FuncId} {args : Array Value} {R : Ending → World → Prop} (h : Calls P f args w R) : CallsIn (Fz ro) n P f args w R := by
  have := (callsIn_wide (n := n)).2 h
  cases ro with
  | none => exact this
  | some l => exact this

/-- a function's call, its arguments and its result by content -/
def PureCalls (P : Program) (B : Base) (f : FuncId) (xs : List F) (x : F) : Prop :=
  (∀ args w, (callFunc f args).run P w = .ok (.enter f args) w) ∧
  ∀ (st : Nat → Prop) (w : World) (vals : Array Value), (∀ r, r < B.ng → st r ∧ w.heap[r]? = B.w0.heap[r]?) → (∀ r, st r → r < w.heap.size) → xs.length = vals.size →
    (∀ (i : Nat) x v, xs[i]? = some x → vals[i]? = some v → FRel w st x v) →
    Calls P f vals w fun e w' => ∃ y, e = .returned y ∧ w.heap.size ≤ w'.heap.size ∧ (∀ r, r < w.heap.size → w'.heap[r]? = w.heap[r]?) ∧ w'.os = w.os ∧ w'.tape = w.tape ∧ w'.output = w.output ∧
      FRel w' (fun r => st r ∨ (w.heap.size ≤ r ∧ r < w'.heap.size)) x y
/-- what comes of a step that leaves a value and memory -/
def Left (Z : Nat → Prop) (φ : Phi) (H : Heap) (w : World) (v : V) (H' : Heap) (e : Ending) (w' : World) : Prop :=
  ∃ y φ', e = .returned y ∧ VRel Z φ' H' w' v y ∧ HRel Z φ' H' w' ∧ Ext Z φ H w φ' H' w'
def CallOk (P : Program) (B : Base) (E : Env) (f : FuncId) (args : List V) (H : Heap) (v : V) (H' : Heap) : Prop :=
  (∀ args w, (callFunc f args).run P w = .ok (.enter f args) w) ∧
  ∀ (Z : Nat → Prop) (φ : Phi) (w : World) (vals : Array Value), SRel B E Z φ H w → LRel Z φ H w args vals.toList → Calls P f vals w (Left Z φ H w v H')
def RoundOk (P : Program) (B : Base) (E : Env) (l : Nat) (args : List V) (H : Heap) (v : V) (H' : Heap) : Prop :=
  (∃ L, H[l]? = some (.loop L)) ∧ ∀ (Z : Nat → Prop) (φ : Phi) (w : World) (vals : Array Value) (r n : Nat), SRel B E Z φ H w → LRel Z φ H w args vals.toList → φ l = some (r, 0) →
    ∃ f tmps assign body, (Instr.yield r vals).run P w = .ok (.round r f tmps assign body) w ∧ RoundIn Fence.wide n P r f tmps assign body w (Left Z φ H w v H')
def Ex.real : Ex → Exit
  | .normal => .normal | .exit id => .exit id | .goto l => .goto l | .ret => .ret
/-- marks among the deferred calls: blocks of their own -/
def Marks (φ : Phi) (lo : Nat) (w : World) : List Deferred → Prop
  | [] => True
  | d :: ds => ∃ D, d = { target := .collected D, args := #[] } ∧ lo ≤ D ∧ w.heap[D]? = some (.deferred (some [])) ∧ (∀ b o, φ b ≠ some (D, o)) ∧ Marks φ lo w ds ∧ ∀ d' ∈ ds, d' ≠ d
/-- what code comes to -/
def Comes (B : Base) (E : Env) (Z : Nat → Prop) (φ : Phi) (H : Heap) (w : World) (a : Act) (e : Ex) (T' : List V) (H' : Heap) (ex : Exit) (a' : Act) (w' : World) : Prop :=
  ∃ φ', ex = e.real ∧ HRel Z φ' H' w' ∧ Ext Z φ H w φ' H' w' ∧ TRel Z φ' H' w' T' a'.tmps ∧ ∃ ds, a'.defers = ds ++ a.defers ∧ Marks φ' w.heap.size w' ds
def CodeRel (P : Program) (B : Base) (E : Env) (c : Code) (T : List V) (H : Heap) (e : Ex) (T' : List V) (H' : Heap) : Prop :=
  ∀ (ro : Option Nat) (n : Nat) (Z : Nat → Prop) (φ : Phi) (w : World) (a : Act), SRel B E Z φ H w → TRel Z φ H w T a.tmps → (∀ l, ro = some l → ∃ L, w.heap[l]? = some (.loop L)) →
    c.wpIn (Fz ro) n P (Comes B E Z φ H w a e T' H') a w

def LoopIn (F : Fence) (n : Nat) (P : Program) (c : Code) (Q : Exit → Act → World → Prop) (a : Act) (w : World) : Prop :=
  ∀ (b : Frame) (k : List Item) (cs : List Frame), b.roundOf = F.round → F.fn b.fn → F.room (cs.length + 1 + n) →
    ∃ e a' w', Q e a' w' ∧ ArrivesIn (Machine.fenced P F) P (lone (b.atR a (.code c :: .inLoop c :: k)) cs w) b k cs e a' w'
def LoopRel (P : Program) (B : Base) (E : Env) (c : Code) (T : List V) (H : Heap) (e : Ex) (T' : List V) (H' : Heap) : Prop :=
  ∀ (ro : Option Nat) (n : Nat) (Z : Nat → Prop) (φ : Phi) (w : World) (a : Act), SRel B E Z φ H w → TRel Z φ H w T a.tmps → (∀ l, ro = some l → ∃ L, w.heap[l]? = some (.loop L)) →
    LoopIn (Fz ro) n P c (Comes B E Z φ H w a e T' H') a w

structure RecOk (P : Program) (B : Base) (E : Env) (rec : Task → Option Out) : Prop where
  code : ∀ c T H o, rec (.code c T H) = some o → codeOk c = true → ∃ e T' H', o = .ex e T' H' ∧ CodeRel P B E c T H e T' H' ∧ ∀ c', c = .loop c' → LoopRel P B E c' T H e T' H'
  call : ∀ f args H o, rec (.call f args H) = some o → ∃ v H', o = .val v H' ∧ CallOk P B E f args H v H'
  pcall : ∀ f xs o, rec (.pcall f xs) = some o → ∃ x, o = .pv x ∧ PureCalls P B f xs x
  round : ∀ l args H o, rec (.round l args H) = some o → ∃ v H', o = .val v H' ∧ RoundOk P B E l args H v H'
structure EnvRun (P : Program) (B : Base) (E : Env) : Prop where
  ok : EnvOk P E
  gl : GlobOk B E
  fn : ∀ f fn, E.fn f = some fn → P.funcs[f]? = some fn ∧ (fn.name == "runtime.NumGoroutine") = false ∧ ∀ c, fn.body = some c → codeOk c = true
  ext : ∀ f, E.ext f = none
  prim : ∀ f p, E.prim f = some p → ∀ xs x, p xs = some x → PureCalls P B f xs x
  mixed : P.follows .mixedOrders = true

/-- an operation's outcome, in the calculus -/
def OpOk (P : Program) (ro : Option Nat) (k : Nat) (o : Oper) (a : Act) (Z : Nat → Prop) (φ : Phi) (H : Heap) (w : World) (v : V) (H' : Heap) : Prop :=
  ∀ (next : Act → World → Prop) (Q : Exit → Act → World → Prop), (∀ x w' φ', VRel Z φ' H' w' v x → HRel Z φ' H' w' → Ext Z φ H w φ' H' w' → next (a.put o.dst x) w') → o.wpIn (Fz ro) k P a w next Q
theorem semAt_op {ro : Option Nat} {ρ : Operand → Value} {o : Oper} (h : opOk o = true) : o.semAt (Fz ro).round ρ = execOp ρ o := by
  refine Oper.semAt_eq _ _ _ fun c hc => ?_
  simp [opOk, hc] at h
theorem OpOk.of_run {ro : Option Nat} {k : Nat} {o : Oper} (ho : opOk o = true) {a : Act} {v : V} (h : AOk P Z φ H w (execOp a.eval o) v H') : OpOk P ro k o a Z φ H w v H' := by
  intro next Q hn
  obtain ⟨nx, x, w', φ', h1, h2, h3, h4, h5⟩ := h
  refine ⟨fun _ _ => trivial, ?_⟩
  rw [semAt_op ho, h1]
  rcases h2 with rfl | ⟨rfl, rfl⟩
  · exact hn x w' φ' h3 h4 h5
  · exact hn _ w' φ' h3 h4 h5
theorem NOk.act {s : Sem Next} {v : V} (h : NOk P Z φ H w s v) : AOk P Z φ H w s v H := by
  obtain ⟨x, w', h1, h2, h3, h4⟩ := h
  exact ⟨_, x, w', φ, h1, .inl rfl, h2, h3, h4⟩

/-! ### calls of function values -/
theorem frzArgs {fr : Nat} {args : List V} {xs : List F} {H1 : Heap} {vals : Array Value} (h : HRel Z φ H w) (ha : LRel Z φ H w args vals.toList) (hf : frzRow (frzV fr) H args = some (xs, H1)) :
    Marked H H1 ∧ xs.length = vals.size ∧ ∀ (i : Nat) x v, xs[i]? = some x → vals[i]? = some v → FRel w (stable Z φ H1 w) x v := by
  obtain ⟨m, hl, hh⟩ := frzRow_ok (frzV_ok fr) h (g := fun j => (vals[j]?).getD undef) (fun j x hx => by
    have hlt := lt_of_get hx
    have hs : args.length = vals.size := by simpa using ha.1
    have : vals[j]? = some (vals[j]'(by omega)) := by simp
    rw [this]; exact ha.2 j x _ hx (by rw [Array.getElem?_toList]; exact this)) hf
  refine ⟨m, by rw [hl]; simpa using ha.1, fun i x v h1 h2 => ?_⟩
  have := hh i x h1; rw [h2] at this; exact this
/-- behind a call that leaves all that there was -/
theorem pure_left (h : HRel Z φ H w) {H1 : Heap} (m : Marked H H1) {x : F} {y : Value} (hsz : w.heap.size ≤ w'.heap.size) (hold : ∀ r, r < w.heap.size → w'.heap[r]? = w.heap[r]?) (ho : w'.os = w.os) (ht : w'.tape = w.tape) (hp : w'.output = w.output)
    (hx : FRel w' (fun r => stable Z φ H1 w r ∨ (w.heap.size ≤ r ∧ r < w'.heap.size)) x y) {v : V} {H' : Heap} (hk : keepH x H H1 = some (v, H')) : Left Z φ H w v H' (.returned y) w' := by
  simp only [keepH, Option.some.injEq, Prod.mk.injEq] at hk
  obtain ⟨rfl, rfl⟩ := hk
  cases hfl : x.flat with
  | true => exact ⟨y, φ, rfl, .fz _ _ (hx.flat hfl), h.more hsz hold ho ht hp, .more h hsz hold ho ht hp⟩
  | false =>
    have h1 := m.hrel h
    have e1 := Ext.more h1 hsz hold ho ht hp
    refine ⟨y, φ, rfl, .fz _ _ (hx.mono (fun r hr => ?_) (fun _ _ => rfl)), h1.more hsz hold ho ht hp, (m.ext h).trans e1⟩
    rcases hr with hr | ⟨hr1, hr2⟩
    · exact (e1.stable hr).1
    · exact ⟨hr2, fun hz => by have := h.zlt r hz; omega, fun b o hb => by have := (h.dom b r o hb).2.1; omega⟩
theorem pure_call {f : FuncId} {xs : List F} {x : F} (hc : PureCalls P B f xs x) (hs : SRel B E Z φ H w) {args : List V} {vals : Array Value} (ha : LRel Z φ H w args vals.toList) {H1 : Heap} (hf : frzRow (frzV frzFuel) H args = some (xs, H1))
    {v : V} (hk : keepH x H H1 = some (v, H')) : Calls P f vals w (Left Z φ H w v H') := by
  obtain ⟨m, hl, hh⟩ := frzArgs hs.h ha hf
  have hcalls := hc.2 (stable Z φ H1 w) w vals (fun r hr => ⟨((m.ext hs.h).stable (hs.gl r hr).1).1, (hs.gl r hr).2⟩) (fun r hr => hr.1) hl hh
  have hc2 := (callsIn_wide (n := 0)).2 hcalls
  refine (callsIn_wide (n := 0)).1 (hc2.mono ?_)
  rintro e w' ⟨y, rfl, h1, h2, h3, h4, h5, h6⟩
  exact pure_left hs.h m h1 h2 h3 h4 h5 h6 hk

theorem callF_ok (hE : EnvRun P B E) {rec : Task → Option Out} (hr : RecOk P B E rec) {g : FuncId} {args : List V} {v : V} (hl : callF E rec H g args = some (v, H')) :
    (∀ args w, (callFunc g args).run P w = .ok (.enter g args) w) ∧ ∀ (Z : Nat → Prop) (φ : Phi) (w : World) (vals : Array Value), SRel B E Z φ H w → LRel Z φ H w args vals.toList → Calls P g vals w (Left Z φ H w v H') := by
  unfold callF at hl
  rw [hE.ext g] at hl
  simp only at hl
  cases hpu : E.pure g with
  | true =>
    rw [hpu, cond_true] at hl
    unfold callP at hl
    split at hl
    · rename_i xs H1 hf
      split at hl
      · rename_i x hx
        obtain ⟨p, hp, hx⟩ := Option.bind_eq_some_iff.1 hx
        have hc := hE.prim g p hp xs x hx
        exact ⟨hc.1, fun Z φ w vals hs ha => pure_call hc hs ha hf hl⟩
      · split at hl
        · rename_i x hx
          obtain ⟨x', he, hc⟩ := hr.pcall _ _ _ hx
          cases he
          exact ⟨hc.1, fun Z φ w vals hs ha => pure_call hc hs ha hf hl⟩
        · cases hl
    · cases hl
  | false =>
    rw [hpu, cond_false] at hl
    unfold valOf at hl
    split at hl
    · rename_i v1 H1 hx
      cases hl
      obtain ⟨v', H'', he, hc⟩ := hr.call _ _ _ _ hx
      cases he
      exact hc
    · cases hl
theorem act_call (hE : EnvRun P B E) {rec : Task → Option Out} (hr : RecOk P B E rec) (hs : SRel B E Z φ H w) {T : List V} {a : Act} (hT : TRel Z φ H w T a.tmps) {ro : Option Nat} {k : Nat} {o : Oper} {c : Call} (hop : o.op = .call c) {f : Operand} (hc : c.callee = .value f)
    {v : V} (hl : actC E rec H T f c.args.toList = some (v, H')) : OpOk P ro k o a Z φ H w v H' := by
  intro next Q hn
  have hoo : opOk o = true := by simp [opOk, hop]
  unfold actC at hl
  split at hl
  · rename_i fv as hf has
    have hfv := ev_rel hE.gl hs hT hf
    have hargs := evL_rel hE.gl hs hT has
    have hargs' : LRel Z φ H w as (c.args.map a.eval).toList := by rw [Array.toList_map]; exact hargs
    refine ⟨fun _ _ => trivial, ?_⟩
    rw [semAt_op hoo]
    have hfin : ∀ {g : FuncId} {vals : Array Value} {cap : Array Value}, a.eval f = .func (.func g) #[] cap → vals = c.args.map a.eval ++ cap → (∀ args w, (callFunc g args).run P w = .ok (.enter g args) w) → Calls P g vals w (Left Z φ H w v H') →
        o.uponIn (Fz ro) k P a next Q ((execOp a.eval o).run P w) := by
      intro g vals cap he hv hen hcalls
      have hrun : (execOp a.eval o).run P w = .ok (.enter g vals) w := by
        simp [execOp, hop, resolve, hc, Deferred.ofValue, he, invoke, hen, Result.andThen, hv]
      rw [hrun]
      refine ⟨fun h => absurd h (by simp [Fz, Fence.wide]), ?_⟩
      refine (fz_calls hcalls).mono ?_
      rintro e w' ⟨y, φ', rfl, h1, h2, h3⟩
      exact hn y w' φ' h1 h2 h3
    unfold callV at hl
    split at hl
    · rename_i g
      have he := hfv.s_inv
      obtain ⟨hen, hcalls⟩ := callF_ok hE hr hl
      exact hfin (cap := #[]) he (by simp) hen (hcalls Z φ w _ hs hargs')
    · rename_i g cap
      generalize he : a.eval f = fval at hfv
      cases hfv with
      | clo _ _ vs hlen hh =>
        unfold valOf at hl
        split at hl
        · rename_i v1 H1 hx
          cases hl
          obtain ⟨v', H'', he', hen, hcalls⟩ := hr.call _ _ _ _ hx
          cases he'
          refine hfin he rfl hen (hcalls Z φ w _ hs ?_)
          rw [Array.toList_append]
          exact hargs'.append ⟨by simpa using hlen, fun i c v h1 h2 => hh i c v h1 (by simpa using h2)⟩
        · cases hl
    · rename_i l
      unfold valOf at hl
      split at hl
      · rename_i v1 H1 hx
        cases hl
        obtain ⟨v', H'', he', ⟨L, hL⟩, hround⟩ := hr.round _ _ _ _ hx
        cases he'
        generalize he : a.eval f = fval at hfv
        cases hfv with
        | yield _ _ hv hb hh =>
          obtain ⟨r, hφ, rfl⟩ := hh L hL
          obtain ⟨fn, tmps, assign, body, hy, hri⟩ := hround Z φ w _ r (k - 1) hs hargs' hφ
          have hrun : (execOp a.eval o).run P w = .ok (.round r fn tmps assign body) w := by
            simp [execOp, hop, resolve, hc, Deferred.ofValue, he, invoke, Result.andThen, hy]
          rw [hrun]
          refine ⟨fun h => absurd h (by simp [Fz, Fence.wide]), ?_⟩
          have hri' : RoundIn (Fz ro) (k - 1) P r fn tmps assign body w (Left Z φ H w v H') := by
            cases ro with
            | none => exact hri
            | some _ => exact hri
          refine hri'.mono ?_
          rintro e w' ⟨y, φ', rfl, h1, h2, h3⟩
          exact hn y w' φ' h1 h2 h3
      · cases hl
    · cases hl
  · cases hl
theorem actR_ok (hE : EnvRun P B E) {rec : Task → Option Out} (hr : RecOk P B E rec) (hs : SRel B E Z φ H w) {T : List V} {a : Act} (hT : TRel Z φ H w T a.tmps) {ro : Option Nat} {k : Nat} {o : Oper} (ho : opOk o = true)
    {v : V} (hl : actR E rec H T o.op = some (v, H')) : OpOk P ro k o a Z φ H w v H' := by
  unfold actR at hl
  split at hl
  · rename_i c hop
    split at hl
    · rename_i f hc
      exact act_call hE hr hs hT hop hc hl
    · exact .of_run ho (act_ok hE.ok hE.gl hs hT hl)
  · exact .of_run ho (act_ok hE.ok hE.gl hs hT hl)
theorem opR_ok (hE : EnvRun P B E) {rec : Task → Option Out} (hr : RecOk P B E rec) (hs : SRel B E Z φ H w) {T : List V} {a : Act} (hT : TRel Z φ H w T a.tmps) {ro : Option Nat} {k : Nat} {o : Oper} (ho : opOk o = true)
    {v : V} (hl : opR E rec H T o.op = some (v, H')) : OpOk P ro k o a Z φ H w v H' := by
  unfold opR at hl
  split at hl
  · simp only [Option.map_eq_some_iff] at hl
    obtain ⟨v', h1, he⟩ := hl
    cases he
    exact .of_run ho (quiet_ok hE.ok hE.gl hs hT h1).act
  · simp only [Option.map_eq_some_iff] at hl
    obtain ⟨⟨v', b⟩, h1, he⟩ := hl
    cases he
    obtain ⟨x, ob, h2, h3, h4⟩ := fresh_ok hE.ok hE.gl hs hT h1
    refine .of_run ho ⟨_, x, _, upd φ H.length (w.heap.size, 0), h2, .inl rfl, h4 _ _ _ _ (by simp) (fun B' hB' => ?_), hs.h.fresh _ _ h3, .fresh hs.h _ _⟩
    simp at hB'; subst hB'
    exact Blk.to_refl _ ⟨upd_same _ _ _, rfl⟩
  · exact actR_ok hE hr hs hT ho hl
end Go.Vm
/- Regions that draw no order. -/
set_option linter.unusedVariables false
set_option linter.unusedSimpArgs false
set_option linter.unusedSectionVars false
namespace Go.Vm
variable [Valu]
variable {P : Program} {B : Base} {E : Env} {Z : Nat → Prop} {φ φ' : Phi} {H H' : Heap} {w w' : World}

theorem put_rel {T : List V} {a : Act} (hT : TRel Z φ H w T a.tmps) {dst : Option Tmp} {v : V} {x : Value} (hv : VRel Z φ H w v x) : TRel Z φ H w (setD T dst v) (a.put dst x).tmps := by
  cases dst with
  | none => exact hT
  | some d =>
    obtain ⟨hl, hh⟩ := hT
    refine ⟨by simp [setD, Act.put, hl], fun i u y h1 h2 => ?_⟩
    simp only [setD, Act.put] at h1 h2
    by_cases hi : i = d
    · subst hi
      have hlt := lt_of_get h1
      rw [List.length_set] at hlt
      rw [List.getElem?_set_self hlt] at h1
      rw [Array.getElem?_setIfInBounds, if_pos rfl, if_pos (by omega)] at h2
      cases h1; cases h2; exact hv
    · rw [List.getElem?_set_ne (Ne.symm hi)] at h1
      rw [Array.getElem?_setIfInBounds, if_neg (Ne.symm hi)] at h2
      exact hh i u y h1 h2
theorem put_defers (a : Act) (dst : Option Tmp) (x : Value) : (a.put dst x).defers = a.defers := by cases dst <;> rfl
theorem wanted_rel {ops : Array Oper} {T : List V} {o : Oper} {a : Act} {t : Bool} (hg : ∀ k b d, o.guard = some (k, b) → (ops[k]?).bind (·.dst) = some d → ∀ v, T[d]? = some v → ∃ x, a.tmps[d]? = some x ∧ VRel Z φ H w v x) (h : wantV ops T o = some t) : Region.wanted o (yielded ops a.tmps) = t := by
  unfold wantV at h
  unfold Region.wanted
  split at h
  · rename_i hn; rw [hn]; cases h; rfl
  · rename_i j b hj
    rw [hj]
    simp only
    split at h
    · rename_i d hd
      split at h
      · rename_i y hy
        cases h
        obtain ⟨x, hx, hv⟩ := hg j b d hj hd _ hy
        have := hv.s_inv; subst this
        simp [yielded, hd, hx, S.val]
      · rename_i hy
        cases h
        obtain ⟨x, hx, hv⟩ := hg j b d hj hd _ hy
        have := hv.s_inv; subst this
        simp [yielded, hd, hx, S.val]
      · cases h
    · rename_i hd
      cases h
      simp [yielded, hd]
theorem TRel.get {T : List V} {ts : Array Value} (h : TRel Z φ H w T ts) {i : Nat} {v : V} (hi : T[i]? = some v) : ∃ x, ts[i]? = some x ∧ VRel Z φ H w v x := by
  have hlt := lt_of_get hi
  have : i < ts.size := by rw [← h.1]; exact hlt
  exact ⟨ts[i], by simp [this], h.2 i v _ hi (by simp [this])⟩

theorem seqR_ok (hE : EnvRun P B E) {rec : Task → Option Out} (hr : RecOk P B E rec) {ro : Option Nat} {n : Nat} {ops : Array Oper} (hops : seqOk ops = true) {l : List Oper} {is : List Nat} (hlen : is.length = l.length)
    (his : ∀ (k : Nat) i o, is[k]? = some i → l[k]? = some o → ops[i]? = some o) {T T' : List V} {a : Act} (hs : SRel B E Z φ H w) (hT : TRel Z φ H w T a.tmps) (hl : seqR E rec ops l T H = some (T', H')) {Q : Exit → Act → World → Prop}
    (hQ : ∀ a' w' φ', HRel Z φ' H' w' → Ext Z φ H w φ' H' w' → TRel Z φ' H' w' T' a'.tmps → a'.defers = a.defers → Q .normal a' w') : wpOpsIn (Fz ro) n P ops Q is a w := by
  induction l generalizing is T H a φ w with
  | nil =>
    cases is with
    | nil =>
      simp only [seqR, Option.some.injEq, Prod.mk.injEq] at hl
      obtain ⟨rfl, rfl⟩ := hl
      exact hQ a w φ hs.h (.refl _ _ _ _) hT rfl
    | cons _ _ => simp at hlen
  | cons o l ih =>
    cases is with
    | nil => simp at hlen
    | cons i is =>
      have ho := his 0 i o rfl rfl
      have hoo : opOk o = true := by
        unfold seqOk at hops
        rw [Array.all_eq_true'] at hops
        exact hops o (Array.mem_of_getElem? ho)
      simp only [wpOpsIn, ho]
      simp only [seqR] at hl
      split at hl
      · rename_i hw
        have hw' := wanted_rel (fun k b d _ _ v hv => hT.get hv) hw
        simp only [hw', if_true]
        split at hl
        · rename_i v H1 h1
          refine opR_ok hE hr hs hT hoo h1 _ _ fun x w1 φ1 hv hh he => ?_
          refine ih (by simpa using hlen) (fun k i o h2 h3 => his (k + 1) i o (by simpa using h2) (by simpa using h3)) (hs.ext he hh) (put_rel (hT.ext he) hv) hl fun a' w' φ' q1 q2 q3 q4 => ?_
          exact hQ a' w' φ' q1 (he.trans q2) q3 (by rw [q4, put_defers])
        · cases hl
      · rename_i hw
        have hw' := wanted_rel (fun k b d _ _ v hv => hT.get hv) hw
        simp only [hw', Bool.false_eq_true, if_false]
        refine ⟨fun _ _ => trivial, ?_⟩
        refine ih (by simpa using hlen) (fun k i o h2 h3 => his (k + 1) i o (by simpa using h2) (by simpa using h3)) hs (put_rel hT (.s .undef)) hl fun a' w' φ' q1 q2 q3 q4 => ?_
        exact hQ a' w' φ' q1 q2 q3 (by rw [q4, put_defers])
      · cases hl
theorem seq_region (hE : EnvRun P B E) {rec : Task → Option Out} (hr : RecOk P B E rec) {ro : Option Nat} {n : Nat} {id : Nat} {ops : Array Oper} (hops : seqOk ops = true) {T T' : List V} {a : Act} (hs : SRel B E Z φ H w) (hT : TRel Z φ H w T a.tmps)
    (hl : seqR E rec ops ops.toList T H = some (T', H')) {Q : Exit → Act → World → Prop}
    (hQ : ∀ a' w' φ', HRel Z φ' H' w' → Ext Z φ H w φ' H' w' → TRel Z φ' H' w' T' a'.tmps → a'.defers = a.defers → Q .normal a' w') : (Code.region id ops false).wpIn (Fz ro) n P Q a w := by
  refine wpIn_region (seqR_ok hE hr hops (by simp) (fun k i o h1 h2 => ?_) hs hT hl hQ)
  have hk : k < ops.size := by have := lt_of_get h1; simpa using this
  rw [List.getElem?_range hk] at h1; cases h1
  simpa using h2
end Go.Vm
/- Regions that draw their order: the trace. -/
set_option linter.unusedVariables false
set_option linter.unusedSimpArgs false
set_option linter.unusedSectionVars false
namespace Go.Vm
variable [Valu]

/-- a run in one order, step for step; s: how many acts have been -/
inductive Tck (E : Env) (rec : Task → Option Out) (ops : Array Oper) : Nat → List (Nat × Oper) → List V → Heap → List Tr → List Heap → List V → Heap → Prop
  | nil (s : Nat) (T : List V) (H : Heap) : Tck E rec ops s [] T H [] [] T H
  | skip (s : Nat) (i : Nat) (o : Oper) (r : List (Nat × Oper)) (T : List V) (H : Heap) (t : Tr) (tf : List Tr) (G : List Heap) (T' : List V) (H' : Heap) (h1 : t.i = i) (h2 : t.o = o) (h3 : t.T = T) (h4 : t.st = s)
      (hw : wantV ops T o = some false) (h5 : t.want = false) (h6 : t.v = undefV) (h : Tck E rec ops s r (setD T o.dst t.v) H tf G T' H') : Tck E rec ops s ((i, o) :: r) T H (t :: tf) G T' H'
  | quiet (s : Nat) (i : Nat) (o : Oper) (r : List (Nat × Oper)) (T : List V) (H : Heap) (t : Tr) (tf : List Tr) (G : List Heap) (T' : List V) (H' : Heap) (h1 : t.i = i) (h2 : t.o = o) (h3 : t.T = T) (h4 : t.st = s)
      (hw : wantV ops T o = some true) (h5 : t.want = true) (hk : opK o.op = .quiet) (h6 : quietV E H T o.op = some t.v) (h : Tck E rec ops s r (setD T o.dst t.v) H tf G T' H') : Tck E rec ops s ((i, o) :: r) T H (t :: tf) G T' H'
  | fresh (s : Nat) (i : Nat) (o : Oper) (r : List (Nat × Oper)) (T : List V) (H : Heap) (t : Tr) (tf : List Tr) (G : List Heap) (T' : List V) (H' : Heap) (b : Blk) (h1 : t.i = i) (h2 : t.o = o) (h3 : t.T = T) (h4 : t.st = s)
      (hw : wantV ops T o = some true) (h5 : t.want = true) (hk : opK o.op = .fresh) (hid : t.id = H.length) (h6 : freshV E T t.id o.op = some (t.v, b)) (h : Tck E rec ops s r (setD T o.dst t.v) (H ++ [b]) tf G T' H') : Tck E rec ops s ((i, o) :: r) T H (t :: tf) G T' H'
  | act (s : Nat) (i : Nat) (o : Oper) (r : List (Nat × Oper)) (T : List V) (H : Heap) (t : Tr) (tf : List Tr) (G : List Heap) (T' : List V) (H' : Heap) (H1 : Heap) (h1 : t.i = i) (h2 : t.o = o) (h3 : t.T = T) (h4 : t.st = s)
      (hw : wantV ops T o = some true) (h5 : t.want = true) (hk : opK o.op = .act) (h6 : actR E rec H T o.op = some (t.v, H1)) (hlen : H.length ≤ H1.length) (h : Tck E rec ops (s + 1) r (setD T o.dst t.v) H1 tf G T' H') : Tck E rec ops s ((i, o) :: r) T H (t :: tf) (H :: G) T' H'

variable {E : Env} {rec : Task → Option Out} {ops : Array Oper}
theorem traceR_tck {q : List (Nat × Oper)} {T T' : List V} {H H' : Heap} {tr0 tr : List Tr} {G0 G : List Heap} (h : traceR E rec ops q T H tr0 G0 = some (T', H', tr, G)) :
    ∃ tf Gf, tr = tf.reverse ++ tr0 ∧ G = Gf.reverse ++ G0 ∧ Tck E rec ops G0.length q T H tf Gf T' H' := by
  induction q generalizing T H tr0 G0 with
  | nil =>
    simp only [traceR, Option.some.injEq, Prod.mk.injEq] at h
    obtain ⟨rfl, rfl, rfl, rfl⟩ := h
    exact ⟨[], [], rfl, rfl, .nil _ _ _⟩
  | cons p r ih =>
    obtain ⟨i, o⟩ := p
    simp only [traceR] at h
    split at h
    · rename_i hw
      split at h
      · rename_i hk
        split at h
        · rename_i v hv
          obtain ⟨tf, Gf, h1, h2, h3⟩ := ih h
          exact ⟨{ i, o, T, want := true, v, st := G0.length, id := 0 } :: tf, Gf, by rw [h1]; simp, h2, .quiet _ _ _ _ _ _ _ _ _ _ _ rfl rfl rfl rfl hw rfl hk hv h3⟩
        · cases h
      · rename_i hk
        split at h
        · rename_i v b hv
          obtain ⟨tf, Gf, h1, h2, h3⟩ := ih h
          exact ⟨{ i, o, T, want := true, v, st := G0.length, id := H.length } :: tf, Gf, by rw [h1]; simp, h2, .fresh _ _ _ _ _ _ _ _ _ _ _ b rfl rfl rfl rfl hw rfl hk rfl hv h3⟩
        · cases h
      · rename_i hk
        split at h
        · rename_i v H1 hv
          cases hle : Nat.ble H.length H1.length with
          | false => rw [hle] at h; cases h
          | true =>
            rw [hle, cond_true] at h
            obtain ⟨tf, Gf, h1, h2, h3⟩ := ih h
            exact ⟨{ i, o, T, want := true, v, st := G0.length, id := 0 } :: tf, H :: Gf, by rw [h1]; simp, by rw [h2]; simp, .act _ _ _ _ _ _ _ _ _ _ _ H1 rfl rfl rfl rfl hw rfl hk hv (Nat.le_of_ble_eq_true hle) h3⟩
        · cases h
    · rename_i hw
      obtain ⟨tf, Gf, h1, h2, h3⟩ := ih h
      exact ⟨{ i, o, T, want := false, v := undefV, st := G0.length, id := 0 } :: tf, Gf, by rw [h1]; simp, h2, .skip _ _ _ _ _ _ _ _ _ _ _ rfl rfl rfl rfl hw rfl rfl h3⟩
    · cases h

variable {s : Nat} {q : List (Nat × Oper)} {T T' : List V} {H H' : Heap} {tf : List Tr} {G : List Heap}
theorem Tck.first (h : Tck E rec ops s q T H tf G T' H') : ∃ F S, G ++ [H'] = (H ++ F) :: S := by
  induction h with
  | nil s T H => exact ⟨[], [], by simp⟩
  | skip _ _ _ _ _ _ _ _ _ _ _ _ _ _ _ _ _ _ _ ih => exact ih
  | quiet _ _ _ _ _ _ _ _ _ _ _ _ _ _ _ _ _ _ _ _ ih => exact ih
  | fresh _ _ _ _ _ H _ _ _ _ _ b _ _ _ _ _ _ _ _ _ _ ih => obtain ⟨F, S, h⟩ := ih; exact ⟨b :: F, S, by rw [h]; simp⟩
  | act _ _ _ _ _ H _ _ G _ H' _ _ _ _ _ _ _ _ _ _ _ ih => exact ⟨[], G ++ [H'], by simp⟩
theorem Tck.lens (h : Tck E rec ops s q T H tf G T' H') : ∀ Ĥ ∈ G ++ [H'], H.length ≤ Ĥ.length := by
  induction h with
  | nil s T H => intro Ĥ h; simp at h; subst h; exact Nat.le_refl _
  | skip _ _ _ _ _ _ _ _ _ _ _ _ _ _ _ _ _ _ _ ih => exact ih
  | quiet _ _ _ _ _ _ _ _ _ _ _ _ _ _ _ _ _ _ _ _ ih => exact ih
  | fresh _ _ _ _ _ H _ _ _ _ _ b _ _ _ _ _ _ _ _ _ _ ih => intro Ĥ h; have := ih Ĥ h; simp at this; omega
  | act _ _ _ _ _ H _ _ G _ H' _ _ _ _ _ _ _ _ _ hl _ ih =>
    intro Ĥ h
    rw [List.cons_append, List.mem_cons] at h
    rcases h with rfl | h
    · exact Nat.le_refl _
    · exact Nat.le_trans hl (ih Ĥ h)
theorem Tck.qs (h : Tck E rec ops s q T H tf G T' H') : q = tf.map fun t => (t.i, t.o) := by
  induction h with
  | nil s T H => rfl
  | skip _ _ _ _ _ _ _ _ _ _ _ h1 h2 _ _ _ _ _ _ ih => rw [ih, List.map_cons, h1, h2]
  | quiet _ _ _ _ _ _ _ _ _ _ _ h1 h2 _ _ _ _ _ _ _ ih => rw [ih, List.map_cons, h1, h2]
  | fresh _ _ _ _ _ H _ _ _ _ _ b h1 h2 _ _ _ _ _ _ _ _ ih => rw [ih, List.map_cons, h1, h2]
  | act _ _ _ _ _ H _ _ G _ H' _ h1 h2 _ _ _ _ _ _ _ _ ih => rw [ih, List.map_cons, h1, h2]
theorem Tck.st_ge (h : Tck E rec ops s q T H tf G T' H') : ∀ t ∈ tf, s ≤ t.st := by
  induction h with
  | nil s T H => intro t h; cases h
  | skip _ _ _ _ _ _ _ _ _ _ _ _ _ _ h4 _ _ _ _ ih => intro t h; rcases List.mem_cons.1 h with rfl | h; exact Nat.le_of_eq h4.symm; exact ih t h
  | quiet _ _ _ _ _ _ _ _ _ _ _ _ _ _ h4 _ _ _ _ _ ih => intro t h; rcases List.mem_cons.1 h with rfl | h; exact Nat.le_of_eq h4.symm; exact ih t h
  | fresh _ _ _ _ _ H _ _ _ _ _ b _ _ _ h4 _ _ _ _ _ _ ih => intro t h; rcases List.mem_cons.1 h with rfl | h; exact Nat.le_of_eq h4.symm; exact ih t h
  | act _ _ _ _ _ H _ _ G _ H' _ _ _ _ h4 _ _ _ _ _ _ ih => intro t h; rcases List.mem_cons.1 h with rfl | h; exact Nat.le_of_eq h4.symm; have := ih t h; omega

def isFresh (t : Tr) : Prop := t.want = true ∧ opK t.o.op = .fresh
def isActT (t : Tr) : Prop := t.want = true ∧ opK t.o.op = .act
def isQuietT (t : Tr) : Prop := t.want = true ∧ opK t.o.op = .quiet
theorem Tck.fresh_ge (h : Tck E rec ops s q T H tf G T' H') : ∀ t ∈ tf, isFresh t → H.length ≤ t.id := by
  induction h with
  | nil s T H => intro t h; cases h
  | skip _ _ _ _ _ _ _ _ _ _ _ _ h2 _ h4 _ h5 _ _ ih => intro t h hf; rcases List.mem_cons.1 h with rfl | h; exact absurd (h5 ▸ hf.1) (by simp); exact ih t h hf
  | quiet _ _ _ _ _ _ _ _ _ _ _ _ h2 _ h4 _ _ hk _ _ ih => intro t h hf; rcases List.mem_cons.1 h with rfl | h; subst h2; exact absurd (hk ▸ hf.2) (by simp); exact ih t h hf
  | fresh _ _ _ _ _ H _ _ _ _ _ b _ _ _ h4 _ _ _ hid _ _ ih => intro t h hf; rcases List.mem_cons.1 h with rfl | h; exact Nat.le_of_eq hid.symm; have := ih t h hf; simp at this; omega
  | act _ _ _ _ _ H _ _ G _ H' _ _ h2 _ h4 _ _ hk _ hl _ ih => intro t h hf; rcases List.mem_cons.1 h with rfl | h; subst h2; exact absurd (hk ▸ hf.2) (by simp); have := ih t h hf; omega
theorem Tck.fresh_lt (h : Tck E rec ops s q T H tf G T' H') : ∀ t ∈ tf, isFresh t → ∀ (k : Nat) Ĥ, (G ++ [H'])[k]? = some Ĥ → t.st ≤ s + k → t.id < Ĥ.length := by
  induction h with
  | nil s T H => intro t h; cases h
  | skip _ _ _ _ _ _ _ _ _ _ _ _ h2 _ h4 _ h5 _ _ ih => intro t h hf; rcases List.mem_cons.1 h with rfl | h; exact absurd (h5 ▸ hf.1) (by simp); exact ih t h hf
  | quiet _ _ _ _ _ _ _ _ _ _ _ _ h2 _ h4 _ _ hk _ _ ih => intro t h hf; rcases List.mem_cons.1 h with rfl | h; subst h2; exact absurd (hk ▸ hf.2) (by simp); exact ih t h hf
  | fresh _ _ _ _ _ H _ _ _ _ _ b _ _ _ h4 _ _ _ hid _ hh ih =>
    intro t h hf k Ĥ hk hst
    rcases List.mem_cons.1 h with rfl | h
    · have := hh.lens Ĥ (List.mem_of_getElem? hk)
      simp at this; omega
    · exact ih t h hf k Ĥ hk hst
  | act s _ _ _ _ H _ _ G _ H' _ _ h2 _ h4 _ _ hk _ hl hh ih =>
    intro t h hf k Ĥ hkk hst
    rcases List.mem_cons.1 h with rfl | h
    · subst h2; exact absurd (hk ▸ hf.2) (by simp)
    · cases k with
      | zero => have := hh.st_ge t h; omega
      | succ k => exact ih t h hf k Ĥ (by simpa using hkk) (by omega)
theorem Tck.acts (h : Tck E rec ops s q T H tf G T' H') : ∀ t ∈ tf, isActT t → ∃ k Ĥ H1 F, t.st = s + k ∧ (G ++ [H'])[k]? = some Ĥ ∧ actR E rec Ĥ t.T t.o.op = some (t.v, H1) ∧ Ĥ.length ≤ H1.length ∧ (G ++ [H'])[k + 1]? = some (H1 ++ F) ∧
    ∀ t' ∈ tf, isFresh t' → t.st < t'.st → H1.length ≤ t'.id := by
  induction h with
  | nil s T H => intro t h; cases h
  | skip _ _ _ _ _ _ t0 _ _ _ _ _ h2 _ h4 _ h5 _ _ ih =>
    intro t h hf
    rcases List.mem_cons.1 h with rfl | h
    · exact absurd (h5 ▸ hf.1) (by simp)
    · obtain ⟨k, Ĥ, H1, F, q1, q2, q3, q4, q5, q6⟩ := ih t h hf
      refine ⟨k, Ĥ, H1, F, q1, q2, q3, q4, q5, fun t' ht' hf' hlt => ?_⟩
      rcases List.mem_cons.1 ht' with rfl | ht'
      · exact absurd (h5 ▸ hf'.1) (by simp)
      · exact q6 t' ht' hf' hlt
  | quiet _ _ _ _ _ _ t0 _ _ _ _ _ h2 _ h4 _ _ hk _ _ ih =>
    intro t h hf
    rcases List.mem_cons.1 h with rfl | h
    · subst h2; exact absurd (hk ▸ hf.2) (by simp)
    · obtain ⟨k, Ĥ, H1, F, q1, q2, q3, q4, q5, q6⟩ := ih t h hf
      refine ⟨k, Ĥ, H1, F, q1, q2, q3, q4, q5, fun t' ht' hf' hlt => ?_⟩
      rcases List.mem_cons.1 ht' with rfl | ht'
      · subst h2; exact absurd (hk ▸ hf'.2) (by simp)
      · exact q6 t' ht' hf' hlt
  | fresh _ _ _ _ _ H t0 _ _ _ _ b _ h2 _ h4 _ _ hk hid _ hh ih =>
    intro t h hf
    rcases List.mem_cons.1 h with rfl | h
    · subst h2; exact absurd (hk ▸ hf.2) (by simp)
    · obtain ⟨k, Ĥ, H1, F, q1, q2, q3, q4, q5, q6⟩ := ih t h hf
      refine ⟨k, Ĥ, H1, F, q1, q2, q3, q4, q5, fun t' ht' hf' hlt => ?_⟩
      rcases List.mem_cons.1 ht' with rfl | ht'
      · omega
      · exact q6 t' ht' hf' hlt
  | act s _ _ _ _ H t0 _ G _ H' H1 _ h2 h3 h4 _ _ hk h6 hl hh ih =>
    intro t h hf
    rcases List.mem_cons.1 h with rfl | h
    · obtain ⟨F, S, hS⟩ := hh.first
      subst h2 h3
      refine ⟨0, H, H1, F, by omega, by simp, h6, hl, by rw [List.cons_append, List.getElem?_cons_succ, hS]; rfl, fun t' ht' hf' hlt => ?_⟩
      rcases List.mem_cons.1 ht' with rfl | ht'
      · omega
      · exact hh.fresh_ge t' ht' hf'
    · obtain ⟨k, Ĥ, H1, F, q1, q2, q3, q4, q5, q6⟩ := ih t h hf
      refine ⟨k + 1, Ĥ, H1, F, by omega, by simpa using q2, q3, q4, by simpa using q5, fun t' ht' hf' hlt => ?_⟩
      rcases List.mem_cons.1 ht' with rfl | ht'
      · subst h2; exact absurd (hk ▸ hf'.2) (by simp)
      · exact q6 t' ht' hf' hlt
theorem Tck.quiets (h : Tck E rec ops s q T H tf G T' H') : ∀ t ∈ tf, isQuietT t → ∃ k Hq F, t.st = s + k ∧ (G ++ [H'])[k]? = some (Hq ++ F) ∧ quietV E Hq t.T t.o.op = some t.v := by
  induction h with
  | nil s T H => intro t h; cases h
  | skip _ _ _ _ _ _ t0 _ _ _ _ _ h2 _ h4 _ h5 _ _ ih =>
    intro t h hf
    rcases List.mem_cons.1 h with rfl | h
    · exact absurd (h5 ▸ hf.1) (by simp)
    · exact ih t h hf
  | quiet _ _ _ _ _ _ t0 _ _ _ _ _ h2 h3 h4 _ _ hk h6 hh ih =>
    intro t h hf
    rcases List.mem_cons.1 h with rfl | h
    · obtain ⟨F, S, hS⟩ := hh.first
      subst h2 h3
      exact ⟨0, _, F, by omega, by rw [hS]; rfl, h6⟩
    · exact ih t h hf
  | fresh _ _ _ _ _ H t0 _ _ _ _ b _ h2 _ h4 _ _ hk hid _ hh ih =>
    intro t h hf
    rcases List.mem_cons.1 h with rfl | h
    · subst h2; exact absurd (hk ▸ hf.2) (by simp)
    · exact ih t h hf
  | act s _ _ _ _ H t0 _ G _ H' H1 _ h2 h3 h4 _ _ hk h6 hl hh ih =>
    intro t h hf
    rcases List.mem_cons.1 h with rfl | h
    · subst h2; exact absurd (hk ▸ hf.2) (by simp)
    · obtain ⟨k, Hq, F, q1, q2, q3⟩ := ih t h hf
      exact ⟨k + 1, Hq, F, by omega, by simpa using q2, q3⟩
theorem Tck.wants (h : Tck E rec ops s q T H tf G T' H') : ∀ t ∈ tf, wantV ops t.T t.o = some t.want ∧ (t.want = false → t.v = undefV) ∧ (isFresh t → ∃ b, freshV E t.T t.id t.o.op = some (t.v, b)) := by
  induction h with
  | nil s T H => intro t h; cases h
  | skip _ _ _ _ _ _ t0 _ _ _ _ _ h2 h3 h4 hw h5 h6 _ ih =>
    intro t h
    rcases List.mem_cons.1 h with rfl | h
    · subst h2 h3; exact ⟨by rw [hw, h5], fun _ => h6, fun hf => absurd (h5 ▸ hf.1) (by simp)⟩
    · exact ih t h
  | quiet _ _ _ _ _ _ t0 _ _ _ _ _ h2 h3 h4 hw h5 hk h6 hh ih =>
    intro t h
    rcases List.mem_cons.1 h with rfl | h
    · subst h2 h3; exact ⟨by rw [hw, h5], fun h0 => Bool.noConfusion (h5.symm.trans h0), fun hf => absurd (hk ▸ hf.2) (by simp)⟩
    · exact ih t h
  | fresh _ _ _ _ _ H t0 _ _ _ _ b _ h2 h3 h4 hw h5 hk hid h6 hh ih =>
    intro t h
    rcases List.mem_cons.1 h with rfl | h
    · subst h2 h3; exact ⟨by rw [hw, h5], fun h0 => Bool.noConfusion (h5.symm.trans h0), fun hf => ⟨b, h6⟩⟩
    · exact ih t h
  | act s _ _ _ _ H t0 _ G _ H' H1 _ h2 h3 h4 hw h5 hk h6 hl hh ih =>
    intro t h
    rcases List.mem_cons.1 h with rfl | h
    · subst h2 h3; exact ⟨by rw [hw, h5], fun h0 => Bool.noConfusion (h5.symm.trans h0), fun hf => absurd (hk ▸ hf.2) (by simp)⟩
    · exact ih t h
/-- the temporaries behind a piece of it -/
def putAll (T : List V) (tf : List Tr) : List V := tf.foldl (fun T t => setD T t.o.dst t.v) T
theorem Tck.temps (h : Tck E rec ops s q T H tf G T' H') : T' = putAll T tf ∧ ∀ pre t post, tf = pre ++ t :: post → t.T = putAll T pre := by
  induction h with
  | nil s T H => exact ⟨rfl, fun pre t post h => by simp at h⟩
  | skip _ _ _ _ _ _ t0 _ _ _ _ _ h2 h3 h4 hw h5 h6 _ ih =>
    refine ⟨by rw [ih.1, ← h2]; rfl, fun pre t post h => ?_⟩
    cases pre with
    | nil => simp at h; rw [← h.1]; exact h3
    | cons p pre => simp at h; rw [ih.2 pre t post h.2, ← h.1, ← h2]; rfl
  | quiet _ _ _ _ _ _ t0 _ _ _ _ _ h2 h3 h4 hw h5 hk h6 hh ih =>
    refine ⟨by rw [ih.1, ← h2]; rfl, fun pre t post h => ?_⟩
    cases pre with
    | nil => simp at h; rw [← h.1]; exact h3
    | cons p pre => simp at h; rw [ih.2 pre t post h.2, ← h.1, ← h2]; rfl
  | fresh _ _ _ _ _ H t0 _ _ _ _ b _ h2 h3 h4 hw h5 hk hid h6 hh ih =>
    refine ⟨by rw [ih.1, ← h2]; rfl, fun pre t post h => ?_⟩
    cases pre with
    | nil => simp at h; rw [← h.1]; exact h3
    | cons p pre => simp at h; rw [ih.2 pre t post h.2, ← h.1, ← h2]; rfl
  | act s _ _ _ _ H t0 _ G _ H' H1 _ h2 h3 h4 hw h5 hk h6 hl hh ih =>
    refine ⟨by rw [ih.1, ← h2]; rfl, fun pre t post h => ?_⟩
    cases pre with
    | nil => simp at h; rw [← h.1]; exact h3
    | cons p pre => simp at h; rw [ih.2 pre t post h.2, ← h.1, ← h2]; rfl
theorem Tck.split {pre post : List Tr} (h : Tck E rec ops s q T H (pre ++ post) G T' H') : ∃ s' q' T1 H1 G', Tck E rec ops s' q' T1 H1 post G' T' H' := by
  induction pre generalizing s q T H G with
  | nil => exact ⟨_, _, _, _, _, h⟩
  | cons t pre ih => cases h <;> exact ih (by assumption)
theorem Tck.fresh_ne (h : Tck E rec ops s q T H tf G T' H') {pre post : List Tr} {t : Tr} (he : tf = pre ++ t :: post) (ht : isFresh t) : ∀ t' ∈ post, isFresh t' → t.id < t'.id := by
  subst he
  obtain ⟨s', q', T1, H1, G', h'⟩ := h.split
  intro t' ht' hf'
  cases h' with
  | skip _ _ _ _ _ _ _ _ _ _ _ _ h2 _ h4 _ h5 _ _ => exact absurd (h5 ▸ ht.1) (by simp)
  | quiet _ _ _ _ _ _ _ _ _ _ _ _ h2 _ h4 _ _ hk _ _ => subst h2; exact absurd (hk ▸ ht.2) (by simp)
  | fresh _ _ _ _ _ _ _ _ _ _ _ b _ _ _ h4 _ _ _ hid _ hh => have := hh.fresh_ge t' ht' hf'; simp at this; omega
  | act _ _ _ _ _ _ _ _ _ _ _ _ _ h2 _ h4 _ _ hk _ hl _ => subst h2; exact absurd (hk ▸ ht.2) (by simp)

/-- the acts of a trace -/
def actsOf (tf : List Tr) : List Nat := (tf.filter fun t => t.want && isAct t.o).map (·.i)
theorem isAct_iff {o : Oper} : isAct o = true ↔ opK o.op = .act := by unfold isAct; exact beq_iff_eq
theorem actsOf_cons {t : Tr} {tf : List Tr} (h : ¬ isActT t) : actsOf (t :: tf) = actsOf tf := by
  unfold actsOf
  rw [List.filter_cons, if_neg]
  intro h'
  rw [Bool.and_eq_true, isAct_iff] at h'
  exact h h'
theorem actsOf_act {t : Tr} {tf : List Tr} (h : isActT t) : actsOf (t :: tf) = t.i :: actsOf tf := by
  unfold actsOf
  rw [List.filter_cons, if_pos (by rw [Bool.and_eq_true, isAct_iff]; exact h)]; rfl
def ActsOk (s : Nat) (tf : List Tr) (G : List Heap) : Prop :=
  G.length = (actsOf tf).length ∧ (∀ t ∈ tf, t.st ≤ s + (actsOf tf).length) ∧ (∀ t ∈ tf, isActT t → s ≤ t.st ∧ (actsOf tf)[t.st - s]? = some t.i) ∧ (∀ (k : Nat) e, (actsOf tf)[k]? = some e → ∃ t ∈ tf, isActT t ∧ t.i = e ∧ t.st = s + k)
theorem ActsOk.cons {t : Tr} (h : ActsOk s tf G) (hn : ¬ isActT t) (hs : t.st = s) : ActsOk s (t :: tf) G := by
  obtain ⟨h1, h2, h3, h4⟩ := h
  rw [ActsOk, actsOf_cons hn]
  refine ⟨h1, fun t' ht' => ?_, fun t' ht' ha => ?_, fun k e he => ?_⟩
  · rcases List.mem_cons.1 ht' with rfl | ht'
    · omega
    · exact h2 t' ht'
  · rcases List.mem_cons.1 ht' with rfl | ht'
    · exact absurd ha hn
    · exact h3 t' ht' ha
  · obtain ⟨t', q1, q2⟩ := h4 k e he
    exact ⟨t', List.mem_cons_of_mem _ q1, q2⟩
theorem Tck.actsOk (h : Tck E rec ops s q T H tf G T' H') : ActsOk s tf G := by
  induction h with
  | nil s T H => exact ⟨rfl, fun t h => (by cases h), fun t h => (by cases h), fun k e h => by simp [actsOf] at h⟩
  | skip _ _ _ _ _ _ _ _ _ _ _ _ h2 _ h4 _ h5 _ _ ih => exact ih.cons (fun ha => Bool.noConfusion (h5.symm.trans ha.1)) h4
  | quiet _ _ _ _ _ _ _ _ _ _ _ _ h2 _ h4 _ _ hk _ _ ih => exact ih.cons (fun ha => by rw [← h2] at hk; exact OpK.noConfusion (hk.symm.trans ha.2)) h4
  | fresh _ _ _ _ _ H _ _ _ _ _ b _ h2 _ h4 _ _ hk _ _ _ ih => exact ih.cons (fun ha => by rw [← h2] at hk; exact OpK.noConfusion (hk.symm.trans ha.2)) h4
  | act s _ _ _ _ H t0 tf G _ H' _ _ h2 _ h4 _ h5 hk _ hl _ ih =>
    have ha : isActT t0 := ⟨h5, by rw [h2]; exact hk⟩
    obtain ⟨q1, q2, q3, q4⟩ := ih
    rw [ActsOk, actsOf_act ha]
    refine ⟨by simp [q1], fun t' ht' => ?_, fun t' ht' ha' => ?_, fun k e he => ?_⟩
    · rcases List.mem_cons.1 ht' with rfl | ht'
      · omega
      · have := q2 t' ht'; simp; omega
    · rcases List.mem_cons.1 ht' with rfl | ht'
      · exact ⟨by omega, by rw [h4]; simp⟩
      · obtain ⟨p1, p2⟩ := q3 t' ht' ha'
        refine ⟨by omega, ?_⟩
        rw [show t'.st - s = (t'.st - (s + 1)) + 1 by omega, List.getElem?_cons_succ]; exact p2
    · cases k with
      | zero => simp at he; exact ⟨t0, by simp, ha, he, by omega⟩
      | succ k =>
        obtain ⟨t', p1, p2, p3, p4⟩ := q4 k e (by simpa using he)
        exact ⟨t', List.mem_cons_of_mem _ p1, p2, p3, by omega⟩
theorem standsFrom_ok {bs : List Nat} {t : Tr} : ∀ {acts : List Nat} {G : List Heap} {j : Nat}, standsFrom E bs t acts G = true → (∀ (k : Nat) e, k < j → acts[k]? = some e → ((bs[e]?).getD 0).testBit t.i = false) → j ≤ acts.length → ∀ Ĥ, G[j]? = some Ĥ → valueAt E Ĥ t = true := by
  intro acts
  induction acts with
  | nil =>
    intro G j h hj hle Ĥ hG
    have : j = 0 := by simpa using hle
    subst this
    cases G with
    | nil => simp at hG
    | cons H G => simp at hG; subst hG; simpa [standsFrom] using h
  | cons e acts ih =>
    intro G j h hj hle Ĥ hG
    cases G with
    | nil => simp at hG
    | cons H G =>
      simp only [standsFrom, Bool.and_eq_true, Bool.or_eq_true] at h
      cases j with
      | zero => simp at hG; subst hG; exact h.1
      | succ j =>
        rcases h.2 with h2 | h2
        · rw [hj 0 e (by omega) rfl] at h2; cases h2
        · exact ih h2 (fun k e hk he => hj (k + 1) e (Nat.succ_lt_succ hk) (by simpa using he)) (by simpa using hle) Ĥ (by simpa using hG)
end Go.Vm
/- What an operation looks at; that equality is sound; that more memory does no harm. -/
set_option linter.unusedVariables false
set_option linter.unusedSimpArgs false
set_option linter.unusedSectionVars false
namespace Go.Vm
variable [Valu]
variable {E : Env} {rec : Task → Option Out} {H : Heap} {T T' : List V}

/-! ### operands -/
def Agree (E : Env) (T T' : List V) (op : Op) : Prop := ∀ x ∈ op.operands, ev E T x = ev E T' x
theorem evL_congr {xs : List Operand} (h : ∀ x ∈ xs, ev E T x = ev E T' x) : evL E T xs = evL E T' xs := by
  induction xs with
  | nil => rfl
  | cons x xs ih => simp only [evL, h x (by simp), ih fun y hy => h y (by simp [hy])]
theorem evParts_congr {xs : List (Nat × Operand)} (h : ∀ x ∈ xs.map (·.2), ev E T x = ev E T' x) : evParts E T xs = evParts E T' xs := by
  induction xs with
  | nil => rfl
  | cons x xs ih =>
    obtain ⟨i, x⟩ := x
    simp only [evParts, h x (by simp), ih fun y hy => h y (by simp only [List.map_cons, List.mem_cons]; exact .inr hy)]
theorem optV_congr {x : Option Operand} (h : ∀ y ∈ x.toArray, ev E T y = ev E T' y) : optV E T x = optV E T' x := by
  cases x with
  | none => rfl
  | some x => simp only [optV, h x (by simp)]
theorem qCall_congr {c : Call} (h : ∀ x ∈ c.operands, ev E T x = ev E T' x) : qCall E H T c = qCall E H T' c := by
  have ha : ∀ x ∈ c.args.toList, ev E T x = ev E T' x := fun x hx => h x (by simp only [Call.operands, Array.mem_append]; exact .inr (by simpa using hx))
  unfold qCall
  split
  · unfold qLen
    split
    · rename_i x t h1 h2; rw [ha x (by rw [h1]; simp)]
    · rfl
  · unfold qCap
    split
    · rename_i x t h1 h2; rw [ha x (by rw [h1]; simp)]
    · rfl
  · unfold qMinmax; rw [evL_congr ha]
  · unfold qMinmax; rw [evL_congr ha]
  · rfl
theorem quietV_congr {op : Op} (h : Agree E T T' op) : quietV E H T op = quietV E H T' op := by
  unfold Agree at h
  cases op <;> simp only [quietV]
  case move x => exact h x (by simp [Op.operands])
  case assign x => exact h x (by simp [Op.operands])
  case pick c a b => simp only [qPick, h c (by simp [Op.operands]), h a (by simp [Op.operands]), h b (by simp [Op.operands])]
  case build t ps =>
    have := evParts_congr (E := E) (T := T) (T' := T') (xs := ps.toList) (fun x hx => h x (by simpa [Op.operands] using hx))
    simp only [qBuild, this]
  case load t x => simp only [qLoad, h x (by simp [Op.operands])]
  case nilCheck x => simp only [qNil, h x (by simp [Op.operands])]
  case binOp op t x y p => simp only [qBin, h x (by simp [Op.operands]), h y (by simp [Op.operands])]
  case unOp op t x => simp only [qUn, h x (by simp [Op.operands])]
  case convert s d x => simp only [qConv, h x (by simp [Op.operands])]
  case makeFunc fn first captured =>
    unfold qFunc
    split
    · rw [evL_congr (fun x hx => h x (by simp only [Op.operands, Array.mem_append]; exact .inr (by simpa using hx)))]
    · rfl
  case slice t x lo hi mx =>
    simp only [Op.operands, Array.mem_append] at h
    simp only [qSlice, h x (by simp), optV_congr (fun y hy => h y (.inl (.inl (.inr hy)))), optV_congr (fun y hy => h y (.inl (.inr hy))), optV_congr (fun y hy => h y (.inr hy))]
  case fieldAddr t x f => simp only [qFieldAddr, h x (by simp [Op.operands])]
  case field t x f => simp only [qField, h x (by simp [Op.operands])]
  case indexAddr t x y => simp only [qIndexAddr, h x (by simp [Op.operands]), h y (by simp [Op.operands])]
  case index t x y => simp only [qIndex, h x (by simp [Op.operands]), h y (by simp [Op.operands])]
  case lookup t x y ok => simp only [qLookup, h x (by simp [Op.operands]), h y (by simp [Op.operands])]
  case extract x i => simp only [qExtract, h x (by simp [Op.operands])]
  case call c => exact qCall_congr h
theorem freshV_congr {op : Op} {id : Nat} (h : Agree E T T' op) : freshV E T id op = freshV E T' id op := by
  unfold Agree at h
  cases op <;> simp only [freshV]
  case box t x => simp only [fBox, h x (by simp [Op.operands])]
  case buildSlice t n ps =>
    have := evParts_congr (E := E) (T := T) (T' := T') (xs := ps.toList) (fun x hx => h x (by simpa [Op.operands] using hx))
    simp only [fBuild, this]
  case makeSlice t l c => simp only [fMake, h l (by simp [Op.operands]), h c (by simp [Op.operands])]
theorem actV_congr {op : Op} (h : Agree E T T' op) : actV E H T op = actV E H T' op := by
  unfold Agree at h
  cases op <;> simp only [actV]
  case store t a x => simp only [aStore, h a (by simp [Op.operands]), h x (by simp [Op.operands])]
  case mapUpdate t m k x => simp only [aMap, h m (by simp [Op.operands]), h k (by simp [Op.operands]), h x (by simp [Op.operands])]
  case insert t m k x => simp only [aMap, h m (by simp [Op.operands]), h k (by simp [Op.operands]), h x (by simp [Op.operands])]
  case call c =>
    have ha : ∀ x ∈ c.args.toList, ev E T x = ev E T' x := fun x hx => h x (by simp only [Op.operands, Call.operands, Array.mem_append]; exact .inr (by simpa using hx))
    unfold aCall
    split
    · unfold aAppend
      split
      · rename_i s x t t' h1 h2
        rw [ha s (by rw [h1]; simp), ha x (by rw [h1]; simp)]
      · rfl
    · rfl
theorem actR_congr {op : Op} (h : Agree E T T' op) : actR E rec H T op = actR E rec H T' op := by
  unfold actR
  split
  · rename_i c
    split
    · rename_i f hc
      unfold actC
      have h' : ∀ x ∈ c.operands, ev E T x = ev E T' x := h
      rw [h' f (by simp [Call.operands, hc]), evL_congr (fun x hx => h' x (by simp only [Call.operands, Array.mem_append]; exact .inr (by simpa using hx)))]
    · exact actV_congr h
  · exact actV_congr h
theorem mem_tmpsOf {l : List Operand} {t : Tmp} (h : Operand.tmp t ∈ l) : t ∈ tmpsOf l := by
  simp only [tmpsOf, List.mem_filterMap]
  exact ⟨_, h, rfl⟩
theorem agree_of {ops : Array Oper} {o : Oper} (h : ∀ d ∈ readsOf ops o, T[d]? = T'[d]?) : Agree E T T' o.op := by
  intro x hx
  cases x with
  | tmp t => exact h t (by unfold readsOf; exact List.mem_append_left _ (mem_tmpsOf (by simpa using hx)))
  | const c => rfl
  | global g => rfl
  | func f => rfl

/-! ### equality -/
mutual
theorem F.beq_eq : ∀ (x y : F), F.beq x y = true → x = y
  | .s a, .s b, h => by simp only [F.beq, decide_eq_true_eq] at h; rw [h]
  | .agg a, .agg b, h => by simp only [F.beq] at h; rw [F.beqL_eq a b h]
  | .tup a, .tup b, h => by simp only [F.beq] at h; rw [F.beqL_eq a b h]
  | .row w a, .row w' b, h => by simp only [F.beq, Bool.and_eq_true, beq_iff_eq] at h; rw [h.1, F.beqLL_eq a b h.2]
  | .ptr a i, .ptr b j, h => by simp only [F.beq, Bool.and_eq_true, beq_iff_eq] at h; rw [h.1, F.beqL_eq a b h.2]
  | .s _, .agg _, h | .s _, .tup _, h | .s _, .row .., h | .s _, .ptr .., h | .agg _, .s _, h | .agg _, .tup _, h | .agg _, .row .., h | .agg _, .ptr .., h
  | .tup _, .s _, h | .tup _, .agg _, h | .tup _, .row .., h | .tup _, .ptr .., h | .row .., .s _, h | .row .., .agg _, h | .row .., .tup _, h | .row .., .ptr .., h
  | .ptr .., .s _, h | .ptr .., .agg _, h | .ptr .., .tup _, h | .ptr .., .row .., h => by simp [F.beq] at h
theorem F.beqL_eq : ∀ (x y : List F), F.beqL x y = true → x = y
  | [], [], _ => rfl
  | a :: as, b :: bs, h => by simp only [F.beqL, Bool.and_eq_true] at h; rw [F.beq_eq a b h.1, F.beqL_eq as bs h.2]
  | [], _ :: _, h | _ :: _, [], h => by simp [F.beqL] at h
theorem F.beqLL_eq : ∀ (x y : List (List F)), F.beqLL x y = true → x = y
  | [], [], _ => rfl
  | a :: as, b :: bs, h => by simp only [F.beqLL, Bool.and_eq_true] at h; rw [F.beqL_eq a b h.1, F.beqLL_eq as bs h.2]
  | [], _ :: _, h | _ :: _, [], h => by simp [F.beqLL] at h
end
mutual
theorem V.beq_eq : ∀ (x y : V), V.beq x y = true → x = y
  | .fz a, y, h => by cases y <;> simp only [V.beq, Bool.false_eq_true] at h; rw [F.beq_eq _ _ h]
  | .agg a, y, h => by cases y <;> simp only [V.beq, Bool.false_eq_true] at h; rw [V.beqL_eq _ _ h]
  | .tup a, y, h => by cases y <;> simp only [V.beq, Bool.false_eq_true] at h; rw [V.beqL_eq _ _ h]
  | .own a b c d e, y, h => by
    cases y <;> simp only [V.beq, Bool.false_eq_true, Bool.and_eq_true, beq_iff_eq] at h
    obtain ⟨⟨⟨⟨rfl, rfl⟩, rfl⟩, rfl⟩, rfl⟩ := h; rfl
  | .ptr a b c d, y, h => by
    cases y <;> simp only [V.beq, Bool.false_eq_true, Bool.and_eq_true, beq_iff_eq] at h
    obtain ⟨⟨⟨rfl, rfl⟩, rfl⟩, rfl⟩ := h; rfl
  | .cl w a, y, h => by cases y <;> simp only [V.beq, Bool.false_eq_true, Bool.and_eq_true, beq_iff_eq] at h; rw [h.1, F.beqLL_eq _ _ h.2]
  | .clo f a, y, h => by cases y <;> simp only [V.beq, Bool.false_eq_true, Bool.and_eq_true, beq_iff_eq] at h; rw [h.1, V.beqL_eq _ _ h.2]
  | .yield l, y, h => by cases y <;> simp only [V.beq, Bool.false_eq_true, beq_iff_eq] at h; rw [h]
  | .map l, y, h => by cases y <;> simp only [V.beq, Bool.false_eq_true, beq_iff_eq] at h; rw [h]
theorem V.beqL_eq : ∀ (x y : List V), V.beqL x y = true → x = y
  | [], [], _ => rfl
  | a :: as, b :: bs, h => by simp only [V.beqL, Bool.and_eq_true] at h; rw [V.beq_eq a b h.1, V.beqL_eq as bs h.2]
  | [], _ :: _, h | _ :: _, [], h => by simp [V.beqL] at h
end
theorem V.beqLL_eq : ∀ (x y : List (List V)), V.beqLL x y = true → x = y
  | [], [], _ => rfl
  | a :: as, b :: bs, h => by simp only [V.beqLL, Bool.and_eq_true] at h; rw [V.beqL_eq a b h.1, V.beqLL_eq as bs h.2]
  | [], _ :: _, h | _ :: _, [], h => by simp [V.beqLL] at h
theorem isMem_eq {b : Option Blk} {ver wd : Nat} {fr : Bool} {rs : List (List V)} (h : Blk.isMem b ver fr wd rs = true) : b = some (.mem ver fr wd rs) := by
  unfold Blk.isMem at h
  split at h
  · simp only [Bool.and_eq_true, beq_iff_eq] at h
    obtain ⟨⟨⟨rfl, rfl⟩, rfl⟩, h⟩ := h
    rw [V.beqLL_eq _ _ h]
  · cases h

/-! ### more memory -/
variable {X : Heap}
theorem memAt_more {b ver : Nat} {q} (h : memAt H b ver = some q) : memAt (H ++ X) b ver = some q := by
  obtain ⟨fr, wd, rs⟩ := q
  have := memAt_some h
  simp [memAt, List.getElem?_append_left (lt_of_get this), this]
theorem loadC_more {a : V} {n : Nat} {cs : List V} (h : loadC H a n = some cs) : loadC (H ++ X) a n = some cs := by
  unfold loadC at h ⊢
  split at h
  · split at h
    · rename_i hm; rw [memAt_more hm]; exact h
    · cases h
  · exact h
  · cases h
theorem loadV_more {i : TyI} {a v : V} (h : loadV H i a = some v) : loadV (H ++ X) i a = some v := by
  unfold loadV at h ⊢
  cases hg : i.isAgg with
  | true =>
    rw [hg] at h
    simp only [cond_true, Option.map_eq_some_iff] at h ⊢
    obtain ⟨cs, h1, h2⟩ := h
    exact ⟨cs, loadC_more h1, h2⟩
  | false =>
    rw [hg] at h
    simp only [cond_false] at h ⊢
    cases hc : loadC H a 1 with
    | none => rw [hc] at h; cases h
    | some cs => rw [hc] at h; rw [loadC_more hc]; exact h
theorem mapOf_more {x : V} {es} (h : mapOf H x = some es) : mapOf (H ++ X) x = some es := by
  unfold mapOf at h ⊢
  split at h
  · exact h
  · split at h
    · rename_i hm; rw [List.getElem?_append_left (lt_of_get hm), hm]; exact h
    · cases h
  · cases h
theorem lookupV_more {t : TypeId} {x k v : V} {ok : Bool} (h : lookupV E H t x k ok = some v) : lookupV E (H ++ X) t x k ok = some v := by
  unfold lookupV at h ⊢
  cases hm : mapOf H x with
  | none =>
    rw [hm] at h
    split at h
    · cases ‹none = some _›
    · cases h
  | some es => rw [hm] at h; rw [mapOf_more hm]; exact h
theorem indexAddrV_more {t : TypeId} {x k v : V} (h : indexAddrV E H t x k = some v) : indexAddrV E (H ++ X) t x k = some v := by
  unfold indexAddrV at h ⊢
  split at h
  · split at h
    · split at h
      · split at h
        · rename_i hm; rw [memAt_more hm]; exact h
        · cases h
      · exact h
      · exact h
      · cases h
    · cases h
  · exact h
  · cases h
theorem sliceV_more {t : TypeId} {x v : V} {lo hi mx : Option V} (h : sliceV E H t x lo hi mx = some v) : sliceV E (H ++ X) t x lo hi mx = some v := by
  unfold sliceV at h ⊢
  split at h
  · split at h
    · split at h
      · rename_i hc
        rw [if_pos hc]
        split at h
        · exact h
        · split at h
          · simp only at h ⊢
            split at h
            · split at h
              · rename_i hm; rw [memAt_more hm]; exact h
              · cases h
            · exact h
            · exact h
            · exact h
            · exact h
            · cases h
          · cases h
        · cases h
      · cases h
    · cases h
  · cases h
theorem qCall_more {c : Call} {v : V} (h : qCall E H T c = some v) : qCall E (H ++ X) T c = some v := by
  unfold qCall at h ⊢
  split at h
  · unfold qLen at h ⊢
    split at h
    · split at h
      · rename_i y hy
        unfold lenOfV at h ⊢
        split at h
        · exact h
        · cases h
        · exact h
        · simp only [Option.map_eq_some_iff] at h ⊢
          obtain ⟨es, h1, h2⟩ := h
          exact ⟨es, mapOf_more h1, h2⟩
        · cases h
      · cases h
    · cases h
  all_goals exact h
theorem quietV_more {op : Op} {v : V} (h : quietV E H T op = some v) : quietV E (H ++ X) T op = some v := by
  cases op <;> simp only [quietV] at h ⊢ <;> first
    | exact h
    | skip
  case load t x =>
    unfold qLoad at h ⊢
    split at h
    · exact loadV_more h
    · cases h
  case slice t x lo hi mx =>
    unfold qSlice at h ⊢
    split at h
    · rename_i v' l hh m _ _ _ _
      cases hb : (m.isSome && hh.isNone) with
      | true => rw [hb] at h; cases h
      | false => rw [hb] at h; exact sliceV_more h
    · cases h
  case indexAddr t x y =>
    unfold qIndexAddr at h ⊢
    split at h
    · exact indexAddrV_more h
    · cases h
  case lookup t x y ok =>
    unfold qLookup at h ⊢
    split at h
    · exact lookupV_more h
    · cases h
  case call c => exact qCall_more h
end Go.Vm
/- Regions that draw their order: what their text tells; temporaries in whatever order. -/
set_option linter.unusedVariables false
set_option linter.unusedSimpArgs false
set_option linter.unusedSectionVars false
namespace Go.Vm
variable [Valu]

def bef (bs : List Nat) (i j : Nat) : Bool := ((bs[j]?).getD 0).testBit i
theorem closure_bit {bs : List Nat} {y : Oper} {i : Nat} (h : (closure bs y).testBit i = true) : ∃ e ∈ y.after, Region.binds .any e = true ∧ (i = e.on ∨ bef bs i e.on = true) := by
  have key : ∀ (l : List Edge) (m : Nat), (l.foldl (fun m e => if Region.binds .any e then m ||| 2 ^ e.on ||| ((bs[e.on]?).getD 0) else m) m).testBit i = true → m.testBit i = true ∨ ∃ e ∈ l, Region.binds .any e = true ∧ (i = e.on ∨ bef bs i e.on = true) := by
    intro l
    induction l with
    | nil => intro m h; exact .inl h
    | cons e l ih =>
      intro m h
      rw [List.foldl_cons] at h
      rcases ih _ h with h1 | ⟨e', h1, h2⟩
      · split at h1
        · rename_i hb
          rw [Nat.testBit_or, Nat.testBit_or, Bool.or_eq_true, Bool.or_eq_true] at h1
          rcases h1 with (h1 | h1) | h1
          · exact .inl h1
          · rw [Nat.testBit_two_pow] at h1
            exact .inr ⟨e, by simp, hb, .inl (by simpa using (of_decide_eq_true h1).symm)⟩
          · exact .inr ⟨e, by simp, hb, .inr h1⟩
        · exact .inl h1
      · exact .inr ⟨e', by simp [h1], h2⟩
  unfold closure at h
  rw [← Array.foldl_toList] at h
  rcases key _ _ h with h | ⟨e, h1, h2⟩
  · simp at h
  · exact ⟨e, by simpa using h1, h2⟩

/-- what the text of a region tells -/
structure Reg (ops : Array Oper) (l : List Oper) (bs : List Nat) (q : List (Nat × Oper)) : Prop where
  at_ : ∀ (j : Nat) y, l[j]? = some y → ops[j]? = some y
  edge : ∀ (j : Nat) y, l[j]? = some y → ∀ e ∈ y.after, Region.binds .any e = true → e.on < j
  clos : ∀ (j : Nat) y, l[j]? = some y → (bs[j]?).getD 0 = closure bs y
  op : ∀ (j : Nat) y, l[j]? = some y → opOk y = true
  pair : ∀ (i j : Nat) x y, l[i]? = some x → l[j]? = some y → i < j → pairOk ops bs i j x y = true
  ord : orderOk bs (q.map (·.1)) = true
  cov : ∀ j, j < l.length → ∃ o, (j, o) ∈ q
  qmem : ∀ p ∈ q, l[p.1]? = some p.2
theorem zip_mem {l : List Oper} {p : Nat × Oper} (h : p ∈ (List.range l.length).zip l) : l[p.1]? = some p.2 := by
  obtain ⟨i, hi, he⟩ := List.getElem_of_mem h
  rw [List.getElem_zip] at he
  subst he
  simp at hi ⊢
theorem mem_zip {l : List Oper} {j : Nat} {y : Oper} (h : l[j]? = some y) : (j, y) ∈ (List.range l.length).zip l := by
  have hj := lt_of_get h
  rw [List.mem_iff_getElem?]
  exact ⟨j, by rw [List.getElem?_zip_eq_some]; exact ⟨by rw [List.getElem?_range hj], h⟩⟩
theorem orderR_mem {bs : List Nat} {l : List Oper} {p : Nat × Oper} (h : p ∈ orderR bs l) : l[p.1]? = some p.2 := by
  simp only [orderR, List.mem_flatMap, stageOps, List.mem_append, List.mem_filter] at h
  obtain ⟨_, _, h | h⟩ := h
  · exact zip_mem h.1
  · exact zip_mem h.1
theorem reg_of_chain {ops : Array Oper} {l : List Oper} (hl : ∀ (j : Nat) y, l[j]? = some y → ops[j]? = some y) (h : chainOk ops l = true) : Reg ops l (befs l) (orderR (befs l) l) := by
  unfold chainOk at h
  simp only [Bool.and_eq_true, List.all_eq_true] at h
  obtain ⟨⟨h1, h2⟩, h3⟩ := h
  have hj : ∀ (j : Nat) y, l[j]? = some y → edgesOk (befs l) j y = true ∧ opOk y = true ∧ ∀ (i : Nat) x, l[i]? = some x → i < j → pairOk ops (befs l) i j x y = true := by
    intro j y hy
    obtain ⟨⟨q1, q2⟩, q3⟩ := h1 (j, y) (mem_zip hy)
    refine ⟨q1, q2, fun i x hx hij => ?_⟩
    have := q3 (i, x) (mem_zip hx)
    simp only [Bool.or_eq_true, Bool.not_eq_true'] at this
    rcases this with h | h
    · have hb : Nat.blt i j = true := by simp [Nat.blt_eq, hij]
      rw [hb] at h; cases h
    · exact h
  refine ⟨hl, fun j y hy e he hb => ?_, fun j y hy => ?_, fun j y hy => (hj j y hy).2.1, fun i j x y hx hy hij => (hj j y hy).2.2 i x hx hij, h2, fun j hjl => ?_, fun p hp => orderR_mem hp⟩
  · have := (hj j y hy).1
    simp only [edgesOk, Bool.and_eq_true, Array.all_eq_true'] at this
    have := this.1 e he
    rw [hb] at this
    simpa [Nat.blt_eq] using this
  · have := (hj j y hy).1
    simp only [edgesOk, Bool.and_eq_true] at this
    exact Nat.eq_of_beq_eq_true this.2
  · have := h3 j (by simpa using hjl)
    simp only [List.contains_iff_mem, List.mem_map] at this
    obtain ⟨⟨j', o⟩, h4, rfl⟩ := this
    exact ⟨o, h4⟩

/-- what the order of the trace tells -/
structure Ord (ops : Array Oper) (l : List Oper) (bs : List Nat) (tf : List Tr) : Prop where
  at_ : ∀ t ∈ tf, l[t.i]? = some t.o
  cov : ∀ j, j < l.length → ∃ t ∈ tf, t.i = j
  split : ∀ pre t post, tf = pre ++ t :: post → ∀ t' ∈ post, t'.i ≠ t.i ∧ bef bs t'.i t.i = false
  sym : ∀ t ∈ tf, ∀ t' ∈ tf, t.i ≠ t'.i → bef bs t.i t'.i = true ∨ bef bs t'.i t.i = true ∨
    ((isAct t.o && isAct t'.o) = false ∧ (∀ d, t.o.dst = some d → d ∉ readsOf ops t'.o ∧ t'.o.dst ≠ some d) ∧ (∀ d, t'.o.dst = some d → d ∉ readsOf ops t.o ∧ t.o.dst ≠ some d))
theorem apart_spec {ops : Array Oper} {x y : Oper} (h : apartOk ops x y = true) : (∀ d, x.dst = some d → d ∉ readsOf ops y ∧ y.dst ≠ some d) ∧ (∀ d, y.dst = some d → d ∉ readsOf ops x ∧ x.dst ≠ some d) := by
  simp only [apartOk, Bool.and_eq_true] at h
  obtain ⟨h1, h2⟩ := h
  constructor
  · intro d hd
    rw [hd] at h1
    simp only [Bool.and_eq_true, Bool.not_eq_true', bne_iff_ne, ne_eq] at h1
    exact ⟨fun hm => by have := h1.1; simp [hm] at this, h1.2⟩
  · intro d hd
    rw [hd] at h2
    simp only [Bool.not_eq_true'] at h2
    refine ⟨fun hm => by simp [hm] at h2, fun hx => ?_⟩
    rw [hx] at h1
    simp only [Bool.and_eq_true, bne_iff_ne, ne_eq] at h1
    exact h1.2 hd
theorem orderOk_split {bs : List Nat} : ∀ {pre : List Nat} {a : Nat} {post : List Nat}, orderOk bs (pre ++ a :: post) = true → ∀ b ∈ post, b ≠ a ∧ bef bs b a = false := by
  intro pre
  induction pre with
  | nil =>
    intro a post h b hb
    simp only [List.nil_append, orderOk, Bool.and_eq_true, Bool.not_eq_true', List.all_eq_true] at h
    obtain ⟨⟨h1, h2⟩, _⟩ := h
    refine ⟨fun e => ?_, h2 b hb⟩
    subst e; simp [hb] at h1
  | cons p pre ih =>
    intro a post h b hb
    simp only [List.cons_append, orderOk, Bool.and_eq_true] at h
    exact ih h.2 b hb
theorem ord_of {ops : Array Oper} {l : List Oper} {bs : List Nat} {q : List (Nat × Oper)} (hr : Reg ops l bs q) {tf : List Tr} (hq : q = tf.map fun t => (t.i, t.o)) : Ord ops l bs tf := by
  have hat : ∀ t ∈ tf, l[t.i]? = some t.o := fun t ht => hr.qmem (t.i, t.o) (by rw [hq]; exact List.mem_map.2 ⟨t, ht, rfl⟩)
  refine ⟨hat, fun j hj => ?_, fun pre t post he t' ht' => ?_, fun t ht t' ht' hne => ?_⟩
  · obtain ⟨o, h⟩ := hr.cov j hj
    rw [hq] at h
    obtain ⟨t, h1, h2⟩ := List.mem_map.1 h
    cases h2; exact ⟨t, h1, rfl⟩
  · have := hr.ord
    rw [hq, he] at this
    simp only [List.map_map, List.map_append, List.map_cons] at this
    exact orderOk_split this t'.i (List.mem_map.2 ⟨t', ht', rfl⟩)
  · rcases Nat.lt_or_gt_of_ne hne with h | h
    · have := hr.pair _ _ _ _ (hat t ht) (hat t' ht') h
      simp only [pairOk, Bool.or_eq_true, Bool.and_eq_true, Bool.not_eq_true'] at this
      rcases this with h1 | ⟨h1, h2⟩
      · exact .inl h1
      · exact .inr (.inr ⟨h1, (apart_spec h2).1, (apart_spec h2).2⟩)
    · have := hr.pair _ _ _ _ (hat t' ht') (hat t ht) h
      simp only [pairOk, Bool.or_eq_true, Bool.and_eq_true, Bool.not_eq_true'] at this
      rcases this with h1 | ⟨h1, h2⟩
      · exact .inr (.inl h1)
      · exact .inr (.inr ⟨by rw [Bool.and_comm]; exact h1, (apart_spec h2).2, (apart_spec h2).1⟩)

/-! ### temporaries -/
def TD (D : Nat → Bool) (T0 : List V) (tf : List Tr) : List V := tf.foldl (fun T t => bif D t.i then setD T t.o.dst t.v else T) T0
theorem setD_length (T : List V) (d : Option Tmp) (v : V) : (setD T d v).length = T.length := by cases d <;> simp [setD]
theorem TD_length (D : Nat → Bool) (T0 : List V) (tf : List Tr) : (TD D T0 tf).length = T0.length := by
  induction tf generalizing T0 with
  | nil => rfl
  | cons t tf ih => unfold TD at ih ⊢; rw [List.foldl_cons, ih]; cases D t.i <;> simp [setD_length]
theorem setD_get_ne {T : List V} {dst : Option Tmp} {v : V} {d : Tmp} (h : dst ≠ some d) : (setD T dst v)[d]? = T[d]? := by
  cases dst with
  | none => rfl
  | some e => exact List.getElem?_set_ne (fun he => h (by rw [he]))
theorem TD_stay {D : Nat → Bool} {d : Tmp} {tf : List Tr} (h : ∀ t ∈ tf, D t.i = true → t.o.dst ≠ some d) (T0 : List V) : (TD D T0 tf)[d]? = T0[d]? := by
  induction tf generalizing T0 with
  | nil => rfl
  | cons t tf ih =>
    unfold TD at ih ⊢
    rw [List.foldl_cons, ih fun t' ht' => h t' (by simp [ht'])]
    cases hD : D t.i with
    | false => rfl
    | true => exact setD_get_ne (h t (by simp) hD)
theorem TD_all {D : Nat → Bool} {d : Tmp} {tf : List Tr} (h : ∀ t ∈ tf, t.o.dst = some d → D t.i = true) (T0 T1 : List V) (hl : T0.length = T1.length) (he : T0[d]? = T1[d]?) : (TD D T0 tf)[d]? = (putAll T1 tf)[d]? := by
  induction tf generalizing T0 T1 with
  | nil => exact he
  | cons t tf ih =>
    unfold TD at ih ⊢
    unfold putAll at ih ⊢
    rw [List.foldl_cons, List.foldl_cons]
    refine ih (fun t' ht' => h t' (by simp [ht'])) _ _ ?_ ?_
    · cases D t.i <;> simp [setD_length, hl]
    · by_cases hd : t.o.dst = some d
      · rw [h t (by simp) hd, cond_true, hd]
        simp only [setD]
        rw [List.getElem?_set, List.getElem?_set, hl]; simp
      · rw [setD_get_ne hd]
        cases D t.i with
        | false => exact he
        | true => rw [cond_true, setD_get_ne hd]; exact he
theorem TD_append (D : Nat → Bool) (T0 : List V) (a b : List Tr) : TD D T0 (a ++ b) = TD D (TD D T0 a) b := by unfold TD; rw [List.foldl_append]
theorem putAll_append (T0 : List V) (a b : List Tr) : putAll T0 (a ++ b) = putAll (putAll T0 a) b := by unfold putAll; rw [List.foldl_append]
theorem TD_congr {D D' : Nat → Bool} {tf : List Tr} (h : ∀ t ∈ tf, D t.i = D' t.i) (T0 : List V) : TD D T0 tf = TD D' T0 tf := by
  induction tf generalizing T0 with
  | nil => rfl
  | cons t tf ih => unfold TD at ih ⊢; rw [List.foldl_cons, List.foldl_cons, h t (by simp), ih fun t' ht' => h t' (by simp [ht'])]
theorem TD_true {D : Nat → Bool} {tf : List Tr} (h : ∀ t ∈ tf, D t.i = true) (T0 : List V) : TD D T0 tf = putAll T0 tf := by
  induction tf generalizing T0 with
  | nil => rfl
  | cons t tf ih => unfold TD at ih ⊢; unfold putAll at ih ⊢; rw [List.foldl_cons, List.foldl_cons, h t (by simp), cond_true, ih fun t' ht' => h t' (by simp [ht'])]

def ins (D : Nat → Bool) (j : Nat) : Nat → Bool := fun i => D i || i == j
section
variable {ops : Array Oper} {l : List Oper} {bs : List Nat} {tf : List Tr} (ho : Ord ops l bs tf) {D : Nat → Bool} (hcl : ∀ j, j < l.length → D j = true → ∀ i, bef bs i j = true → D i = true)
include ho hcl
/-- nothing behind t in the trace that has come up writes what t reads or writes -/
theorem later_apart {pre post : List Tr} {t : Tr} (he : tf = pre ++ t :: post) (hD : D t.i = false) {t' : Tr} (ht' : t' ∈ post) (hD' : D t'.i = true) : ∀ d, t'.o.dst = some d → d ∉ readsOf ops t.o ∧ t.o.dst ≠ some d := by
  have ht : t ∈ tf := by rw [he]; simp
  have htm : t' ∈ tf := by rw [he]; simp [ht']
  obtain ⟨hne, hb⟩ := ho.split pre t post he t' ht'
  rcases ho.sym t' htm t ht hne with h | h | ⟨_, h, _⟩
  · rw [h] at hb; cases hb
  · have := hcl t'.i (lt_of_get (ho.at_ t' htm)) hD' _ h
    rw [this] at hD; cases hD
  · exact h
/-- what writes ahead of t, of what t reads or writes, has come up -/
theorem earlier_in {pre post : List Tr} {t : Tr} (he : tf = pre ++ t :: post) (hb : ∀ i, bef bs i t.i = true → D i = true) {t' : Tr} (ht' : t' ∈ pre) {d : Tmp} (hd : t'.o.dst = some d) (hr : d ∈ readsOf ops t.o ∨ t.o.dst = some d) : D t'.i = true := by
  have ht : t ∈ tf := by rw [he]; simp
  have htm : t' ∈ tf := by rw [he]; simp [ht']
  obtain ⟨p1, p2, hp⟩ := List.append_of_mem ht'
  obtain ⟨hne, hbf⟩ := ho.split p1 t' (p2 ++ t :: post) (by rw [he, hp]; simp) t (by simp)
  rcases ho.sym t' htm t ht (Ne.symm hne) with h | h | ⟨_, h, _⟩
  · exact hb _ h
  · rw [h] at hbf; cases hbf
  · rcases hr with hr | hr
    · exact absurd hr (h d hd).1
    · exact absurd hr (h d hd).2
theorem TD_reads {T0 : List V} {pre post : List Tr} {t : Tr} (he : tf = pre ++ t :: post) (hD : D t.i = false) (hb : ∀ i, bef bs i t.i = true → D i = true) : ∀ d ∈ readsOf ops t.o, (TD D T0 tf)[d]? = (putAll T0 pre)[d]? := by
  intro d hd
  rw [he, TD_append]
  rw [TD_stay (tf := t :: post) (fun t' ht' hD' => ?_)]
  · exact TD_all (fun t' ht' hdst => earlier_in ho hcl he hb ht' hdst (.inl hd)) _ _ rfl rfl
  · rcases List.mem_cons.1 ht' with rfl | ht'
    · rw [hD'] at hD; cases hD
    · exact fun hdst => (later_apart ho hcl he hD ht' hD' d hdst).1 hd
theorem TD_ins {T0 : List V} {pre post : List Tr} {t : Tr} (he : tf = pre ++ t :: post) (hD : D t.i = false) : TD (ins D t.i) T0 tf = setD (TD D T0 tf) t.o.dst t.v := by
  have hpost : ∀ t' ∈ post, t'.i ≠ t.i := fun t' ht' => (ho.split pre t post he t' ht').1
  have hpre : ∀ t' ∈ pre, t'.i ≠ t.i := fun t' ht' => by
    obtain ⟨p1, p2, hp⟩ := List.append_of_mem ht'
    exact Ne.symm (ho.split p1 t' (p2 ++ t :: post) (by rw [he, hp]; simp) t (by simp)).1
  have hins : ∀ i, i ≠ t.i → ins D t.i i = D i := fun i hi => by simp [ins, hi]
  have hself : ins D t.i t.i = true := by simp [ins]
  have comm : ∀ (L : List Tr) (T : List V), (∀ t' ∈ L, D t'.i = true → ∀ d, t'.o.dst = some d → t.o.dst ≠ some d) → TD D (setD T t.o.dst t.v) L = setD (TD D T L) t.o.dst t.v := by
    intro L
    induction L with
    | nil => intro T _; rfl
    | cons x L ih =>
      intro T h
      unfold TD at ih ⊢
      rw [List.foldl_cons, List.foldl_cons]
      cases hx : D x.i with
      | false => exact ih T fun t' ht' => h t' (by simp [ht'])
      | true =>
        rw [cond_true, cond_true]
        have hd := h x (by simp) hx
        have : setD (setD T t.o.dst t.v) x.o.dst x.v = setD (setD T x.o.dst x.v) t.o.dst t.v := by
          cases h1 : t.o.dst with
          | none => rfl
          | some d1 =>
            cases h2 : x.o.dst with
            | none => rfl
            | some d2 =>
              have : d1 ≠ d2 := fun e => hd d2 h2 (by rw [h1, e])
              simp only [setD]
              exact List.set_comm _ _ this
        rw [this]
        exact ih _ fun t' ht' => h t' (by simp [ht'])
  conv => lhs; rw [he, TD_append, TD_congr (fun t' ht' => hins _ (hpre t' ht'))]
  conv => rhs; rw [he, TD_append]
  have e1 : ∀ T, TD (ins D t.i) T (t :: post) = TD D (setD T t.o.dst t.v) post := by
    intro T
    have := TD_congr (tf := post) (fun t' ht' => hins _ (hpost t' ht')) (setD T t.o.dst t.v)
    rw [← this]
    show (t :: post).foldl _ T = _
    rw [List.foldl_cons, hself]; rfl
  have e2 : ∀ T, TD D T (t :: post) = TD D T post := by
    intro T
    show (t :: post).foldl _ T = _
    rw [List.foldl_cons, hD]; rfl
  rw [e1, e2]
  exact comm _ _ fun t' ht' hD' d hd => (later_apart ho hcl he hD ht' hD' d hd).2
end
end Go.Vm
/- Regions that draw their order: the invariant and its steps. -/
set_option linter.unusedVariables false
set_option linter.unusedSimpArgs false
set_option linter.unusedSectionVars false
namespace Go.Vm
variable [Valu]
variable {P : Program} {B : Base} {E : Env} {Z : Nat → Prop} {φ φ' : Phi} {H H' : Heap} {w w' : World}

theorem Blk.to_mono {p q : Prop} (h : p → q) {A C : Blk} (h1 : A.to p C) : A.to q C := by
  cases A <;> cases C <;> simp only [Blk.to] at h1 ⊢ <;> first
    | exact h1
    | exact h h1
    | exact ⟨h1.1, fun e => ⟨h (h1.2 e).1, (h1.2 e).2⟩⟩

/-- more blocks that nothing real stands for -/
theorem Ext.pad (F : Heap) (h : HRel Z φ H w) : Ext Z φ H w φ (H ++ F) w := by
  refine ⟨Nat.le_refl _, fun _ _ _ => rfl, fun b v wd rs r o hm hb => ⟨rfl, hb, v, wd, rs, by rw [List.getElem?_append_left (lt_of_get hm)]; exact hm⟩, fun b r o hb => .inl ⟨o, hb⟩, fun _ _ hn => hn, by simp, fun b B B' h1 h2 => ?_, fun r L hL => ⟨L, hL⟩, rfl, rfl, rfl⟩
  rw [List.getElem?_append_left (lt_of_get h1), h1] at h2; cases h2
  exact Blk.to_refl _ (fun r o hb => ⟨hb, rfl⟩)
theorem HRel.pad (F : Heap) (h : HRel Z φ H w) : HRel Z φ (H ++ F) w := by
  refine ⟨h.inj, fun b r o hb => ⟨by have := (h.dom b r o hb).1; simp; omega, (h.dom b r o hb).2⟩, h.zlt, fun b Bk r o hB hb => ?_⟩
  rw [List.getElem?_append_left (h.dom b r o hb).1] at hB
  obtain ⟨ob, h1, h2⟩ := h.blk b Bk r o hB hb
  exact ⟨ob, h1, h2.ext (Ext.pad F h)⟩
/-- a block that was foreseen comes to be -/
theorem Mv.late (h : HRel Z φ H w) {id : Nat} (hn : φ id = none) (ob : Obj) : Mv Z φ H w Z (upd φ id (w.heap.size, 0)) H (w.alloc ob) := by
  refine ⟨fun r hr => ⟨⟨by rw [push_size]; have := hr.1; omega, hr.2.1, fun b o hb => ?_⟩, fun o v => cell_same (push_old hr.1) o v⟩, Nat.le_refl _, fun b B1 B2 h1 h2 => ?_⟩
  · by_cases hb' : b = id
    · subst hb'; rw [upd_same] at hb; cases hb; exact absurd hr.1 (Nat.lt_irrefl _)
    · rw [upd_other _ _ hb'] at hb; exact hr.2.2 b o hb
  · rw [h1] at h2; cases h2
    refine Blk.to_refl _ fun r o hb => ?_
    have hb' : b ≠ id := by rintro rfl; rw [hn] at hb; cases hb
    exact ⟨by rw [upd_other _ _ hb']; exact hb, by unfold cellsSize; rw [push_old (h.dom b r o hb).2.1]⟩
theorem HRel.late (h : HRel Z φ H w) {id : Nat} (hn : φ id = none) {Bk : Blk} (hB : H[id]? = some Bk) {ob : Obj} (ho : ORel Z φ H w 0 Bk ob) : HRel Z (upd φ id (w.heap.size, 0)) H (w.alloc ob) := by
  have m := Mv.late h hn ob
  refine ⟨fun b b' r o o' h1 h2 => ?_, fun b r o hb => ?_, fun r hr => by rw [push_size]; have := h.zlt r hr; omega, fun b B' r o hB' hb => ?_⟩
  · by_cases hb : b = id <;> by_cases hb' : b' = id
    · omega
    · subst hb; rw [upd_same] at h1; rw [upd_other _ _ hb'] at h2; cases h1; have := (h.dom _ _ _ h2).2.1; omega
    · subst hb'; rw [upd_same] at h2; rw [upd_other _ _ hb] at h1; cases h2; have := (h.dom _ _ _ h1).2.1; omega
    · rw [upd_other _ _ hb] at h1; rw [upd_other _ _ hb'] at h2; exact h.inj b b' r o o' h1 h2
  · by_cases hb' : b = id
    · subst hb'; rw [upd_same] at hb; cases hb; exact ⟨lt_of_get hB, by rw [push_size]; omega, fun hz => by have := h.zlt _ hz; omega⟩
    · rw [upd_other _ _ hb'] at hb; have := h.dom _ _ _ hb; exact ⟨this.1, by rw [push_size]; omega, this.2.2⟩
  · by_cases hb' : b = id
    · subst hb'; rw [upd_same] at hb; cases hb
      rw [hB] at hB'; cases hB'
      exact ⟨ob, push_new, ho.mv m⟩
    · rw [upd_other _ _ hb'] at hb
      obtain ⟨ob', h1, h2⟩ := h.blk b B' r o hB' hb
      exact ⟨ob', by rw [push_old (heap_lt h1)]; exact h1, h2.mv m⟩
theorem Ext.late {φ0 : Phi} {H0 : Heap} {w0 : World} (e : Ext Z φ0 H0 w0 φ H w) (h : HRel Z φ H w) {id : Nat} (hid : H0.length ≤ id) (hn : φ id = Option.none) (ob : Obj) : Ext Z φ0 H0 w0 (upd φ id (w.heap.size, 0)) H (w.alloc ob) := by
  have hne : ∀ b, b < H0.length → b ≠ id := fun b hb => by omega
  refine ⟨by rw [push_size]; have := e.size; omega, fun r hr hn => ?_, fun b v wd rs r o hm hb => ?_, fun b r o hb => ?_, fun b hb hn => by rw [upd_other _ _ (hne b hb)]; exact e.none b hb hn, e.len, fun b B1 B2 h1 h2 => ?_, fun r L hL => ?_, e.os, e.tape, e.output⟩
  · rw [push_old (Nat.lt_of_lt_of_le hr e.size)]; exact e.keep r hr hn
  · obtain ⟨h1, h2, h3⟩ := e.frz b v wd rs r o hm hb
    exact ⟨by rw [push_old (h.dom b r o h2).2.1]; exact h1, by rw [upd_other _ _ (hne b (lt_of_get hm))]; exact h2, h3⟩
  · by_cases hb' : b = id
    · subst hb'; rw [upd_same] at hb; cases hb; exact .inr e.size
    · rw [upd_other _ _ hb'] at hb; exact e.new b r o hb
  · refine Blk.to_mono (fun hp r o hb => ?_) (e.blk b B1 B2 h1 h2)
    obtain ⟨p1, p2⟩ := hp r o hb
    exact ⟨by rw [upd_other _ _ (hne b (lt_of_get h1))]; exact p1, by rw [← p2]; unfold cellsSize; rw [push_old (h.dom b r o p1).2.1]⟩
  · obtain ⟨L', hL'⟩ := e.loops r L hL
    exact ⟨L', by rw [push_old (heap_lt hL')]; exact hL'⟩

theorem wantV_congr {ops : Array Oper} {T T' : List V} {o : Oper} (h : ∀ d ∈ readsOf ops o, T[d]? = T'[d]?) : wantV ops T o = wantV ops T' o := by
  unfold wantV
  cases hg : o.guard with
  | none => rfl
  | some p =>
    obtain ⟨j, b⟩ := p
    simp only
    cases hd : (ops[j]?).bind (·.dst) with
    | none => rfl
    | some d =>
      simp only
      rw [h d (by unfold readsOf; rw [hg]; simp [hd])]

structure Inv (B : Base) (E : Env) (Z : Nat → Prop) (φ0 : Phi) (H0 : Heap) (w0 : World) (a0 : Act) (T0 : List V) (bs : List Nat) (n : Nat) (tf : List Tr) (D : Nat → Bool) (H : Heap) (φ : Phi) (a : Act) (w : World) : Prop where
  s : SRel B E Z φ H w
  e : Ext Z φ0 H0 w0 φ H w
  t : TRel Z φ H w (TD D T0 tf) a.tmps
  d : a.defers = a0.defers
  fr : ∀ t ∈ tf, isFresh t → D t.i = false → φ t.id = none
  cl : ∀ j, j < n → D j = true → ∀ i, bef bs i j = true → D i = true
section
variable {ops : Array Oper} {l : List Oper} {bs : List Nat} {tf : List Tr} {φ0 : Phi} {H0 : Heap} {w0 : World} {a a0 : Act} {T0 : List V} {D : Nat → Bool}
theorem ins_self (D : Nat → Bool) (j : Nat) : ins D j j = true := by simp [ins]
theorem ins_mono {D : Nat → Bool} {i j : Nat} (h : D i = true) : ins D j i = true := by simp [ins, h]
theorem ins_false {D : Nat → Bool} {i j : Nat} (h : ins D j i = false) : D i = false ∧ i ≠ j := by simpa [ins] using h
/-- a step of the trace is made -/
theorem Inv.step (h : Inv B E Z φ0 H0 w0 a0 T0 bs l.length tf D H φ a w) (ho : Ord ops l bs tf) {pre post : List Tr} {t : Tr} (he : tf = pre ++ t :: post) (hD : D t.i = false) (hb : ∀ i, bef bs i t.i = true → D i = true)
    {x : Value} (m : Mv Z φ H w Z φ' H' w') (hh : HRel Z φ' H' w') (e : Ext Z φ0 H0 w0 φ' H' w') (hv : VRel Z φ' H' w' t.v x) (hgl : ∀ r, r < B.ng → stable Z φ' H' w' r ∧ w'.heap[r]? = B.w0.heap[r]?)
    (hf : ∀ t' ∈ tf, isFresh t' → D t'.i = false → t'.i ≠ t.i → φ' t'.id = none) : Inv B E Z φ0 H0 w0 a0 T0 bs l.length tf (ins D t.i) H' φ' (a.put t.o.dst x) w' := by
  refine ⟨⟨hh, hgl⟩, e, ?_, by rw [put_defers]; exact h.d, fun t' ht' hf' hD' => hf t' ht' hf' (ins_false hD').1 (ins_false hD').2, fun j hj hDj i hij => ?_⟩
  · rw [TD_ins ho h.cl he hD]
    exact put_rel (h.t.mv m) hv
  · simp only [ins, Bool.or_eq_true, beq_iff_eq] at hDj
    rcases hDj with hDj | rfl
    · exact ins_mono (h.cl j hj hDj i hij)
    · exact ins_mono (hb i hij)
variable {Q : Exit → Act → World → Prop} {K : Act → World → Prop} {ro : Option Nat} {n : Nat} {rec : Task → Option Out}
theorem Inv.agree (h : Inv B E Z φ0 H0 w0 a0 T0 bs l.length tf D H φ a w) (ho : Ord ops l bs tf) {pre post : List Tr} {t : Tr} (he : tf = pre ++ t :: post) (hD : D t.i = false) (hb : ∀ i, bef bs i t.i = true → D i = true) (hT : t.T = putAll T0 pre) :
    Agree E t.T (TD D T0 tf) t.o.op ∧ wantV ops (TD D T0 tf) t.o = wantV ops t.T t.o := by
  have hr : ∀ d ∈ readsOf ops t.o, (TD D T0 tf)[d]? = t.T[d]? := fun d hd => by rw [TD_reads ho h.cl he hD hb d hd, hT]
  exact ⟨agree_of (fun d hd => (hr d hd).symm), wantV_congr hr⟩
/-- an operation that is not wanted -/
theorem Inv.unwanted (h : Inv B E Z φ0 H0 w0 a0 T0 bs l.length tf D H φ a w) (ho : Ord ops l bs tf) (hat : ∀ (j : Nat) y, l[j]? = some y → ops[j]? = some y) {pre post : List Tr} {t : Tr} (he : tf = pre ++ t :: post) (hD : D t.i = false) (hb : ∀ i, bef bs i t.i = true → D i = true) (hT : t.T = putAll T0 pre)
    (hw : wantV ops t.T t.o = some false) (hv : t.v = undefV) (hK : ∀ a' , Inv B E Z φ0 H0 w0 a0 T0 bs l.length tf (ins D t.i) H φ a' w → K a' w) : wpOpIn (Fz ro) n P ops Q t.i K a w := by
  have hmem : t ∈ tf := by rw [he]; simp
  have hat' := hat _ _ (ho.at_ t hmem)
  obtain ⟨_, hw2⟩ := h.agree ho he hD hb hT (E := E)
  rw [hw] at hw2
  have hww := wanted_rel (fun k b d _ _ v hv => h.t.get hv) hw2
  unfold wpOpIn
  simp only [hat', hww, Bool.false_eq_true, if_false]
  refine ⟨fun _ _ => trivial, hK _ ?_⟩
  exact h.step ho he hD hb (Ext.refl _ _ _ _).mv h.s.h h.e (by rw [hv]; exact .s .undef) h.s.gl (fun t' ht' hf hD' _ => h.fr t' ht' hf hD')
/-- an operation that does not act -/
theorem Inv.nonact (hE : EnvRun P B E) (h : Inv B E Z φ0 H0 w0 a0 T0 bs l.length tf D H φ a w) (ho : Ord ops l bs tf) (hat : ∀ (j : Nat) y, l[j]? = some y → ops[j]? = some y) (hok : ∀ (j : Nat) y, l[j]? = some y → opOk y = true) {pre post : List Tr} {t : Tr} (he : tf = pre ++ t :: post) (hD : D t.i = false) (hb : ∀ i, bef bs i t.i = true → D i = true) (hT : t.T = putAll T0 pre)
    (hw : wantV ops t.T t.o = some true) (hwt : t.want = true) (hva : valueAt E H t = true ∨ (opK t.o.op = .quiet ∧ quietV E H t.T t.o.op = some t.v)) (hfr : isFresh t → (∃ b, freshV E t.T t.id t.o.op = some (t.v, b)) ∧ H0.length ≤ t.id ∧ ∀ t' ∈ tf, isFresh t' → t'.i ≠ t.i → t'.id ≠ t.id)
    (hK : ∀ a' w' φ', Inv B E Z φ0 H0 w0 a0 T0 bs l.length tf (ins D t.i) H φ' a' w' → K a' w') : wpOpIn (Fz ro) n P ops Q t.i K a w := by
  have hmem : t ∈ tf := by rw [he]; simp
  have hat' := hat _ _ (ho.at_ t hmem)
  have hoo := hok _ _ (ho.at_ t hmem)
  obtain ⟨hag, hw2⟩ := h.agree ho he hD hb hT (E := E)
  rw [hw] at hw2
  have hww := wanted_rel (fun k b d _ _ v hv => h.t.get hv) hw2
  unfold wpOpIn
  simp only [hat', hww, if_true]
  refine ⟨fun _ _ => trivial, ?_⟩
  rw [semAt_op hoo]
  have hquiet : quietV E H t.T t.o.op = some t.v → (Oper.uponIn (Fz ro) n P t.o a K Q ((execOp a.eval t.o).run P w)) := by
    intro hq
    rw [quietV_congr hag] at hq
    obtain ⟨x, w', h1, h2, h3, h4⟩ := quiet_ok hE.ok hE.gl h.s h.t hq
    rw [h1]
    refine hK _ w' φ ?_
    exact h.step ho he hD hb h4.mv h3 (h.e.trans h4) h2 (h.s.ext h4 h3).gl (fun t' ht' hf hD' _ => h.fr t' ht' hf hD')
  rcases hva with hva | ⟨_, hva⟩
  rotate_left
  · exact hquiet hva
  unfold valueAt at hva
  rw [hwt] at hva
  simp only [Bool.not_true, Bool.false_eq_true, if_false] at hva
  cases hk : opK t.o.op with
  | act => rw [hk] at hva; cases hva
  | quiet =>
    rw [hk] at hva
    simp only at hva
    split at hva
    · rename_i v hq
      have hv := V.beq_eq _ _ hva
      subst hv
      exact hquiet hq
    · cases hva
  | fresh =>
    rw [hk] at hva
    simp only at hva
    obtain ⟨⟨b, hfv⟩, hid, hne⟩ := hfr ⟨hwt, hk⟩
    rw [hfv] at hva
    have hB : H[t.id]? = some b := by
      cases b with
      | mem ver fr wd rs => exact isMem_eq hva
      | map es =>
        cases es with
        | nil =>
          simp only at hva
          split at hva
          · assumption
          · cases hva
        | cons _ _ => simp at hva
      | dead => simp at hva
      | loop _ => simp at hva
    rw [freshV_congr hag] at hfv
    obtain ⟨x, ob, h1, h2, h3⟩ := fresh_ok hE.ok hE.gl h.s h.t hfv
    rw [h1]
    have hn := h.fr t hmem ⟨hwt, hk⟩ hD
    have m := Mv.late h.s.h hn ob
    have hh := h.s.h.late hn hB h2
    refine hK _ _ (upd φ t.id (w.heap.size, 0)) ?_
    refine h.step ho he hD hb m hh (h.e.late h.s.h hid hn ob) (h3 _ _ _ _ (lt_of_get hB) fun B' hB' => ?_) (fun r hr => ⟨(m.st r (h.s.gl r hr).1).1, by rw [push_old (h.s.gl r hr).1.1]; exact (h.s.gl r hr).2⟩) (fun t' ht' hf hD' hnei => ?_)
    · rw [hB] at hB'; cases hB'
      exact Blk.to_refl _ ⟨upd_same _ _ _, rfl⟩
    · rw [upd_other _ _ (hne t' ht' hf hnei)]; exact h.fr t' ht' hf hD'
/-- an act -/
theorem Inv.act (hE : EnvRun P B E) (hr : RecOk P B E rec) (h : Inv B E Z φ0 H0 w0 a0 T0 bs l.length tf D H φ a w) (ho : Ord ops l bs tf) (hat : ∀ (j : Nat) y, l[j]? = some y → ops[j]? = some y) (hok : ∀ (j : Nat) y, l[j]? = some y → opOk y = true) {pre post : List Tr} {t : Tr} (he : tf = pre ++ t :: post) (hD : D t.i = false) (hb : ∀ i, bef bs i t.i = true → D i = true) (hT : t.T = putAll T0 pre)
    (hw : wantV ops t.T t.o = some true) {H1 : Heap} (hact : actR E rec H t.T t.o.op = some (t.v, H1)) (F : Heap) (hfr : ∀ t' ∈ tf, isFresh t' → D t'.i = false → t'.id < H.length ∨ H1.length ≤ t'.id)
    (hK : ∀ a' w' φ', Inv B E Z φ0 H0 w0 a0 T0 bs l.length tf (ins D t.i) (H1 ++ F) φ' a' w' → K a' w') : wpOpIn (Fz ro) n P ops Q t.i K a w := by
  have hmem : t ∈ tf := by rw [he]; simp
  have hat' := hat _ _ (ho.at_ t hmem)
  have hoo := hok _ _ (ho.at_ t hmem)
  obtain ⟨hag, hw2⟩ := h.agree ho he hD hb hT (E := E)
  rw [hw] at hw2
  have hww := wanted_rel (fun k b d _ _ v hv => h.t.get hv) hw2
  rw [actR_congr hag] at hact
  unfold wpOpIn
  simp only [hat', hww, if_true]
  refine actR_ok hE hr h.s h.t hoo hact _ _ fun x w' φ' h1 h2 h3 => hK _ w' φ' ?_
  have e2 := Ext.pad F h2
  have e3 := h3.trans e2
  refine h.step ho he hD hb e3.mv (h2.pad F) (h.e.trans e3) (h1.ext e2) (h.s.ext e3 (h2.pad F)).gl (fun t' ht' hf hD' _ => ?_)
  rcases hfr t' ht' hf hD' with hlt | hge
  · exact h3.none _ hlt (h.fr t' ht' hf hD')
  · cases hc : φ' t'.id with
    | none => rfl
    | some p => obtain ⟨r, o⟩ := p; have := (h2.dom _ r o hc).1; omega
end
end Go.Vm
/- Regions that draw their order. -/
set_option linter.unusedVariables false
set_option linter.unusedSimpArgs false
set_option linter.unusedSectionVars false
namespace Go.Vm
variable [Valu]
variable {P : Program} {B : Base} {E : Env} {Z : Nat → Prop} {φ φ' : Phi} {H H' : Heap} {w w' : World}

/-! ### whatever comes up -/
def LD (listed : Array Bool) : Nat → Bool := fun i => listed.getD i false
theorem LD_set {listed : Array Bool} {j : Nat} (hj : j < listed.size) : LD (listed.setIfInBounds j true) = ins (LD listed) j := by
  funext i
  simp only [LD, ins, Array.getD_eq_getD_getElem?, Array.getElem?_setIfInBounds]
  by_cases hi : j = i
  · subst hi; simp [hj]
  · rw [if_neg hi]
    have : (i == j) = false := by simpa using fun e => hi e.symm
    rw [this, Bool.or_false]
theorem LD_not {listed : Array Bool} {j : Nat} (h : listed.getD j true = false) : j < listed.size ∧ LD listed j = false := by
  simp only [LD, Array.getD_eq_getD_getElem?] at h ⊢
  by_cases hj : j < listed.size
  · refine ⟨hj, ?_⟩
    rw [Array.getElem?_eq_getElem hj] at h ⊢
    exact h
  · rw [Array.getElem?_eq_none (by omega)] at h; simp at h
def unl (listed : Array Bool) : Nat := listed.toList.countP (!·)
theorem unl_set {listed : Array Bool} {j : Nat} (h : listed.getD j true = false) : unl (listed.setIfInBounds j true) + 1 = unl listed := by
  obtain ⟨hj, h1⟩ := LD_not h
  have h2 : listed.toList[j]'(by simpa using hj) = false := by
    simp only [LD, Array.getD_eq_getD_getElem?, Array.getElem?_eq_getElem hj, Option.getD_some] at h1
    simpa using h1
  unfold unl
  rw [Array.toList_setIfInBounds, List.countP_set (by simpa using hj), h2]
  have : 0 < listed.toList.countP (!·) := by
    rw [List.countP_pos_iff]
    exact ⟨false, by rw [← h2]; exact List.getElem_mem _, rfl⟩
  simp only [Bool.not_false, if_true, Bool.not_true, Bool.false_eq_true, if_false]; omega
theorem wpAny_inv {F : Fence} {n : Nat} {ops : Array Oper} {I : Array Bool → Act → World → Prop} {Q : Exit → Act → World → Prop}
    (hsz : ∀ listed a w, I listed a w → listed.size = ops.size)
    (hedge : ∀ (j : Nat) o, ops[j]? = some o → ∀ e ∈ o.after, Region.binds .any e = true → e.on < j)
    (hstep : ∀ listed a w, I listed a w → ∀ j, j < ops.size → LD listed j = false → (∀ o, ops[j]? = some o → ∀ e ∈ o.after, Region.binds .any e = true → LD listed e.on = true) →
      ∀ K : Act → World → Prop, (∀ a' w', I (listed.setIfInBounds j true) a' w' → K a' w') → wpOpIn F n P ops Q j K a w)
    (hdone : ∀ listed a w, I listed a w → (∀ j, j < ops.size → LD listed j = true) → Q .normal a w) :
    ∀ (fuel : Nat) listed a w, I listed a w → unl listed ≤ fuel → wpAnyIn F n P .any ops Q fuel listed a w := by
  have hall : ∀ listed a w, I listed a w → Region.ready .any ops listed = [] → ∀ j, j < ops.size → LD listed j = true := by
    intro listed a w hI hr j
    induction j using Nat.strongRecOn with
    | _ j ih =>
      intro hj
      cases hc : LD listed j with
      | true => rfl
      | false =>
        have hmem : j ∈ Region.ready .any ops listed := by
          rw [mem_ready]
          refine ⟨?_, ops[j], by simp [hj], fun e he hb => ?_⟩
          · have hjs : j < listed.size := by rw [hsz listed a w hI]; exact hj
            simp only [LD, Array.getD_eq_getD_getElem?, Array.getElem?_eq_getElem hjs, Option.getD_some] at hc ⊢
            exact hc
          · have := hedge j ops[j] (by simp [hj]) e he hb
            exact ih e.on this (by omega)
        rw [hr] at hmem; cases hmem
  intro fuel
  induction fuel with
  | zero =>
    intro listed a w hI hu
    have hz : ∀ j, j < ops.size → LD listed j = true := by
      intro j hj
      have hjs : j < listed.toList.length := by simpa [hsz listed a w hI] using hj
      have h0 : listed.toList.countP (!·) = 0 := Nat.le_zero.1 hu
      rw [List.countP_eq_zero] at h0
      have := h0 (listed.toList[j]) (List.getElem_mem _)
      simp only [LD, Array.getD_eq_getD_getElem?]
      rw [Array.getElem?_eq_getElem (by simpa using hjs)]
      simpa using this
    refine ⟨?_, hdone listed a w hI hz⟩
    cases hr : Region.ready .any ops listed with
    | nil => rfl
    | cons j js =>
      have hm : j ∈ Region.ready .any ops listed := by rw [hr]; simp
      rw [mem_ready] at hm
      obtain ⟨h1, o, h2, _⟩ := hm
      have := hz j (Array.getElem?_eq_some_iff.1 h2).1
      rw [(LD_not h1).2] at this; cases this
  | succ fuel ih =>
    intro listed a w hI hu
    refine ⟨fun hr => hdone listed a w hI (hall listed a w hI hr), fun j hj => ?_⟩
    rw [mem_ready] at hj
    obtain ⟨h1, o, h2, h3⟩ := hj
    refine hstep listed a w hI j (Array.getElem?_eq_some_iff.1 h2).1 (LD_not h1).2 (fun o' ho' => ?_) _ fun a' w' hI' => ih _ a' w' hI' ?_
    · rw [h2] at ho'; cases ho'; exact h3
    · have := unl_set h1; omega

section
variable {ops : Array Oper} {l : List Oper} {bs : List Nat} {tf : List Tr} {φ0 : Phi} {H0 : Heap} {w0 : World} {a a0 : Act} {T0 T' : List V} {D : Nat → Bool} {Q : Exit → Act → World → Prop} {K : Act → World → Prop} {ro : Option Nat} {n : Nat} {rec : Task → Option Out} {G : List Heap} {q : List (Nat × Oper)}

/-- where it stands among the acts -/
def Stage (tf : List Tr) (G : List Heap) (H' : Heap) (D : Nat → Bool) (σ : Nat) (H : Heap) : Prop :=
  (G ++ [H'])[σ]? = some H ∧ ∀ t ∈ tf, isActT t → (D t.i = true ↔ t.st < σ)
theorem want_k {t : Tr} (hw : t.want = true) : isFresh t ∨ isActT t ∨ isQuietT t := by
  unfold isFresh isActT isQuietT
  cases h : opK t.o.op <;> simp [hw]
theorem chain_step (hE : EnvRun P B E) (hr : RecOk P B E rec) (hreg : Reg ops l bs q) (hck : Tck E rec ops 0 q T0 H0 tf G T' H') (hst : ∀ t ∈ tf, stands E bs (actsOf tf) (G ++ [H']) t = true) {σ : Nat}
    (h : Inv B E Z φ0 H0 w0 a0 T0 bs l.length tf D H φ a w) (hs : Stage tf G H' D σ H) {t : Tr} (ht : t ∈ tf) (hD : D t.i = false) (hb : ∀ i, bef bs i t.i = true → D i = true)
    (hK : ∀ a' w' φ' H1 σ', Inv B E Z φ0 H0 w0 a0 T0 bs l.length tf (ins D t.i) H1 φ' a' w' → Stage tf G H' (ins D t.i) σ' H1 → K a' w') : wpOpIn (Fz ro) n P ops Q t.i K a w := by
  have ho := ord_of hreg hck.qs
  obtain ⟨pre, post, he⟩ := List.append_of_mem ht
  have hT : t.T = putAll T0 pre := hck.temps.2 pre t post he
  obtain ⟨hG, hact⟩ := hs
  obtain ⟨hA1, hA2, hA3, hA4⟩ := hck.actsOk
  have hσ : σ ≤ (actsOf tf).length := by have := lt_of_get hG; simp at this; omega
  obtain ⟨hw, hwn, hwf⟩ := hck.wants t ht
  have hne : ∀ t' ∈ tf, t'.i = t.i → t' = t := by
    intro t' ht' hi
    rw [he] at ht'
    rcases List.mem_append.1 ht' with h1 | h1
    · obtain ⟨p1, p2, hp⟩ := List.append_of_mem h1
      exact absurd hi.symm (ho.split p1 t' (p2 ++ t :: post) (by rw [he, hp]; simp) t (by simp)).1
    · rcases List.mem_cons.1 h1 with h1 | h1
      · exact h1
      · exact absurd hi (ho.split pre t post he t' h1).1
  have stay : ∀ {H1 φ' a' w'}, ¬ isActT t → H1 = H → Inv B E Z φ0 H0 w0 a0 T0 bs l.length tf (ins D t.i) H1 φ' a' w' → K a' w' := by
    intro H1 φ' a' w' hna e hI
    subst e
    refine hK a' w' φ' H1 σ hI ⟨hG, fun t' ht' ha' => ?_⟩
    have hti : t'.i ≠ t.i := fun e => hna (hne t' ht' e ▸ ha')
    rw [← hact t' ht' ha']
    simp [ins, hti]
  cases hwant : t.want with
  | false =>
    rw [hwant] at hw
    exact h.unwanted ho hreg.at_ he hD hb hT hw (hwn hwant) fun a' hI => stay (fun ha => Bool.noConfusion (hwant.symm.trans ha.1)) rfl hI
  | true =>
    rw [hwant] at hw
    have hs0 := hst t ht
    unfold stands at hs0
    rw [hwant] at hs0
    simp only [Bool.not_true, Bool.false_eq_true, if_false, Bool.and_eq_true, List.all_eq_true] at hs0
    obtain ⟨hlo, hrest⟩ := hs0
    have hst0 : t.st ≤ (actsOf tf).length := by have := hA2 t ht; omega
    have hle : t.st ≤ σ := by
      rcases Nat.lt_or_ge σ t.st with hlt | hge
      · obtain ⟨e, he'⟩ : ∃ e, (actsOf tf)[σ]? = some e := ⟨(actsOf tf)[σ]'(by omega), by simp⟩
        have hmem : e ∈ (actsOf tf).take t.st := by
          rw [List.mem_iff_getElem?]
          exact ⟨σ, by rw [List.getElem?_take, if_pos hlt]; exact he'⟩
        have hDe := hb e (hlo e hmem)
        obtain ⟨t', h1, h2, h3, h4⟩ := hA4 σ e he'
        rw [← h3, hact t' h1 h2] at hDe
        omega
      · exact hge
    have hcov : ∀ (k : Nat) e, t.st ≤ k → k < σ → (actsOf tf)[k]? = some e → ((bs[e]?).getD 0).testBit t.i = false := by
      intro k e h1 h2 h3
      obtain ⟨t', q1, q2, q3, q4⟩ := hA4 k e h3
      have hDe : D t'.i = true := (hact t' q1 q2).2 (by omega)
      cases hc : ((bs[e]?).getD 0).testBit t.i with
      | false => rfl
      | true =>
        have := h.cl t'.i (lt_of_get (ho.at_ t' q1)) hDe t.i (by rw [q3]; exact hc)
        rw [this] at hD; cases hD
    have hfrid : isFresh t → (∃ b, freshV E t.T t.id t.o.op = some (t.v, b)) ∧ H0.length ≤ t.id ∧ ∀ t' ∈ tf, isFresh t' → t'.i ≠ t.i → t'.id ≠ t.id := by
      intro hf
      refine ⟨hwf hf, hck.fresh_ge t ht hf, fun t' ht' hf' hti => ?_⟩
      rw [he] at ht'
      rcases List.mem_append.1 ht' with h1 | h1
      · obtain ⟨p1, p2, hp⟩ := List.append_of_mem h1
        have := hck.fresh_ne (pre := p1) (post := p2 ++ t :: post) (t := t') (by rw [he, hp]; simp) hf' t (by simp) hf
        omega
      · rcases List.mem_cons.1 h1 with h1 | h1
        · exact absurd (by rw [h1]) hti
        · have := hck.fresh_ne he hf t' h1 hf'; omega
    rcases want_k hwant with hf | ha | hq
    · -- fresh
      rw [hf.2] at hrest
      simp only at hrest
      have hva : valueAt E H t = true := by
        refine standsFrom_ok (j := σ - t.st) hrest (fun k e hk hke => ?_) (by rw [List.length_drop]; omega) H (by rw [List.getElem?_drop, show t.st + (σ - t.st) = σ by omega]; exact hG)
        rw [List.getElem?_drop] at hke
        exact hcov (t.st + k) e (by omega) (by omega) hke
      exact h.nonact hE ho hreg.at_ hreg.op he hD hb hT hw hwant (.inl hva) hfrid fun a' w' φ' hI => stay (fun ha => by have := hf.2; rw [ha.2] at this; cases this) rfl hI
    · -- act
      obtain ⟨k, Ĥ, H1, F, q1, q2, q3, q4, q5, q6⟩ := hck.acts t ht ha
      have hge : σ ≤ t.st := by
        rcases Nat.lt_or_ge t.st σ with hlt | hge
        · rw [(hact t ht ha).2 hlt] at hD; cases hD
        · exact hge
      have hk : k = σ := by omega
      subst hk
      rw [hG] at q2; cases q2
      refine h.act hE hr ho hreg.at_ hreg.op he hD hb hT hw q3 F (fun t' ht' hf' _ => ?_) fun a' w' φ' hI => hK a' w' φ' _ (k + 1) hI ⟨q5, fun t' ht' ha' => ?_⟩
      · rcases Nat.lt_or_ge t.st t'.st with hlt | hge'
        · exact .inr (q6 t' ht' hf' hlt)
        · exact .inl (hck.fresh_lt t' ht' hf' k H hG (by omega))
      · by_cases hti : t'.i = t.i
        · have := hne t' ht' hti
          subst this
          simp [ins_self]; omega
        · have h1 := hact t' ht' ha'
          have h2 : t'.st ≠ k := by
            intro hk2
            have e1 := (hA3 t' ht' ha').2
            have e2 := (hA3 t ht ha).2
            rw [show t'.st - 0 = t.st - 0 by omega, e2] at e1
            exact hti (Option.some.inj e1).symm
          have h3 : ins D t.i t'.i = D t'.i := by simp [ins, hti]
          rw [h3, h1]; omega
    · -- quiet
      rw [hq.2] at hrest
      simp only at hrest
      have hva : valueAt E H t = true ∨ (opK t.o.op = .quiet ∧ quietV E H t.T t.o.op = some t.v) := by
        rcases Nat.lt_or_ge t.st σ with hlt | hge
        · left
          have hdrop : (actsOf tf).drop t.st = (actsOf tf)[t.st]'(by omega) :: (actsOf tf).drop (t.st + 1) := List.drop_eq_getElem_cons (by omega)
          rw [hdrop] at hrest
          simp only [Bool.or_eq_true] at hrest
          rcases hrest with hrest | hrest
          · rw [hcov t.st _ (Nat.le_refl _) hlt (by simp)] at hrest; cases hrest
          · refine standsFrom_ok (j := σ - t.st - 1) hrest (fun k e hk hke => ?_) (by rw [List.length_drop]; omega) H (by rw [List.getElem?_drop, show t.st + 1 + (σ - t.st - 1) = σ by omega]; exact hG)
            rw [List.getElem?_drop] at hke
            exact hcov (t.st + 1 + k) e (by omega) (by omega) hke
        · right
          obtain ⟨k, Hq, F, q1, q2, q3⟩ := hck.quiets t ht hq
          have hk : k = σ := by omega
          subst hk
          rw [hG] at q2; cases q2
          exact ⟨hq.2, quietV_more q3⟩
      exact h.nonact hE ho hreg.at_ hreg.op he hD hb hT hw hwant hva hfrid fun a' w' φ' hI => stay (fun ha => by have := hq.2; rw [ha.2] at this; cases this) rfl hI
/-- at the start -/
theorem Inv.start (hs : SRel B E Z φ H0 w) (hT : TRel Z φ H0 w T0 a.tmps) (hck : Tck E rec ops 0 q T0 H0 tf G T' H') (hD : ∀ i, D i = false) : ∃ H, Inv B E Z φ H0 w a T0 bs l.length tf D H φ a w ∧ Stage tf G H' D 0 H := by
  obtain ⟨F, S, hF⟩ := hck.first
  refine ⟨H0 ++ F, ⟨hs.ext (Ext.pad F hs.h) (hs.h.pad F), Ext.pad F hs.h, ?_, rfl, fun t ht hf _ => ?_, fun j _ hj => by rw [hD] at hj; cases hj⟩, by rw [hF]; rfl, fun t ht ha => by simp [hD]⟩
  · have : TD D T0 tf = T0 := by
      apply List.ext_getElem?
      intro d
      exact TD_stay (fun t _ ht => by rw [hD] at ht; cases ht) T0
    rw [this]; exact hT.ext (Ext.pad F hs.h)
  · have := hck.fresh_ge t ht hf
    cases hc : φ t.id with
    | none => rfl
    | some p => obtain ⟨r, o⟩ := p; have := (hs.h.dom _ r o hc).1; omega
/-- at the end -/
theorem stage_last (hck : Tck E rec ops 0 q T0 H0 tf G T' H') {σ : Nat} (hs : Stage tf G H' D σ H) (hall : ∀ t ∈ tf, isActT t → D t.i = true) : H = H' := by
  obtain ⟨hG, hact⟩ := hs
  obtain ⟨hA1, hA2, hA3, hA4⟩ := hck.actsOk
  have hσ : σ ≤ (actsOf tf).length := by have := lt_of_get hG; simp at this; omega
  have : σ = (actsOf tf).length := by
    rcases Nat.lt_or_ge σ (actsOf tf).length with hlt | hge
    · obtain ⟨t', q1, q2, q3, q4⟩ := hA4 σ _ (List.getElem?_eq_getElem hlt)
      have := (hact t' q1 q2).1 (hall t' q1 q2)
      omega
    · omega
  subst this
  rw [← hA1, List.getElem?_append_right (Nat.le_refl _)] at hG
  simp at hG; exact hG.symm
theorem befs_in (hreg : Reg ops l bs q) (hcl : ∀ j, j < l.length → D j = true → ∀ i, bef bs i j = true → D i = true) {j : Nat} (hj : j < l.length) (hrd : ∀ o, ops[j]? = some o → ∀ e ∈ o.after, Region.binds .any e = true → D e.on = true) : ∀ i, bef bs i j = true → D i = true := by
  intro i hi
  have hy : l[j]? = some l[j] := by simp [hj]
  unfold bef at hi
  rw [hreg.clos j _ hy] at hi
  obtain ⟨e, h1, h2, h3⟩ := closure_bit hi
  have hD := hrd _ (hreg.at_ j _ hy) e h1 h2
  rcases h3 with rfl | h3
  · exact hD
  · exact hcl e.on (by have := hreg.edge j _ hy e h1 h2; omega) hD i h3

theorem drawT_spec {tr : List Tr} (h : drawT E rec ops l T0 H0 = some (T', H', tr)) : ∃ tf G, tr = tf.reverse ∧ Tck E rec ops 0 (orderR (befs l) l) T0 H0 tf G T' H' ∧ ∀ t ∈ tf, stands E (befs l) (actsOf tf) (G ++ [H']) t = true := by
  unfold drawT at h
  simp only at h
  split at h
  · rename_i T1 H1 tr1 G1 htr
    split at h
    · rename_i hall
      cases h
      obtain ⟨tf, Gf, h1, h2, h3⟩ := traceR_tck htr
      simp only [List.append_nil, List.length_nil] at h1 h2 h3
      refine ⟨tf, Gf, h1, h3, fun t ht => ?_⟩
      rw [List.all_eq_true] at hall
      have := hall t (by rw [h1]; simpa using ht)
      rw [h1, h2, List.reverse_cons, List.reverse_reverse, List.reverse_reverse] at this
      exact this
    · cases h
  · cases h

theorem chain_region (hE : EnvRun P B E) (hr : RecOk P B E rec) (hok : chainOk ops ops.toList = true) {id : Nat} (hs : SRel B E Z φ H0 w) (hT : TRel Z φ H0 w T0 a.tmps)
    (hl : drawR E rec ops ops.toList T0 H0 = some (T', H')) (hQ : ∀ a' w' φ', HRel Z φ' H' w' → Ext Z φ H0 w φ' H' w' → TRel Z φ' H' w' T' a'.tmps → a'.defers = a.defers → Q .normal a' w') : (Code.region id ops true).wpIn (Fz ro) n P Q a w := by
  have hreg := reg_of_chain (ops := ops) (l := ops.toList) (fun j y h => by simpa using h) hok
  unfold drawR at hl
  split at hl
  · rename_i T1 H1 tr hdt
    cases hl
    obtain ⟨tf, G, _, hck, hst⟩ := drawT_spec hdt
    have ho := ord_of hreg hck.qs
    obtain ⟨hd1, hd2⟩ := drew_ext hs.h
    refine wpIn_region_any hE.mixed ?_
    refine wpAny_inv (I := fun listed a1 w1 => listed.size = ops.size ∧ ∃ H φ1 σ, Inv B E Z φ H0 w.drew a T0 (befs ops.toList) ops.toList.length tf (LD listed) H φ1 a1 w1 ∧ Stage tf G H' (LD listed) σ H)
      (fun listed a w h => h.1) (fun j o hj e he hb => hreg.edge j o (by simpa using hj) e he hb) ?_ ?_ ops.size _ _ _ ?_ ?_
    · rintro listed a1 w1 ⟨hsz, H, φ1, σ, hI, hSt⟩ j hj hDj hrd K hK
      obtain ⟨t, ht, rfl⟩ := ho.cov j (by simpa using hj)
      refine chain_step hE hr hreg hck hst hI hSt ht hDj (befs_in hreg hI.cl (by simpa using hj) hrd) fun a' w' φ' H2 σ' hI' hSt' => hK a' w' ⟨by simpa using hsz, H2, φ', σ', ?_, ?_⟩
      · rw [LD_set (by rw [hsz]; exact hj)]; exact hI'
      · rw [LD_set (by rw [hsz]; exact hj)]; exact hSt'
    · rintro listed a1 w1 ⟨hsz, H, φ1, σ, hI, hSt⟩ hall
      have hallD : ∀ t ∈ tf, LD listed t.i = true := fun t ht => hall t.i (by have := lt_of_get (ho.at_ t ht); simpa using this)
      have := stage_last hck hSt (fun t ht _ => hallD t ht)
      subst this
      refine hQ a1 w1 φ1 hI.s.h (hd2.trans hI.e) ?_ hI.d
      have := hI.t
      rw [TD_true hallD, ← hck.temps.1] at this
      exact this
    · refine ⟨by simp, ?_⟩
      obtain ⟨H, h1, h2⟩ := Inv.start (a := a) (l := ops.toList) (bs := befs ops.toList) (D := LD (Array.replicate ops.size false)) (hs.ext hd2 hd1) (hT.ext hd2) hck (fun i => by
        simp only [LD, Array.getD_eq_getD_getElem?, Array.getElem?_replicate]; split <;> rfl)
      exact ⟨H, φ, 0, h1, h2⟩
    · unfold unl
      refine Nat.le_trans List.countP_le_length (by simp)
  · cases hl
end
end Go.Vm
