/- The operations that leave memory as it is: all of them. -/
import Derived.Test.YtjkhdpdnimfmdaaGreatDoorVa
import Derived.Laws.MakeOwn
import Derived.Deep.AppendSrc
import Derived.MapKept
set_option linter.unusedVariables false
set_option linter.unusedSimpArgs false
set_option linter.unusedSectionVars false
namespace Go.Vm
variable [Valu]
variable {P : Program} {E : Env} {Z : Nat → Prop} {φ φ' : Phi} {H H' : Heap} {w w' : World}

theorem lenV_rel {x : V} {n : Nat} (h : lenV x = some n) {a : Value} (hx : VRel Z φ H w x a) (hs : ∀ s, x ≠ .fz (.s (.str s))) : ∃ ao cap, a = .slice ao n cap ∧ n ≤ cap := by
  unfold lenV at h
  split at h
  · cases h
    cases hx with
    | own _ _ _ _ _ _ hv => obtain ⟨_, _, rfl, h, _⟩ := hv; exact ⟨_, _, rfl, h⟩
  · cases h
    have hf := hx.fz_inv
    generalize hg : (F.row _ _) = y at hf
    cases hf <;> cases hg
    exact ⟨_, _, rfl, by assumption⟩
  · cases h
    cases hx; exact ⟨_, _, rfl, Nat.le_refl _⟩
  · cases h
    have := hx.s_inv; subst this; exact ⟨_, _, rfl, Nat.le_refl _⟩
  · exact absurd rfl (hs _)
  · cases h
/-- a map that is looked at -/
theorem mapOf_rel (h : HRel Z φ H w) {x : V} {es : List (F × V)} (hm : mapOf H x = some es) {a : Value} (hx : VRel Z φ H w x a) :
    (a = .map none ∧ es = []) ∨ ∃ r en clock, a = .map (some r) ∧ w.heap[r]? = some (.map en clock) ∧ en.size = es.length ∧
      (∀ (i : Nat) k y e, es[i]? = some (k, y) → en[i]? = some e → FRel w (stable Z φ H w) k e.key ∧ VRel Z φ H w y e.val) := by
  unfold mapOf at hm
  split at hm
  · cases hm
    have := hx.s_inv; subst this; exact .inl ⟨rfl, rfl⟩
  · rename_i m
    split at hm
    · rename_i es' hH
      cases hm
      cases hx with
      | map _ _ hv hb hh =>
        obtain ⟨r, hφ, rfl⟩ := hh _ hH
        obtain ⟨ob, h1, en, clock, rfl, _, h3, h4⟩ := h.blk m _ r 0 hH hφ
        exact .inr ⟨r, en, clock, rfl, h1, h3, h4⟩
    · cases hm
  · cases hm
theorem q_len (hE : EnvOk P E) (h : HRel Z φ H w) {t ty : TypeId} {x v : V} {a : Value} (hx : VRel Z φ H w x a) (hl : lenOfV H (kindOfT E t) x = some v) : QOk P Z φ H w (Builtin.len_ #[t] ty #[a]) v := by
  unfold lenOfV at hl
  split at hl
  · rename_i s h1
    cases hl
    obtain ⟨i, hi, hd⟩ := kind_ty h1
    have ha := hx.s_inv; subst ha
    refine .same h (x := .int .i64 s.size) ?_ (.i64 _)
    simp [Builtin.len_, tyK hE hi, Result.andThen, hd, S.val, goInt]
  · cases hl
  · rename_i e hns h1
    obtain ⟨i, hi, hd⟩ := kind_ty h1
    simp only [Option.map_eq_some_iff] at hl
    obtain ⟨n, hn, rfl⟩ := hl
    obtain ⟨ao, cap, rfl, _⟩ := lenV_rel hn hx (fun s hs => hns s hs)
    refine .same h (x := .int .i64 n) ?_ (.i64 _)
    simp [Builtin.len_, tyK hE hi, Result.andThen, hd, goInt]
  · rename_i k e hns h1
    obtain ⟨i, hi, hd⟩ := kind_ty h1
    simp only [Option.map_eq_some_iff] at hl
    obtain ⟨es, hes, rfl⟩ := hl
    rcases mapOf_rel h hes hx with ⟨rfl, rfl⟩ | ⟨r, en, clock, rfl, h2, h3, _⟩
    · refine .same h (x := .int .i64 0) ?_ (.i64 _)
      simp [Builtin.len_, tyK hE hi, Result.andThen, hd, goInt]
    · refine .same h (x := .int .i64 es.length) ?_ (.i64 _)
      simp [Builtin.len_, tyK hE hi, Result.andThen, hd, goInt, getObj, Sem.run, h2, h3]
  · cases hl
theorem q_cap (hE : EnvOk P E) (h : HRel Z φ H w) {t ty : TypeId} {x v : V} {a : Value} (hx : VRel Z φ H w x a) (hl : capOfV (kindOfT E t) x = some v) : QOk P Z φ H w (Builtin.cap_ #[t] ty #[a]) v := by
  unfold capOfV at hl
  split at hl
  · rename_i e h1
    cases hl
    obtain ⟨i, hi, hd⟩ := kind_ty h1
    have ha := hx.s_inv; subst ha
    refine .same h (x := .int .i64 0) ?_ (.i64 _)
    simp [Builtin.cap_, tyK hE hi, Result.andThen, hd, S.val, goInt]
  · rename_i b ver lo len e h1
    cases hl
    obtain ⟨i, hi, hd⟩ := kind_ty h1
    cases hx with
    | own _ _ _ _ _ _ hv hb hh =>
      obtain ⟨ad, m, rfl, _, hm⟩ := hv
      refine .same h (x := .int .i64 len) ?_ (.i64 _)
      simp [Builtin.cap_, tyK hE hi, Result.andThen, hd, goInt, hm rfl]
  · rename_i wd rs e h1
    cases hl
    obtain ⟨i, hi, hd⟩ := kind_ty h1
    cases hx with
    | cl _ _ ad hf =>
      refine .same h (x := .int .i64 rs.length) ?_ (.i64 _)
      simp [Builtin.cap_, tyK hE hi, Result.andThen, hd, goInt]
  · cases hl

theorem minmax_run {mx : Bool} {v0 v : V} {l : List V} (hm : minmax mx v0 l = some v) {a : Value} {vs : List Value} (h0 : VRel Z φ H w v0 a) (hl : LRel Z φ H w l vs) (hi : ∃ k n, v0 = .fz (.s (.int k n))) :
    ∃ x, (vs.foldlM (if mx then Builtin.max2 else Builtin.min2) a).run P w = .ok x w ∧ VRel Z φ H w v x := by
  induction l generalizing v0 a vs with
  | nil =>
    have := hl.1; simp at this
    cases vs with
    | nil => simp only [minmax, Option.some.injEq] at hm; subst hm; exact ⟨a, rfl, h0⟩
    | cons _ _ => simp at this
  | cons y l ih =>
    obtain ⟨k, n, rfl⟩ := hi
    obtain ⟨b, vs', rfl, h1, h2⟩ := hl.cons_inv
    unfold minmax at hm
    split at hm
    · cases ‹_ :: _ = []›
    · rename_i k1 x1 k2 y2 r heq1 heq2
      cases heq1; cases heq2
      split at hm
      · rename_i hk; subst hk
        have ha := h0.s_inv; subst ha
        have hb := h1.s_inv; subst hb
        obtain ⟨x, hx, hr⟩ := ih hm (a := .int k (if mx then (if y2 > n then y2 else n) else (if y2 < n then y2 else n))) (.s _) h2 ⟨_, _, rfl⟩
        refine ⟨x, ?_, hr⟩
        rw [List.foldlM_cons, Sem.run_bind]
        cases mx
        · simpa [Builtin.min2, S.val, Result.andThen] using hx
        · simpa [Builtin.max2, S.val, Result.andThen] using hx
      · cases hm
    · cases hm
theorem fill_rel {place : Nat → Option (Nat × Nat)} {cells cs : List V} {ps : List (Nat × V)} (hf : fillV place cells ps = some cs) {vs : Array Value} {qs : List (Nat × Value)} (hc : LRel Z φ H w cells vs.toList)
    (hq : ps.length = qs.length ∧ ∀ (i : Nat) p q, ps[i]? = some p → qs[i]? = some q → p.1 = q.1 ∧ VRel Z φ H w p.2 q.2) :
    ∃ ws, Instr.fill place vs qs = some ws ∧ LRel Z φ H w cs ws.toList := by
  induction ps generalizing cells vs qs with
  | nil =>
    cases qs with
    | nil => simp only [fillV, Option.some.injEq] at hf; subst hf; exact ⟨vs, rfl, hc⟩
    | cons _ _ => simp at hq
  | cons p ps ih =>
    cases qs with
    | nil => simp at hq
    | cons q qs =>
      obtain ⟨hpq, hv⟩ := hq.2 0 p q rfl rfl
      obtain ⟨i, v⟩ := p
      obtain ⟨i', x⟩ := q
      simp only at hpq hv; subst hpq
      simp only [fillV] at hf
      split at hf
      · rename_i off size ce h1 h2
        split at hf
        · rename_i hcond
          obtain ⟨rfl, hle⟩ := hcond
          obtain ⟨hr, _⟩ := cells_rel h2 hv
          have hsz : x.cells.size = ce.length := by have := hr.1; simpa using this.symm
          have hvs : vs.size = cells.length := by have := hc.1; simpa using this.symm
          have hset : ∀ (cl : List Value) (vs : Array Value) (j0 : Nat), off + j0 + cl.length ≤ vs.size → ((cl.zipIdx j0).foldl (fun cs p => cs.setIfInBounds (off + p.2) p.1) vs).toList = vs.toList.take (off + j0) ++ cl ++ vs.toList.drop (off + j0 + cl.length) := by
            intro cl
            induction cl with
            | nil => intro vs j0 _; simp
            | cons c cl ih2 =>
              intro vs j0 hb
              rw [List.zipIdx_cons, List.foldl_cons, ih2 _ _ (by simp at hb ⊢; omega)]
              have e := list_seg_step vs.toList (off + j0) c cl (by simp at hb ⊢; omega)
              simpa [Array.toList_setIfInBounds, Nat.add_assoc] using e
          have hx : (x.cells.zipIdx.foldl (fun cs (c, j) => cs.setIfInBounds (off + j) c) vs).toList = vs.toList.take off ++ x.cells.toList ++ vs.toList.drop (off + ce.length) := by
            have h5 := hset x.cells.toList vs 0 (by simp [hsz]; omega)
            rw [← Array.foldl_toList, Array.toList_zipIdx]
            simpa [hsz] using h5
          obtain ⟨ws, h3, h4⟩ := ih (cells := cells.take off ++ ce ++ cells.drop (off + ce.length)) (vs := x.cells.zipIdx.foldl (fun cs (c, j) => cs.setIfInBounds (off + j) c) vs) hf (by rw [hx]; exact ((hc.take off).append hr).append (hc.drop _))
            ⟨by have := hq.1; simpa using this, fun k p q h1 h2 => hq.2 (k + 1) p q (by simpa using h1) (by simpa using h2)⟩
          refine ⟨ws, ?_, h4⟩
          simp only [Instr.fill, h1]
          rw [if_neg (by rw [hsz]; simp; omega)]
          exact h3
        · cases hf
      · cases hf
theorem evParts_rel {B : Base} (hg : GlobOk B E) (hs : SRel B E Z φ H w) {T : List V} {a : Act} (hT : TRel Z φ H w T a.tmps) {xs : List (Nat × Operand)} {l : List (Nat × V)} (h : evParts E T xs = some l) :
    l.length = (xs.map fun (i, x) => (i, a.eval x)).length ∧ ∀ (i : Nat) p q, l[i]? = some p → (xs.map fun (i, x) => (i, a.eval x))[i]? = some q → p.1 = q.1 ∧ VRel Z φ H w p.2 q.2 := by
  induction xs generalizing l with
  | nil => simp [evParts] at h; subst h; exact ⟨rfl, fun i p q h => by simp at h⟩
  | cons x xs ih =>
    obtain ⟨i, x⟩ := x
    simp only [evParts] at h
    split at h
    · rename_i v l' h1 h2
      cases h
      obtain ⟨h3, h4⟩ := ih h2
      refine ⟨by simpa using h3, fun k p q hp hq => ?_⟩
      cases k with
      | zero => simp at hp hq; subst hp hq; exact ⟨rfl, ev_rel hg hs hT h1⟩
      | succ k => exact h4 k p q (by simpa using hp) (by simpa using hq)
    · cases h
theorem q_buildS (hE : EnvOk P E) (h : HRel Z φ H w) {t : TypeId} {i : TyI} (ht : E.ty t = some i) {fs : Array Field} (hd : i.desc = .struct fs) {ps : List (Nat × V)} {qs : Array (Nat × Value)} {v : V}
    (hq : ps.length = qs.toList.length ∧ ∀ (i : Nat) p q, ps[i]? = some p → qs.toList[i]? = some q → p.1 = q.1 ∧ VRel Z φ H w p.2 q.2) (hl : qBuildS E i fs ps = some v) : QOk P Z φ H w (Instr.build t qs) v := by
  unfold qBuildS at hl
  split at hl
  · rename_i cs hf
    split at hl
    · rename_i hall
      cases hl
      obtain ⟨z, hz, hzc, _⟩ := run_zeroValue' (P := P) (w := w) hE ht
      have hc : LRel Z φ H w (zeroV i.zero) z.cells.toList := by rw [hzc]; exact LRel.zeroV _
      have hplaces : ∃ pl : Array (Nat × Nat), (fs.mapM fun f => do pure (f.offset, ← sizeOf f.type) : Sem (Array (Nat × Nat))).run P w = .ok pl w ∧ ∀ k : Nat, pl[k]? = (match (fs[k]? : Option Field) with | some fd => (sizeT E fd.type).map fun s => (fd.offset, s) | none => none) := by
        have hgo : ∀ (l : List Field), (∀ f ∈ l, (sizeT E f.type).isSome = true) → ∃ pl : List (Nat × Nat), (l.mapM fun f => do pure (f.offset, ← sizeOf f.type) : Sem (List (Nat × Nat))).run P w = .ok pl w ∧ ∀ k : Nat, pl[k]? = (match (l[k]? : Option Field) with | some fd => (sizeT E fd.type).map fun s => (fd.offset, s) | none => none) := by
          intro l
          induction l with
          | nil => intro _; exact ⟨[], rfl, fun k => by simp⟩
          | cons f l ih =>
            intro hl
            obtain ⟨pl, h1, h2⟩ := ih fun f hf => hl f (by simp [hf])
            have hsz := hl f (by simp)
            simp only [sizeT, Option.isSome_map] at hsz
            obtain ⟨fi, hfi⟩ := Option.isSome_iff_exists.1 hsz
            refine ⟨(f.offset, fi.size) :: pl, ?_, fun k => ?_⟩
            · simp only [List.mapM_cons, Sem.run_bind, run_sizeOf' hE hfi, Result.andThen, Sem.run_pure, h1]
            · cases k with
              | zero => simp [sizeT, hfi]
              | succ k => simpa using h2 k
        obtain ⟨pl, h1, h2⟩ := hgo fs.toList (fun f hf => by
          rw [Array.all_eq_true'] at hall
          exact hall f (by simpa using hf))
        refine ⟨pl.toArray, ?_, fun k => by simpa using h2 k⟩
        rw [Array.mapM_eq_mapM_toList, Sem.run_map, h1]; rfl
      obtain ⟨pl, hpl, hpk⟩ := hplaces
      have hf2 : fillV (fun k => pl[k]?) (zeroV i.zero) ps = some cs := by
        rw [← hf]; congr 1; funext k; exact hpk k
      clear hf
      have hf := hf2
      obtain ⟨ws, h3, h4⟩ := fill_rel hf hc hq
      refine .same h (x := .agg ws) ?_ (by simpa using mkAgg_rel h4)
      simp only [Instr.build, Sem.run_bind, hz, Result.andThen, tyK hE ht, hd, hpl, h3, Sem.run_pure]
    · cases hl
  · cases hl
theorem q_buildA (hE : EnvOk P E) (h : HRel Z φ H w) {t : TypeId} {i : TyI} (ht : E.ty t = some i) {n : Nat} {e : TypeId} (hd : i.desc = .array n e) {ps : List (Nat × V)} {qs : Array (Nat × Value)} {v : V}
    (hq : ps.length = qs.toList.length ∧ ∀ (i : Nat) p q, ps[i]? = some p → qs.toList[i]? = some q → p.1 = q.1 ∧ VRel Z φ H w p.2 q.2) (hl : qBuildA E i e ps = some v) : QOk P Z φ H w (Instr.build t qs) v := by
  unfold qBuildA at hl
  split at hl
  · rename_i sz hsz
    simp only [sizeT, Option.map_eq_some_iff] at hsz
    obtain ⟨ei, hei, rfl⟩ := hsz
    simp only [Option.map_eq_some_iff] at hl
    obtain ⟨cs, hf, rfl⟩ := hl
    obtain ⟨z, hz, hzc, _⟩ := run_zeroValue' (P := P) (w := w) hE ht
    have hc : LRel Z φ H w (zeroV i.zero) z.cells.toList := by rw [hzc]; exact LRel.zeroV _
    obtain ⟨ws, h3, h4⟩ := fill_rel hf hc hq
    refine .same h (x := .agg ws) ?_ (by simpa using mkAgg_rel h4)
    simp only [Instr.build, Sem.run_bind, hz, Result.andThen, tyK hE ht, hd, run_sizeOf' hE hei, h3, Sem.run_pure]
  · cases hl
end Go.Vm
/- The operations that leave memory as it is: the last ones, and all together. -/
set_option linter.unusedVariables false
set_option linter.unusedSimpArgs false
set_option linter.unusedSectionVars false
namespace Go.Vm
variable [Valu]
variable {P : Program} {E : Env} {Z : Nat → Prop} {φ φ' : Phi} {H H' : Heap} {w w' : World}

/-! ### keys -/
theorem checkKey_fits (hE : EnvOk P E) {kt : TypeId} {k : F} (hk : keyFits E kt k = true) {st : Nat → Prop} {v : Value} (hv : FRel w st k v) (e : Bool) :
    (Instr.checkKey e 10000 kt v).run P w = .ok () w := by
  unfold keyFits at hk
  split at hk
  · rename_i q sz by_ z ag q' n ht
    cases hv
    have := tyK (w := w) hE ht
    simp only at this
    show ((Instr.checkKey e (9999 + 1) kt (S.int q' n).val).run P w) = _
    rw [Instr.checkKey]
    simp [this, Result.andThen, S.val]
  · rename_i sz by_ z ag s ht
    cases hv
    have := tyK (w := w) hE ht
    show ((Instr.checkKey e (9999 + 1) kt (S.str s).val).run P w) = _
    rw [Instr.checkKey]
    simp [this, Result.andThen, S.val]
  · rename_i sz by_ z ag s ht
    cases hv
    have := tyK (w := w) hE ht
    show ((Instr.checkKey e (9999 + 1) kt (S.bool s).val).run P w) = _
    rw [Instr.checkKey]
    simp [this, Result.andThen, S.val]
  · rename_i i cs ht
    simp only [Bool.and_eq_true] at hk
    obtain ⟨h1, h2⟩ := hk
    split at h2
    · rename_i xs hx
      rw [scalars_map hx] at hv
      rw [hv.scalars_inv]
      exact (hE.eqT kt i h1 ht).2.2 xs e w h2
    · cases h2
  · cases hk

def FindOk (es : List (F × V)) (en : List MapEntry) (k : F) (j : Nat) : Option (Nat × V) → Option (Nat × Value) → Prop
  | none, none => True
  | some (i, v), some (i', x) => i' = j + i ∧ ∃ e k', es[i]? = some (k', v) ∧ en[i]? = some e ∧ e.val = x ∧ F.keyEq k k' = some true
  | _, _ => False

theorem keyFits_s {kt : TypeId} {i : TyI} (ht : E.ty kt = some i) {s : S} (h : keyFits E kt (.s s) = true) :
    (∃ q n, s = .int q n ∧ i.desc = .int q) ∨ (∃ b, s = .str b ∧ i.desc = .string) ∨ (∃ b, s = .bool b ∧ i.desc = .bool) := by
  unfold keyFits at h
  rw [ht] at h
  split at h
  · rename_i h1 h2; cases h1; cases h2; simp at h; exact .inl ⟨_, _, rfl, by rw [h]⟩
  · rename_i h1 h2; cases h1; cases h2; exact .inr (.inl ⟨_, rfl, rfl⟩)
  · rename_i h1 h2; cases h1; cases h2; exact .inr (.inr ⟨_, rfl, rfl⟩)
  · rename_i h2; cases h2
  · cases h
theorem bytesEq (x y : ByteArray) : (x == y) = true ↔ x = y := by
  constructor
  · intro h
    cases x; cases y
    rename_i a b
    have : (a == b) = true := h
    simp at this; subst this; rfl
  · rintro rfl
    cases x
    rename_i a
    show (a == a) = true
    simp
theorem sameNow_s {d : TypeDesc} {s s' : S} {b : Bool} (h : F.keyEq (.s s) (.s s') = some b)
    (h1 : (∃ q n, s = .int q n ∧ d = .int q) ∨ (∃ b, s = .str b ∧ d = .string) ∨ (∃ b, s = .bool b ∧ d = .bool))
    (h2 : (∃ q n, s' = .int q n ∧ d = .int q) ∨ (∃ b, s' = .str b ∧ d = .string) ∨ (∃ b, s' = .bool b ∧ d = .bool)) : Instr.sameNow d s.val s'.val = some b := by
  rcases h1 with ⟨q, n, rfl, rfl⟩ | ⟨x, rfl, rfl⟩ | ⟨x, rfl, rfl⟩ <;> rcases h2 with ⟨q', n', rfl, h2⟩ | ⟨y, rfl, h2⟩ | ⟨y, rfl, h2⟩ <;> cases h2 <;>
    simp only [F.keyEq, S.alike, beq_self_eq_true, if_true, Option.some.injEq] at h <;> subst h <;> simp only [Instr.sameNow, S.val, if_true, Option.some.injEq] <;> rw [Bool.eq_iff_iff] <;> simp [bytesEq]
def isAggF : F → Bool
  | .agg _ => true
  | _ => false
theorem FindOk.cons {es : List (F × V)} {en : List MapEntry} {k : F} {j : Nat} {r r'} (h : FindOk es en k (j + 1) r r') (p : F × V) (e : MapEntry) :
    FindOk (p :: es) (e :: en) k j (r.map fun (i, v) => (i + 1, v)) r' := by
  cases r with
  | none => cases r' <;> simp_all [FindOk]
  | some q =>
    obtain ⟨i, v⟩ := q
    cases r' with
    | none => simp [FindOk] at h
    | some q' =>
      obtain ⟨i', x⟩ := q'
      simp only [FindOk] at h
      obtain ⟨rfl, e', k', h1, h2, h3, h4⟩ := h
      simp only [Option.map_some, FindOk]
      exact ⟨by omega, e', k', by simpa using h1, by simpa using h2, h3, h4⟩

theorem find_scalar (hE : EnvOk P E) {kt : TypeId} {i : TyI} (ht : E.ty kt = some i) {k : F} (hk : keyFits E kt k = true) (ha : isAggF k = false) {st : Nat → Prop} {kv : Value} (hkv : FRel w st k kv)
    {es : List (F × V)} {en : List MapEntry} (hlen : es.length = en.length) (hr : ∀ (i : Nat) p e, es[i]? = some p → en[i]? = some e → FRel w st p.1 e.key)
    (hf : es.all (fun e => keyFits E kt e.1) = true) {r : Option (Nat × V)} (h : findV k es = some r) (j : Nat) :
    ∃ r', Instr.findNow i.desc kv en j = some r' ∧ FindOk es en k j r r' := by
  induction es generalizing en r j with
  | nil =>
    cases en with
    | nil => simp [findV] at h; subst h; exact ⟨none, rfl, trivial⟩
    | cons _ _ => simp at hlen
  | cons p es ih =>
    cases en with
    | nil => simp at hlen
    | cons e en =>
      obtain ⟨x, v⟩ := p
      have hx := hr 0 _ _ rfl rfl
      simp only at hx
      rw [List.all_cons, Bool.and_eq_true] at hf
      have hsame : ∀ b, F.keyEq k x = some b → Instr.sameNow i.desc kv e.key = some b := by
        intro b hb
        have hfx := hf.1
        simp only at hfx
        cases k with
        | s s =>
          cases x with
          | s s' =>
            cases hkv
            generalize e.key = ek at hx
            cases hx
            exact sameNow_s hb (keyFits_s ht hk) (keyFits_s ht hfx)
          | _ => simp [F.keyEq] at hb
        | agg => simp [isAggF] at ha
        | _ => simp [F.keyEq] at hb
      simp only [findV] at h
      split at h
      · rename_i hb
        cases h
        refine ⟨some (j, e.val), by simp [Instr.findNow, hsame _ hb], by simp [FindOk], e, x, rfl, rfl, rfl, hb⟩
      · rename_i hb
        simp only [Option.map_eq_some_iff] at h
        obtain ⟨r0, h0, rfl⟩ := h
        obtain ⟨r', h1, h2⟩ := ih (en := en) (by simpa using hlen) (fun i p e h1 h2 => hr (i + 1) p e (by simpa using h1) (by simpa using h2)) hf.2 h0 (j + 1)
        exact ⟨r', by simp [Instr.findNow, hsame _ hb, h1], h2.cons _ _⟩
      · cases h
theorem find_agg (hE : EnvOk P E) {kt : TypeId} {k : F} (hk : keyFits E kt k = true) (ha : isAggF k = true) {st : Nat → Prop} {kv : Value} (hkv : FRel w st k kv)
    {es : List (F × V)} {en : List MapEntry} (hlen : es.length = en.length) (hr : ∀ (i : Nat) p e, es[i]? = some p → en[i]? = some e → FRel w st p.1 e.key)
    {r : Option (Nat × V)} (h : findV k es = some r) (j : Nat) :
    ∃ r', (Instr.findAsking kt kv en j).run P w = .ok r' w ∧ FindOk es en k j r r' := by
  induction es generalizing en r j with
  | nil =>
    cases en with
    | nil => simp [findV] at h; subst h; exact ⟨none, rfl, trivial⟩
    | cons _ _ => simp at hlen
  | cons p es ih =>
    cases en with
    | nil => simp at hlen
    | cons e en =>
      obtain ⟨x, v⟩ := p
      have hx := hr 0 _ _ rfl rfl
      simp only at hx
      have hsame : ∀ b, F.keyEq k x = some b → (Op.equal kt kv e.key).run P w = .ok b w := by
        intro b hb
        cases k with
        | agg cs =>
          cases x with
          | agg ds =>
            simp only [F.keyEq] at hb
            split at hb
            · rename_i xs ys h1 h2
              split at hb
              · rename_i hal
                cases hb
                rw [scalars_map h2] at hx
                rw [hx.scalars_inv]
                unfold keyFits at hk
                split at hk
                · rename_i heq; cases heq
                · rename_i heq; cases heq
                · rename_i heq; cases heq
                · rename_i i cs' ht heq
                  cases heq
                  rw [Bool.and_eq_true, h1] at hk
                  rw [scalars_map h1] at hkv
                  rw [hkv.scalars_inv]
                  exact (hE.eqT kt i hk.1 ht).2.1 xs ys w hk.2 hal
                · cases hk
              · cases hb
            · cases hb
          | _ => simp [F.keyEq] at hb
        | _ => simp [isAggF] at ha
      simp only [findV] at h
      split at h
      · rename_i hb
        cases h
        refine ⟨some (j, e.val), ?_, by simp [FindOk], e, x, rfl, rfl, rfl, hb⟩
        simp [Instr.findAsking, hsame _ hb, Result.andThen]
      · rename_i hb
        simp only [Option.map_eq_some_iff] at h
        obtain ⟨r0, h0, rfl⟩ := h
        obtain ⟨r', h1, h2⟩ := ih (en := en) (by simpa using hlen) (fun i p e h1 h2 => hr (i + 1) p e (by simpa using h1) (by simpa using h2)) h0 (j + 1)
        refine ⟨r', ?_, h2.cons _ _⟩
        simp [Instr.findAsking, hsame _ hb, Result.andThen, h1]
      · cases h
theorem keyFits_ty {kt : TypeId} {k : F} (hk : keyFits E kt k = true) : ∃ i, E.ty kt = some i := by
  unfold keyFits at hk
  split at hk
  all_goals first
    | exact ⟨_, by assumption⟩
    | cases hk
theorem keyFits_desc (hE : EnvOk P E) {kt : TypeId} {i : TyI} (ht : E.ty kt = some i) {k : F} (hk : keyFits E kt k = true) (ha : isAggF k = true) : ∀ kv k' l j, Instr.findNow i.desc (.agg kv) (k' :: l) j = none := by
  intro kv k' l j
  simp only [Instr.findNow]
  cases i.desc <;> simp [Instr.sameNow]
theorem find_run (hE : EnvOk P E) {kt : TypeId} {k : F} (hk : keyFits E kt k = true) {st : Nat → Prop} {kv : Value} (hkv : FRel w st k kv)
    {es : List (F × V)} {en : List MapEntry} (hlen : es.length = en.length) (hr : ∀ (i : Nat) p e, es[i]? = some p → en[i]? = some e → FRel w st p.1 e.key)
    (hf : es.all (fun e => keyFits E kt e.1) = true) {r : Option (Nat × V)} (h : findV k es = some r) :
    ∃ r', (Instr.findKey kt kv en).run P w = .ok r' w ∧ FindOk es en k 0 r r' := by
  obtain ⟨i, ht⟩ := keyFits_ty hk
  cases ha : isAggF k with
  | false =>
    obtain ⟨r', h1, h2⟩ := find_scalar hE ht hk ha hkv hlen hr hf h 0
    exact ⟨r', by simp [Instr.findKey, tyK hE ht, Result.andThen, h1], h2⟩
  | true =>
    obtain ⟨r', h1, h2⟩ := find_agg hE hk ha hkv hlen hr h 0
    cases en with
    | nil =>
      refine ⟨r', ?_, h2⟩
      simp only [Instr.findAsking, Sem.run_pure, Result.ok.injEq] at h1
      obtain ⟨rfl, _⟩ := h1
      simp [Instr.findKey, tyK hE ht, Result.andThen, Instr.findNow]
    | cons e en =>
      refine ⟨r', ?_, h2⟩
      cases k with
      | agg cs =>
        cases hkv with
        | agg _ vs hl hh =>
          simp [Instr.findKey, tyK hE ht, Result.andThen, keyFits_desc hE ht hk ha, h1]
      | _ => simp [isAggF] at ha

theorem lookup_run {t kt et : TypeId} {a c : Value} {ok : Bool} {en : Array MapEntry} {r' : Option (Nat × Value)} {zv : Value} (h0 : (underlying t).run P w = .ok (.map kt et) w)
    (h1 : (a = .map none ∧ en = #[]) ∨ ∃ r clock, a = .map (some r) ∧ w.heap[r]? = some (.map en clock)) (h2 : (Instr.checkKey en.isEmpty 10000 kt c).run P w = .ok () w)
    (h3 : (Instr.findKey kt c en.toList).run P w = .ok r' w) (h4 : r' = none → (zeroValue et).run P w = .ok zv w) :
    (Instr.lookup t a c ok).run P w = .ok (if ok then .tuple #[match r' with | some (_, v) => v | none => zv, .bool r'.isSome] else match r' with | some (_, v) => v | none => zv) w := by
  unfold Instr.lookup
  rcases h1 with ⟨rfl, rfl⟩ | ⟨r, clock, rfl, h5⟩
  · cases r' with
    | none => simp only [Sem.run_bind, h0, Result.andThen, Sem.run_pure, h2, h3, h4 rfl]; rfl
    | some q => simp only [Sem.run_bind, h0, Result.andThen, Sem.run_pure, h2, h3]; rfl
  · have hg : (getObj r).run P w = .ok (.map en clock) w := by simp [getObj, Sem.run, h5]
    cases r' with
    | none => simp only [Sem.run_bind, h0, Result.andThen, Sem.run_pure, hg, h2, h3, h4 rfl]; rfl
    | some q => simp only [Sem.run_bind, h0, Result.andThen, Sem.run_pure, hg, h2, h3]; rfl
theorem q_lookup (hE : EnvOk P E) (h : HRel Z φ H w) {t : TypeId} {x k v : V} {ok : Bool} {a c : Value} (hx : VRel Z φ H w x a) (hk : VRel Z φ H w k c) (hl : lookupV E H t x k ok = some v) :
    QOk P Z φ H w (Instr.lookup t a c ok) v := by
  unfold lookupV at hl
  split at hl
  · rename_i kt et sz by_ z ag es k ht hm
    have hkv := hk.fz_inv
    split at hl
    · rename_i hfit
      rw [Bool.and_eq_true] at hfit
      split at hl
      · rename_i r z hr hz
        have hzero : ∃ zv, (zeroValue et).run P w = .ok zv w ∧ VRel Z φ H w z zv := by
          unfold zeroOf at hz
          split at hz
          · rename_i i hi
            obtain ⟨zv, h1, h2, h3, h4⟩ := run_zeroValue' (P := P) (w := w) hE hi
            refine ⟨zv, h1, ?_⟩
            split at hz
            · rename_i ha
              cases hz
              rw [h3 ha]
              exact mkAgg_rel (LRel.zeroV _)
            · rename_i ha
              obtain ⟨s, hs, rfl⟩ := h4 (by simpa using ha)
              rw [hs] at hz; cases hz; exact .s s
          · cases hz
        obtain ⟨zv, hz1, hz2⟩ := hzero
        have hent : ∃ (en : Array MapEntry), es.length = en.toList.length ∧ (∀ (i : Nat) p e, es[i]? = some p → en.toList[i]? = some e → FRel w (stable Z φ H w) p.1 e.key ∧ VRel Z φ H w p.2 e.val) ∧
            ((a = .map none ∧ en = #[]) ∨ ∃ r clock, a = .map (some r) ∧ w.heap[r]? = some (.map en clock)) := by
          rcases mapOf_rel h hm hx with ⟨rfl, rfl⟩ | ⟨r, en, clock, rfl, h2, h3, h4⟩
          · exact ⟨#[], rfl, fun i p e h => by simp at h, .inl ⟨rfl, rfl⟩⟩
          · exact ⟨en, by simpa using h3.symm, fun i p e h5 h6 => h4 i p.1 p.2 e h5 (by simpa using h6), .inr ⟨r, clock, rfl, h2⟩⟩
        obtain ⟨en, he1, he2, he3⟩ := hent
        obtain ⟨r', hr1, hr2⟩ := find_run hE hfit.1 hkv he1 (fun i p e h1 h2 => (he2 i p e h1 h2).1) hfit.2 hr
        have hck := checkKey_fits hE hfit.1 hkv en.isEmpty
        have hfin : ∃ y b, VRel Z φ H w (match r with | some (_, v) => (v, true) | none => (z, false)).1 y ∧ b = (match r with | some (_, v) => (v, true) | none => (z, false)).2 ∧
            (Instr.lookup t a c ok).run P w = .ok (if ok then .tuple #[y, .bool b] else y) w := by
          cases r with
          | none =>
            cases r' with
            | some _ => exact absurd hr2 (by simp [FindOk])
            | none =>
              refine ⟨zv, false, hz2, rfl, ?_⟩
              exact lookup_run (tyK hE ht) he3 hck hr1 (fun _ => hz1)
          | some q =>
            obtain ⟨i, qv⟩ := q
            cases r' with
            | none => exact absurd hr2 (by simp [FindOk])
            | some q' =>
              obtain ⟨i', y⟩ := q'
              obtain ⟨_, e, k', h5, h6, rfl, _⟩ := hr2
              refine ⟨e.val, true, (he2 i _ e h5 h6).2, rfl, ?_⟩
              exact lookup_run (zv := zv) (tyK hE ht) he3 hck hr1 (fun h => by cases h)
        obtain ⟨y, b, h5, h6, h7⟩ := hfin
        refine .same h h7 ?_
        have hgo : ∀ (q : V × Bool), VRel Z φ H w q.1 y → b = q.2 → VRel Z φ H w (if ok then mkTup [q.1, bV q.2] else q.1) (if ok then .tuple #[y, .bool b] else y) := by
          rintro ⟨q1, q2⟩ h5 rfl
          cases ok with
          | false => exact h5
          | true => exact mkTup_rel (vs := [y, .bool _]) (.cons h5 (.cons (.bV _) .nil))
        have := hgo _ h5 h6
        cases r with
        | none => simp only [Option.some.injEq] at hl; subst hl; exact this
        | some q => simp only [Option.some.injEq] at hl; subst hl; exact this
      · cases hl
    · cases hl
  · cases hl
end Go.Vm
/- The operations that leave memory as it is: together. -/
set_option linter.unusedVariables false
set_option linter.unusedSimpArgs false
set_option linter.unusedSectionVars false
namespace Go.Vm
variable [Valu]
variable {P : Program} {E : Env} {Z : Nat → Prop} {φ φ' : Phi} {H H' : Heap} {w w' : World}

/-- an operation's outcome -/
def NOk (P : Program) (Z : Nat → Prop) (φ : Phi) (H : Heap) (w : World) (s : Sem Next) (v : V) : Prop :=
  ∃ x w', s.run P w = .ok (.value x) w' ∧ VRel Z φ H w' v x ∧ HRel Z φ H w' ∧ Ext Z φ H w φ H w'
theorem QOk.next {s : Sem Value} {v : V} (h : QOk P Z φ H w s v) : NOk P Z φ H w (do pure (.value (← s))) v := by
  obtain ⟨x, w', h1, h2⟩ := h
  exact ⟨x, w', by simp [h1, Result.andThen], h2⟩
theorem NOk.value (h : HRel Z φ H w) {x : Value} {v : V} (hv : VRel Z φ H w v x) : NOk P Z φ H w (pure (.value x)) v :=
  ⟨x, w, rfl, hv, h, Ext.refl _ _ _ _⟩
theorem NOk.congr {s s' : Sem Next} {v : V} (e : s.run P w = s'.run P w) (h : NOk P Z φ H w s' v) : NOk P Z φ H w s v := by
  obtain ⟨x, w', h1, h2⟩ := h
  exact ⟨x, w', by rw [e, h1], h2⟩

theorem optV_rel {B : Base} (hg : GlobOk B E) (hs : SRel B E Z φ H w) {T : List V} {a : Act} (hT : TRel Z φ H w T a.tmps) {x : Option Operand} {v : Option V} (h : optV E T x = some v) : OptRel Z φ H w v (x.map a.eval) := by
  cases x with
  | none => simp [optV] at h; subst h; trivial
  | some x =>
    simp only [optV, Option.map_eq_some_iff] at h
    obtain ⟨y, h1, rfl⟩ := h
    exact ev_rel hg hs hT h1

theorem len_args {argTypes : Array TypeId} {t ty : TypeId} {a : Value} (h : argTypes[0]? = some t) : Builtin.len_ argTypes ty #[a] = Builtin.len_ #[t] ty #[a] := by
  simp [Builtin.len_, h]
theorem cap_args {argTypes : Array TypeId} {t ty : TypeId} {a : Value} (h : argTypes[0]? = some t) : Builtin.cap_ argTypes ty #[a] = Builtin.cap_ #[t] ty #[a] := by
  simp [Builtin.cap_, h]

theorem quiet_call (hE : EnvOk P E) {B : Base} (hg : GlobOk B E) (hs : SRel B E Z φ H w) {T : List V} {a : Act} (hT : TRel Z φ H w T a.tmps) {c : Call} {ty : TypeId} {v : V} (hl : qCall E H T c = some v) :
    NOk P Z φ H w (do let d ← resolve a.eval c ty; invoke d.target d.args) v := by
  obtain ⟨callee, args, argTypes⟩ := c
  unfold qCall at hl
  have harg1 : ∀ x, args.toList = [x] → args = #[x] := fun x h => by apply Array.ext'; simpa using h
  split at hl
  · rename_i hc
    simp only at hc; subst hc
    unfold qLen at hl
    split at hl
    · rename_i x t h1 h2
      simp only at h1 h2
      rw [harg1 x h1]
      split at hl
      · rename_i y hy
        refine NOk.congr ?_ (q_len (ty := ty) hE hs.h (ev_rel hg hs hT hy) hl).next
        simp [resolve, invoke, builtin, Result.andThen, len_args h2]
      · cases hl
    · cases hl
  · rename_i hc
    simp only at hc; subst hc
    unfold qCap at hl
    split at hl
    · rename_i x t h1 h2
      simp only at h1 h2
      rw [harg1 x h1]
      split at hl
      · rename_i y hy
        refine NOk.congr ?_ (q_cap (ty := ty) hE hs.h (ev_rel hg hs hT hy) hl).next
        simp [resolve, invoke, builtin, Result.andThen, cap_args h2]
      · cases hl
    · cases hl
  · rename_i hc
    simp only at hc; subst hc
    unfold qMinmax at hl
    split at hl
    · rename_i y r h1
      obtain ⟨⟨k, n⟩, h2, h3⟩ := Option.bind_eq_some_iff.1 hl
      have hL := evL_rel hg hs hT h1
      simp only at hL
      obtain ⟨b, vs, he, h4, h5⟩ := hL.cons_inv
      have hy : ∃ k n, y = .fz (.s (.int k n)) := by
        unfold intOf at h2; split at h2
        · exact ⟨_, _, rfl⟩
        · cases h2
      obtain ⟨x, h6, h7⟩ := minmax_run (P := P) (mx := true) h3 h4 h5 hy
      refine ⟨x, w, ?_, h7, hs.h, Ext.refl _ _ _ _⟩
      have he' : (args.map a.eval).toList = b :: vs := by rw [Array.toList_map]; exact he
      simp only [resolve, Sem.run_bind, Sem.run_pure, Result.andThen, invoke, builtin, Builtin.max_, he']
      rw [if_pos rfl] at h6
      simp [h6]
    · cases hl
  · rename_i hc
    simp only at hc; subst hc
    unfold qMinmax at hl
    split at hl
    · rename_i y r h1
      obtain ⟨⟨k, n⟩, h2, h3⟩ := Option.bind_eq_some_iff.1 hl
      have hL := evL_rel hg hs hT h1
      simp only at hL
      obtain ⟨b, vs, he, h4, h5⟩ := hL.cons_inv
      have hy : ∃ k n, y = .fz (.s (.int k n)) := by
        unfold intOf at h2; split at h2
        · exact ⟨_, _, rfl⟩
        · cases h2
      obtain ⟨x, h6, h7⟩ := minmax_run (P := P) (mx := false) h3 h4 h5 hy
      refine ⟨x, w, ?_, h7, hs.h, Ext.refl _ _ _ _⟩
      have he' : (args.map a.eval).toList = b :: vs := by rw [Array.toList_map]; exact he
      simp only [resolve, Sem.run_bind, Sem.run_pure, Result.andThen, invoke, builtin, Builtin.min_, he']
      rw [if_neg (by simp)] at h6
      simp [h6]
    · cases hl
  · cases hl

theorem quiet_ok (hE : EnvOk P E) {B : Base} (hg : GlobOk B E) (hs : SRel B E Z φ H w) {T : List V} {a : Act} (hT : TRel Z φ H w T a.tmps) {o : Oper} {v : V} (hl : quietV E H T o.op = some v) :
    NOk P Z φ H w (execOp a.eval o) v := by
  have ev1 : ∀ {x v}, ev E T x = some v → VRel Z φ H w v (a.eval x) := fun h => ev_rel hg hs hT h
  cases hop : o.op with
  | move x => rw [hop] at hl; simp only [execOp, hop]; exact .value hs.h (ev1 hl)
  | assign x => rw [hop] at hl; simp only [execOp, hop]; exact .value hs.h (ev1 hl)
  | pick c x y =>
    rw [hop] at hl; simp only [execOp, hop]
    simp only [quietV, qPick] at hl
    split at hl
    · rename_i t ht
      have hc := (ev1 ht).s_inv
      refine NOk.congr ?_ (NOk.value (x := if t then a.eval x else a.eval y) hs.h ?_)
      · simp [asBool, hc, S.val, Result.andThen]
      · cases t
        · exact ev1 hl
        · exact ev1 hl
    · cases hl
  | build t parts =>
    rw [hop] at hl; simp only [execOp, hop]
    simp only [quietV, qBuild] at hl
    split at hl
    · rename_i i ps ht hps
      have hq := evParts_rel hg hs hT hps
      have e : (parts.map fun (i, x) => (i, a.eval x)).toList = parts.toList.map fun (i, x) => (i, a.eval x) := by simp
      rw [← e] at hq
      split at hl
      · rename_i fs hd; exact (q_buildS hE hs.h ht hd hq hl).next
      · rename_i n e hd; exact (q_buildA hE hs.h ht hd hq hl).next
      · cases hl
    · cases hl
  | load t x =>
    rw [hop] at hl; simp only [execOp, hop]
    simp only [quietV, qLoad] at hl
    split at hl
    · rename_i i av ht hx; exact (q_load hE hs.h ht (ev1 hx) hl).next
    · cases hl
  | nilCheck x =>
    rw [hop] at hl; simp only [execOp, hop]
    simp only [quietV, qNil] at hl
    split at hl
    · rename_i cs j hx
      cases hl
      have hv := ev1 hx
      obtain ⟨ad, had⟩ := ptr_shape hv (by trivial)
      rw [had] at hv ⊢
      exact .value hs.h hv
    · rename_i b ver i j hx
      cases hl
      have hv := ev1 hx
      obtain ⟨ad, had⟩ := ptr_shape hv (by trivial)
      rw [had] at hv ⊢
      exact .value hs.h hv
    · rename_i f cs hx
      cases hl
      have hv := ev1 hx
      generalize a.eval x = y at hv ⊢
      cases hv with
      | clo _ _ vs hlen hh => exact .value hs.h (.clo _ _ _ hlen hh)
    · rename_i f hx
      cases hl
      have hv := ev1 hx
      have := hv.s_inv
      rw [this] at hv ⊢
      exact .value hs.h hv
    · cases hl
  | binOp op t x y p =>
    rw [hop] at hl; simp only [execOp, hop]
    simp only [quietV, qBin] at hl
    split at hl
    · rename_i u v' hx hy
      exact (q_bin hE hs.h (ev1 hx) (ev1 hy) hl x y).next
    · cases hl
  | unOp op t x =>
    rw [hop] at hl; simp only [execOp, hop]
    simp only [quietV, qUn] at hl
    split at hl
    · rename_i u hx; exact (q_un hs.h (ev1 hx) hl).next
    · cases hl
  | convert s d x =>
    rw [hop] at hl; simp only [execOp, hop]
    simp only [quietV, qConv] at hl
    split at hl
    · rename_i u hx; exact (q_conv hE hs.h (ev1 hx) hl).next
    · cases hl
  | makeFunc fn first captured =>
    rw [hop] at hl; simp only [execOp, hop]
    simp only [quietV, qFunc] at hl
    split at hl
    · rename_i f
      split at hl
      · rename_i hf
        have hf : first = #[] := by simpa using hf
        subst hf
        have hd : ∀ v', VRel Z φ H w v' (.func (.func f) #[] (captured.map a.eval)) → v' = v → NOk P Z φ H w (do pure (.value (← Instr.makeFunc (.func f) (#[].map a.eval) (captured.map a.eval)))) v := by
          intro v' hv e; subst e
          exact ⟨_, w, by simp [Instr.makeFunc, Result.andThen], hv, hs.h, Ext.refl _ _ _ _⟩
        split at hl
        · rename_i hcap
          cases hl
          have hL := evL_rel hg hs hT hcap
          have : captured.map a.eval = #[] := by
            apply Array.ext'; rw [Array.toList_map]
            have := hL.1; simp only [List.length_nil] at this
            exact List.eq_nil_of_length_eq_zero this.symm
          refine hd _ ?_ rfl
          rw [this]; exact .s (.fn f)
        · rename_i l _ hcap
          cases hl
          have hL := evL_rel hg hs hT hcap
          refine hd _ ?_ rfl
          refine .clo _ _ _ (by have := hL.1; simpa using this) fun i c v h1 h2 => hL.2 i c v h1 (by simpa using h2)
        · cases hl
      · cases hl
    · cases hl
  | slice t x lo hi mx =>
    rw [hop] at hl; simp only [execOp, hop]
    simp only [quietV, qSlice] at hl
    split at hl
    · rename_i u l h m hx h1 h2 h3
      cases hm : (m.isSome && h.isNone) with
      | true => rw [hm] at hl; simp at hl
      | false =>
        rw [hm] at hl
        exact (q_slice hE hs.h (ev1 hx) (optV_rel hg hs hT h1) (optV_rel hg hs hT h2) (optV_rel hg hs hT h3) (fun hms => by cases h <;> simp_all) hl).next
    · cases hl
  | fieldAddr t x f =>
    rw [hop] at hl; simp only [execOp, hop]
    simp only [quietV, qFieldAddr] at hl
    split at hl
    · rename_i u hx; exact (q_fieldAddr hE hs.h (ev1 hx) hl).next
    · cases hl
  | field t x f =>
    rw [hop] at hl; simp only [execOp, hop]
    simp only [quietV, qField] at hl
    split at hl
    · rename_i u hx; exact (q_field hE hs.h (ev1 hx) hl).next
    · cases hl
  | indexAddr t x i =>
    rw [hop] at hl; simp only [execOp, hop]
    simp only [quietV, qIndexAddr] at hl
    split at hl
    · rename_i u k hx hi; exact (q_indexAddr hE hs.h (ev1 hx) (ev1 hi) hl).next
    · cases hl
  | index t x i =>
    rw [hop] at hl; simp only [execOp, hop]
    simp only [quietV, qIndex] at hl
    split at hl
    · rename_i u k hx hi; exact (q_index hE hs.h (ev1 hx) (ev1 hi) hl).next
    · cases hl
  | lookup t x k ok =>
    rw [hop] at hl; simp only [execOp, hop]
    simp only [quietV, qLookup] at hl
    split at hl
    · rename_i u q hx hk; exact (q_lookup hE hs.h (ev1 hx) (ev1 hk) hl).next
    · cases hl
  | extract t i =>
    rw [hop] at hl; simp only [execOp, hop]
    simp only [quietV, qExtract] at hl
    split at hl
    · rename_i vs hx
      have hv := ev1 hx
      generalize a.eval t = y at hv ⊢
      cases hv with
      | tup _ ws hlen hh =>
        have hlt := lt_of_get hl
        obtain ⟨z, hz⟩ : ∃ z, ws[i]? = some z := ⟨ws[i]'(by omega), by simp [show i < ws.size by omega]⟩
        exact ⟨z, w, by simp [Instr.extract, hz, Result.andThen], hh i v z hl hz, hs.h, Ext.refl _ _ _ _⟩
    · rename_i vs hx
      have hv := (ev1 hx).fz_inv
      generalize a.eval t = y at hv ⊢
      simp only [Option.map_eq_some_iff] at hl
      obtain ⟨c, hc, rfl⟩ := hl
      cases hv with
      | tup _ ws hlen hh =>
        have hlt := lt_of_get hc
        obtain ⟨z, hz⟩ : ∃ z, ws[i]? = some z := ⟨ws[i]'(by omega), by simp [show i < ws.size by omega]⟩
        exact ⟨z, w, by simp [Instr.extract, hz, Result.andThen], .fz _ _ (hh i c z hc hz), hs.h, Ext.refl _ _ _ _⟩
    · cases hl
  | call c =>
    rw [hop] at hl; simp only [execOp, hop]
    exact quiet_call hE hg hs hT hl
  | _ => rw [hop] at hl; simp [quietV] at hl
end Go.Vm
/- Operations that only make a block. -/
set_option linter.unusedVariables false
set_option linter.unusedSimpArgs false
set_option linter.unusedSectionVars false
namespace Go.Vm
variable [Valu]
variable {P : Program} {E : Env} {Z : Nat → Prop} {φ φ' : Phi} {H H' : Heap} {w w' : World}

/-- the new block's value stands while the block does -/
def Made (w : World) (ob : Obj) (id : Nat) (B : Blk) (v : V) (x : Value) : Prop :=
  ∀ (Z : Nat → Prop) (φ' : Phi) (H' : Heap) (w' : World), id < H'.length →
    (∀ B', H'[id]? = some B' → B.to (φ' id = some (w.heap.size, 0) ∧ cellsSize w' w.heap.size = cellsSize (w.alloc ob) w.heap.size) B') → VRel Z φ' H' w' v x
def FOk (P : Program) (Z : Nat → Prop) (φ : Phi) (H : Heap) (w : World) (s : Sem Next) (id : Nat) (v : V) (B : Blk) : Prop :=
  ∃ x ob, s.run P w = .ok (.value x) (w.alloc ob) ∧ ORel Z φ H w 0 B ob ∧ Made w ob id B v x

theorem made_ptr (id wd : Nat) (rs : List (List V)) (ob : Obj) : Made w ob id (.mem 0 false wd rs) (.ptr id 0 0 0) (.pointer (some ⟨w.heap.size, 0, none⟩)) := by
  intro Z φ' H' w' hlt hto
  refine .ptr _ _ _ _ _ ⟨_, rfl⟩ hlt fun v0 fr wd' rs' hm => ?_
  have := hto _ hm
  simp only [Blk.to] at this
  refine ⟨Nat.zero_le _, fun h0 => ?_⟩
  obtain ⟨⟨h1, _⟩, _, _⟩ := this.2 h0
  exact ⟨_, _, h1, by simp⟩
theorem made_own (id wd len cap : Nat) (clip : Bool) (rs : List (List V)) (ob : Obj) (hr : len ≤ rs.length) (hc : len ≤ cap) (hclip : clip = true → cap = len) (hs : cap * wd ≤ cellsSize (w.alloc ob) w.heap.size) :
    Made w ob id (.mem 0 false wd rs) (.own id 0 0 len clip) (.slice (some ⟨w.heap.size, 0, none⟩) len cap) := by
  intro Z φ' H' w' hlt hto
  refine .own _ _ _ _ _ _ ⟨_, _, rfl, hc, hclip⟩ hlt fun v0 fr wd' rs' hm => ?_
  have := hto _ hm
  simp only [Blk.to] at this
  refine ⟨Nat.zero_le _, fun h0 => ?_⟩
  obtain ⟨⟨h1, h2⟩, rfl, h3⟩ := this.2 h0
  exact ⟨_, _, _, _, h1, rfl, hc, hclip, fun _ => by simp, by omega, by rw [h2]; simpa using hs⟩
theorem made_map (id : Nat) (es : List (F × V)) (ob : Obj) : Made w ob id (.map es) (.map id) (.map (some w.heap.size)) := by
  intro Z φ' H' w' hlt hto
  refine .map _ _ ⟨_, rfl⟩ hlt fun es' hm => ?_
  have := hto _ hm
  simp only [Blk.to] at this
  exact ⟨_, this.1, rfl⟩

theorem cellsSize_new (c : Array Value) (e : TypeId) (f : Nat × Nat) : cellsSize (w.alloc (.cells c e f)) w.heap.size = c.size := by
  unfold cellsSize; rw [push_new]

/-- rows laid one behind the other -/
def RRel (Z : Nat → Prop) (φ : Phi) (H : Heap) (w : World) (wd : Nat) (rs : List (List V)) (c : Array Value) : Prop :=
  c.size = rs.length * wd ∧ (∀ row ∈ rs, row.length = wd) ∧ ∀ (i j : Nat) row x, rs[i]? = some row → row[j]? = some x → ∃ v, c[i * wd + j]? = some v ∧ VRel Z φ H w x v
theorem RRel.orel {wd : Nat} {rs : List (List V)} {c : Array Value} (h : RRel Z φ H w wd rs c) (e : TypeId) (ver : Nat) (fr : Bool) : ORel Z φ H w 0 (.mem ver fr wd rs) (.cells c e (0, 0)) :=
  ⟨c, e, rfl, h.2.1, fun i j row x h1 h2 => by rw [Nat.zero_add]; exact h.2.2 i j row x h1 h2⟩
theorem LRel.toRow {l : List V} {vs : Array Value} (h : LRel Z φ H w l vs.toList) : RRel Z φ H w l.length [l] vs := by
  refine ⟨by have := h.1; simpa using this.symm, fun row hr => by simp at hr; rw [hr], fun i j row x h1 h2 => ?_⟩
  have hi : i = 0 := by have := lt_of_get h1; simpa using this
  subst hi
  simp at h1; subst h1
  obtain ⟨y, h3, h4⟩ := h.get h2
  exact ⟨y, by simpa using h3, h4⟩
theorem zeros_get {z : List S} {n k j : Nat} {c : Array Value} (hc : ∀ k, k < n * z.length → c[k]? = ((z.map S.val)[k % z.length]?)) (hk : k < n) {s : S} (hs : z[j]? = some s) : c[k * z.length + j]? = some s.val := by
  have hj := lt_of_get hs
  have hlt : k * z.length + j < n * z.length := by
    have : (k + 1) * z.length ≤ n * z.length := Nat.mul_le_mul_right _ hk
    rw [Nat.add_mul] at this; omega
  rw [hc _ hlt, Nat.mul_comm, Nat.mul_add_mod, Nat.mod_eq_of_lt hj]
  simp [hs]
theorem zeros_rrel {z : List S} {n : Nat} {c : Array Value} (hs : c.size = n * z.length) (hc : ∀ k, k < n * z.length → c[k]? = ((z.map S.val)[k % z.length]?)) : RRel Z φ H w z.length (List.replicate n (zeroV z)) c := by
  refine ⟨by simpa using hs, fun row hr => by rw [List.eq_of_mem_replicate hr]; simp [zeroV], fun i j row x h1 h2 => ?_⟩
  have hi := lt_of_get h1
  simp at hi
  rw [List.getElem?_replicate, if_pos hi] at h1
  cases h1
  simp only [zeroV, List.getElem?_map, Option.map_eq_some_iff] at h2
  obtain ⟨s, h3, rfl⟩ := h2
  exact ⟨_, zeros_get hc hi h3, .s s⟩
theorem tile_get {zc : Array Value} {z : List S} (hz : zc.toList = z.map S.val) {m k : Nat} (hk : k < m) (hp : 0 < z.length) : ((Array.range m).map (zc[· % zc.size]!))[k]? = ((z.map S.val)[k % z.length]?) := by
  have hs : zc.size = z.length := by have := congrArg List.length hz; simpa using this
  have hlt : k % z.length < zc.size := by rw [hs]; exact Nat.mod_lt _ hp
  rw [Array.getElem?_map, Array.getElem?_range, if_pos hk]
  simp only [Option.map_some, hs]
  rw [← hz, Array.getElem?_toList, Array.getElem?_eq_getElem hlt]
  congr 1
  exact getElem!_pos zc (k % z.length) hlt

theorem fold_set (cl : List Value) (vs : Array Value) (off j0 : Nat) (hb : off + j0 + cl.length ≤ vs.size) :
    ((cl.zipIdx j0).foldl (fun cs p => cs.setIfInBounds (off + p.2) p.1) vs).toList = vs.toList.take (off + j0) ++ cl ++ vs.toList.drop (off + j0 + cl.length) := by
  induction cl generalizing vs j0 with
  | nil => simp
  | cons c cl ih2 =>
    rw [List.zipIdx_cons, List.foldl_cons, ih2 _ _ (by simp at hb ⊢; omega)]
    have e := list_seg_step vs.toList (off + j0) c cl (by simp at hb ⊢; omega)
    simpa [Array.toList_setIfInBounds, Nat.add_assoc] using e
theorem seg_get {α : Type} {l seg : List α} {off k : Nat} (hb : off + seg.length ≤ l.length) :
    (l.take off ++ seg ++ l.drop (off + seg.length))[k]? = if k < off then l[k]? else if k < off + seg.length then seg[k - off]? else l[k]? := by
  have ht : (l.take off).length = off := by rw [List.length_take]; omega
  by_cases h1 : k < off
  · rw [if_pos h1, List.append_assoc, List.getElem?_append_left (by omega), List.getElem?_take, if_pos h1]
  · rw [if_neg h1]
    by_cases h2 : k < off + seg.length
    · rw [if_pos h2, List.getElem?_append_left (by rw [List.length_append]; omega), List.getElem?_append_right (by omega), ht]
    · rw [if_neg h2, List.getElem?_append_right (by rw [List.length_append]; omega), List.getElem?_drop]
      congr 1; rw [List.length_append]; omega
/-- the place of a cell is its own -/
theorem place_uniq {wd i j i' j' : Nat} (hj : j < wd) (hj' : j' < wd) (h : i * wd + j = i' * wd + j') : i = i' ∧ j = j' := by
  have h1 : (i * wd + j) / wd = i := by rw [Nat.mul_comm, Nat.mul_add_div (by omega), Nat.div_eq_of_lt hj]; rfl
  have h2 : (i' * wd + j') / wd = i' := by rw [Nat.mul_comm, Nat.mul_add_div (by omega), Nat.div_eq_of_lt hj']; rfl
  have : i = i' := by rw [← h1, ← h2, h]
  subst this; exact ⟨rfl, by omega⟩
theorem RRel.setRow {wd : Nat} {rs : List (List V)} {c c' : Array Value} (h : RRel Z φ H w wd rs c) {i : Nat} (hi : i < rs.length) {cs : List V} {vs : List Value} (hr : LRel Z φ H w cs vs) (hl : cs.length = wd)
    (hc : c'.toList = c.toList.take (i * wd) ++ vs ++ c.toList.drop (i * wd + vs.length)) : RRel Z φ H w wd (rs.set i cs) c' := by
  obtain ⟨h1, h2, h3⟩ := h
  have hvs : vs.length = wd := by rw [← hr.1, hl]
  have hb : i * wd + vs.length ≤ c.toList.length := by
    have : (i + 1) * wd ≤ rs.length * wd := Nat.mul_le_mul_right _ hi
    rw [Nat.add_mul] at this; simp; omega
  have hget : ∀ k : Nat, c'[k]? = if k < i * wd then c[k]? else if k < i * wd + wd then vs[k - i * wd]? else c[k]? := by
    intro k
    rw [← Array.getElem?_toList, hc, seg_get hb, hvs]
    simp
  refine ⟨?_, fun row hrow => ?_, fun k j row x h5 h6 => ?_⟩
  · have := congrArg List.length hc
    simp only [List.length_append, List.length_take, List.length_drop, Array.length_toList] at this
    simp only [Array.length_toList] at hb
    rw [List.length_set, ← h1]; omega
  · rcases List.mem_or_eq_of_mem_set hrow with h | h
    · exact h2 row h
    · rw [h, hl]
  · by_cases hk : k = i
    · subst hk
      rw [List.getElem?_set_self hi] at h5; cases h5
      obtain ⟨y, h7, h8⟩ := hr.get h6
      have := lt_of_get h6
      refine ⟨y, ?_, h8⟩
      rw [hget, if_neg (by omega), if_pos (by omega), Nat.add_sub_cancel_left]; exact h7
    · rw [List.getElem?_set_ne (Ne.symm hk)] at h5
      obtain ⟨y, h7, h8⟩ := h3 k j row x h5 h6
      refine ⟨y, ?_, h8⟩
      have hj : j < wd := by rw [← h2 row (List.mem_of_getElem? h5)]; exact lt_of_get h6
      rw [hget]
      by_cases hlt : k < i
      · have : (k + 1) * wd ≤ i * wd := Nat.mul_le_mul_right _ hlt
        rw [Nat.add_mul] at this
        rw [if_pos (by omega)]; exact h7
      · have : (i + 1) * wd ≤ k * wd := Nat.mul_le_mul_right _ (by omega)
        rw [Nat.add_mul] at this
        rw [if_neg (by omega), if_neg (by omega)]; exact h7
theorem fillRows_rel {wd : Nat} {rs rs' : List (List V)} {ps : List (Nat × V)} (hf : fillRows wd rs ps = some rs') {c : Array Value} {qs : List (Nat × Value)} (hc : RRel Z φ H w wd rs c)
    (hq : ps.length = qs.length ∧ ∀ (i : Nat) p q, ps[i]? = some p → qs[i]? = some q → p.1 = q.1 ∧ VRel Z φ H w p.2 q.2) :
    ∃ c', Instr.fill (fun i => some (i * wd, wd)) c qs = some c' ∧ RRel Z φ H w wd rs' c' ∧ rs'.length = rs.length := by
  induction ps generalizing rs c qs with
  | nil =>
    cases qs with
    | nil => simp only [fillRows, Option.some.injEq] at hf; subst hf; exact ⟨c, rfl, hc, rfl⟩
    | cons _ _ => simp at hq
  | cons p ps ih =>
    cases qs with
    | nil => simp at hq
    | cons q qs =>
      obtain ⟨hpq, hv⟩ := hq.2 0 p q rfl rfl
      obtain ⟨i, v⟩ := p
      obtain ⟨i', x⟩ := q
      simp only at hpq hv; subst hpq
      simp only [fillRows] at hf
      split at hf
      · rename_i cs h2
        split at hf
        · rename_i hcond
          obtain ⟨hw, hi⟩ := hcond
          obtain ⟨hr, _⟩ := cells_rel h2 hv
          have hsz : x.cells.size = wd := by have := hr.1; simp at this; omega
          have hle : i * wd + wd ≤ c.size := by
            have : (i + 1) * wd ≤ rs.length * wd := Nat.mul_le_mul_right _ hi
            rw [Nat.add_mul] at this; rw [hc.1]; omega
          have hx : (x.cells.zipIdx.foldl (fun cs (c, j) => cs.setIfInBounds (i * wd + j) c) c).toList = c.toList.take (i * wd) ++ x.cells.toList ++ c.toList.drop (i * wd + x.cells.toList.length) := by
            have h5 := fold_set x.cells.toList c (i * wd) 0 (by simp [hsz]; omega)
            rw [← Array.foldl_toList, Array.toList_zipIdx]
            simpa using h5
          obtain ⟨c', h3, h4, h5⟩ := ih hf (hc.setRow hi hr hw hx) ⟨by have := hq.1; simpa using this, fun k p q h1 h2 => hq.2 (k + 1) p q (by simpa using h1) (by simpa using h2)⟩
          refine ⟨c', ?_, h4, by rw [h5, List.length_set]⟩
          simp only [Instr.fill]
          rw [if_neg (by rw [hsz]; simp; omega)]
          exact h3
        · cases hf
      · cases hf

theorem elemT_some {t : TypeId} {ei : TyI} (h : elemT E t = some ei) : ∃ i e, E.ty t = some i ∧ i.desc = .slice e ∧ E.ty e = some ei := by
  unfold elemT at h
  split at h
  · rename_i e _ _ _ _ ht; exact ⟨_, e, ht, rfl, h⟩
  · cases h
theorem fresh_ok (hE : EnvOk P E) {B : Base} (hg : GlobOk B E) (hs : SRel B E Z φ H w) {T : List V} {a : Act} (hT : TRel Z φ H w T a.tmps) {o : Oper} {id : Nat} {v : V} {bl : Blk} (hl : freshV E T id o.op = some (v, bl)) :
    FOk P Z φ H w (execOp a.eval o) id v bl := by
  have ev1 : ∀ {x v}, ev E T x = some v → VRel Z φ H w v (a.eval x) := fun h => ev_rel hg hs hT h
  cases hop : o.op with
  | alloc t =>
    rw [hop] at hl; simp only [execOp, hop]
    simp only [freshV, fAlloc] at hl
    split at hl
    · rename_i i ht
      cases hl
      obtain ⟨z, h1, h2, _⟩ := run_zeroValue' (P := P) (w := w) hE ht
      refine ⟨_, .cells z.cells t, by simp only [Instr.alloc, Sem.run_bind, h1, Result.andThen, newVar, newRow, run_newObj, Sem.run_pure]; rfl, ?_, made_ptr _ _ _ _⟩
      have hL : LRel Z φ H w (zeroV i.zero) z.cells.toList := by rw [h2]; exact LRel.zeroV _
      have := hL.toRow
      have hlen : (zeroV i.zero).length = i.zero.length := by simp [zeroV]
      rw [hlen] at this
      exact this.orel _ _ _
    · cases hl
  | box t x =>
    rw [hop] at hl; simp only [execOp, hop]
    simp only [freshV, fBox] at hl
    split at hl
    · rename_i u hx
      split at hl
      · rename_i cs hc
        cases hl
        refine ⟨_, .cells (a.eval x).cells t, by simp only [Instr.box, Sem.run_bind, Result.andThen, newVar, newRow, run_newObj, Sem.run_pure]; rfl, ?_, made_ptr _ _ _ _⟩
        exact (cells_rel hc (ev1 hx)).1.toRow.orel _ _ _
      · cases hl
    · cases hl
  | buildSlice t len parts =>
    rw [hop] at hl; simp only [execOp, hop]
    simp only [freshV, fBuild] at hl
    split at hl
    · rename_i ei ps hei hps
      split at hl
      · rename_i hle
        simp only [Option.map_eq_some_iff] at hl
        obtain ⟨rs, hf, he⟩ := hl
        cases he
        obtain ⟨i, e, ht, hd, hee⟩ := elemT_some hei
        have hq := evParts_rel hg hs hT hps
        have eq : (parts.map fun (i, x) => (i, a.eval x)).toList = parts.toList.map fun (i, x) => (i, a.eval x) := by simp
        rw [← eq] at hq
        obtain ⟨z, h1, h2, _⟩ := run_zeroValue' (P := P) (w := w) hE hee
        obtain ⟨_, info, z', hi1, hi2, hi3, hi4, hi5, _⟩ := hE.ty e ei hee
        have hzc : RRel Z φ H w ei.size (List.replicate len (zeroV ei.zero)) ((Array.range (len * ei.size)).map (((if len * ei.size = 0 then #[] else z.cells) : Array Value)[· % ((if len * ei.size = 0 then #[] else z.cells) : Array Value).size]!)) := by
          rw [← hi5]
          refine zeros_rrel (by simp) fun k hk => ?_
          have h0 : len * ei.zero.length ≠ 0 := by omega
          have hp : 0 < ei.zero.length := Nat.pos_of_ne_zero fun h => h0 (by rw [h]; simp)
          simp only [if_neg h0]
          exact tile_get h2 hk hp
        obtain ⟨c, hc1, hc2, hc3⟩ := fillRows_rel hf hzc hq
        have hlen : rs.length = len := by simpa using hc3
        refine ⟨.slice (some ⟨w.heap.size, 0, none⟩) len len, .cells c e, ?_, hc2.orel _ _ _, made_own _ _ _ _ _ _ _ (by omega) (Nat.le_refl _) (fun _ => rfl) (by rw [cellsSize_new, hc2.1, hlen]; exact Nat.le_refl _)⟩
        have h24 : ¬ (len * ei.size > 2 ^ 24) := by omega
        by_cases h0 : len * ei.size = 0
        · simp only [if_pos h0] at hc1
          simp only [Instr.buildSlice, Sem.run_bind, tyK hE ht, hd, Result.andThen, run_sizeOf' hE hee, if_neg h24, if_pos h0, Sem.run_pure, hc1, newRow, run_newObj]
          rfl
        · simp only [if_neg h0] at hc1
          simp only [Instr.buildSlice, Sem.run_bind, tyK hE ht, hd, Result.andThen, run_sizeOf' hE hee, if_neg h24, if_neg h0, h1, Sem.run_pure, hc1, newRow, run_newObj]
          rfl
      · cases hl
    · cases hl
  | makeSlice t l c =>
    rw [hop] at hl; simp only [execOp, hop]
    simp only [freshV, fMake] at hl
    split at hl
    · rename_i ei n m hei hx hy
      split at hl
      · rename_i hcond
        obtain ⟨h0, hnm, hm, hby⟩ := hcond
        cases hl
        obtain ⟨i, e, ht, hd, hee⟩ := elemT_some hei
        obtain ⟨_, info, z, hi1, hi2, hi3, hi4, hi5, hi6, hi7, hi8, hi9⟩ := hE.ty e ei hee
        obtain ⟨z', h1, h2, _⟩ := run_zeroValue' (P := P) (w := w) hE hee
        have hzz : z' = z := by
          simp only [zeroValue, Sem.run_bind, run_typeInfo (w := w) hi1, Result.andThen, hi4, Sem.run_pure, Result.ok.injEq, and_true] at h1
          exact h1.symm
        subst hzz
        have hlx := (ev1 hx).s_inv
        have hly := (ev1 hy).s_inv
        simp only [S.val] at hlx hly
        have hbm : (info.bytes : Int) * m ≤ 281474976710656 := by
          rw [hi3]
          have h1 : (ei.bytes : Int) ≤ 1024 := by omega
          have h2 : (ei.bytes : Int) * m ≤ 1024 * m := Int.mul_le_mul_of_nonneg_right h1 (by omega)
          omega
        have hr := run_make (P := P) w t e info z' (by rw [(hE.ty t i ht).1, hd]) hi1 hi4 .i64 .i64 n m h0 hnm hbm (by omega)
        rw [hi2] at hr
        refine ⟨.slice (some ⟨w.heap.size, 0, none⟩) n.toNat m.toNat, .cells (madeCells z'.cells (m.toNat * ei.size)) e, by rw [hlx, hly]; simp only [Sem.run_bind, hr, Result.andThen, Sem.run_pure], ?_, ?_⟩
        · have hz : RRel Z φ H w ei.zero.length (List.replicate m.toNat (zeroV ei.zero)) (madeCells z'.cells (m.toNat * ei.zero.length)) := by
            refine zeros_rrel (size_madeCells _ _) fun k hk => ?_
            have hp : 0 < ei.zero.length := Nat.pos_of_ne_zero fun h => by rw [h] at hk; simp at hk
            exact tile_get h2 hk hp
          rw [hi5] at hz
          obtain ⟨_, z2, z3⟩ := hz
          refine ⟨_, _, rfl, fun row hr => ?_, fun i j row x h1 h2 => ?_⟩
          · rw [List.eq_of_mem_replicate hr]; simp [zeroV, hi5]
          · have hi := lt_of_get h1
            rw [List.length_replicate] at hi
            rw [Nat.zero_add]
            refine z3 i j row x ?_ h2
            rw [List.getElem?_replicate, if_pos hi] at h1
            rw [List.getElem?_replicate, if_pos (by omega)]; exact h1
        · refine made_own _ _ _ _ _ _ _ (by simp) (by omega) (fun hc => by simp at hc; omega) (by rw [cellsSize_new, size_madeCells]; exact Nat.le_refl _)
      · cases hl
    · cases hl
  | makeMap t r =>
    rw [hop] at hl; simp only [execOp, hop]
    cases r with
    | none =>
      simp only [freshV] at hl; cases hl
      refine ⟨_, .map #[] 0, by simp only [Instr.makeMap, Option.map_none, Sem.run_bind, Sem.run_pure, Result.andThen, run_newObj]; rfl, ⟨#[], 0, rfl, rfl, rfl, fun i k x e h => by simp at h⟩, made_map _ _ _⟩
    | some _ => simp [freshV] at hl
  | _ => rw [hop] at hl; simp [freshV] at hl
end Go.Vm
/- append, as it runs. -/
set_option linter.unusedVariables false
set_option linter.unusedSimpArgs false
set_option linter.unusedSectionVars false
namespace Go.Vm
variable [Valu]
variable {P : Program} {w w' : World}

/-- what is appended: elements of a slice, or zeros -/
inductive ASrc (P : Program) (size : Nat) (z : Value) (tx : TypeId) (x : Value) (n : Nat) (news : List Value) (w : World) : Prop
  | src (h : Src P size tx x n news w)
  | zeros (k : IntKind) (hk : P.underlying tx = some (.int k)) (hx : x = .int .i64 n) (hn : n ≤ 2 ^ 36) (hnews : news = (if n * size = 0 then #[] else Builtin.zeroCells z.cells n).toList)

theorem run_append_room2 {t tx ty e : TypeId} {i : TypeInfo} {z : Value} (ht : P.underlying t = some (.slice e)) (hi : P.info? e = some i) (hz : i.zero = some z) (hb : i.bytes ≤ 2 ^ 10)
    (base : Option Addr) (sLen sCap : Nat) (x : Value) (n : Nat) (news : List Value) (hs : ASrc P i.size z tx x n news w) (hroom : sLen + n ≤ sCap)
    (hst : ∀ a, base = some a → (storeCells (a.add (sLen * i.size)) news).run P w = .ok () w') (h0 : base = none → w' = w) :
    (Builtin.append_ #[t, tx] ty #[.slice base sLen sCap, x]).run P w = .ok (.slice base (sLen + n) sCap) w' := by
  cases hs with
  | src hs =>
    cases base with
    | none => obtain rfl := h0 rfl; rcases hs.kind with ⟨e', hk⟩ | hk <;> simp [Builtin.append_, run_underlying ht, run_underlying hk, sizeOf, typeInfo, hi, hs.len, hroom, hs.cells]
    | some a => rcases hs.kind with ⟨e', hk⟩ | hk <;> simp [Builtin.append_, run_underlying ht, run_underlying hk, sizeOf, typeInfo, hi, hs.len, hroom, hs.cells, hst a rfl]
  | zeros k hk hx hn hnews =>
    subst hx
    have wl : IntKind.i64.wrap (n : Int) = n := by rw [IntKind.wrap_i64]; omega
    have n2 : ¬ (281474976710656 < (n : Int) * (i.bytes : Int)) := by
      have : (n : Int) * (i.bytes : Int) ≤ 2 ^ 36 * 2 ^ 10 := Int.mul_le_mul (by omega) (by omega) (by omega) (by decide)
      omega
    have n1 : ¬ ((n : Int) < 0) := by omega
    by_cases h0' : n * i.size = 0
    · have hne : news = [] := by rw [hnews, if_pos h0']
      subst hne
      cases base with
      | none => obtain rfl := h0 rfl; simp [Builtin.append_, run_underlying ht, run_underlying hk, sizeOf, typeInfo, hi, asInt, asIntOf, wl, n1, n2, hroom, h0']
      | some a => have := hst a rfl; simp [Builtin.append_, run_underlying ht, run_underlying hk, sizeOf, typeInfo, hi, asInt, asIntOf, wl, n1, n2, hroom, h0', this]
    · rw [if_neg h0'] at hnews
      subst hnews
      cases base with
      | none => obtain rfl := h0 rfl; simp [Builtin.append_, run_underlying ht, run_underlying hk, sizeOf, typeInfo, hi, asInt, asIntOf, wl, n1, n2, hroom, h0', zeroValue, hz]
      | some a => have := hst a rfl; simp [Builtin.append_, run_underlying ht, run_underlying hk, sizeOf, typeInfo, hi, asInt, asIntOf, wl, n1, n2, hroom, h0', zeroValue, hz, this]

theorem run_append_grow2 {t tx ty e : TypeId} {i : TypeInfo} {z : Value} (ht : P.underlying t = some (.slice e)) (hi : P.info? e = some i) (hz : i.zero = some z) (hb : i.bytes ≤ 2 ^ 10)
    (base : Option Addr) (sLen sCap : Nat) (olds : List Value) (hold : (Builtin.firstCells i.size sLen (.slice base sLen sCap)).run P w.drew = .ok olds.toArray w.drew)
    (x : Value) (n : Nat) (news : List Value) (hs : ASrc P i.size z tx x n news w) (hg : sCap < sLen + n) (hle : sLen + n ≤ 2 ^ 36) :
    (Builtin.append_ #[t, tx] ty #[.slice base sLen sCap, x]).run P w =
      .ok (.slice (some ⟨w.heap.size, 0, none⟩) (sLen + n) (grownCap w (sLen + n) sCap e))
        (w.drew.alloc (.cells ((olds ++ news).toArray ++ Builtin.zeroCells z.cells (grownCap w (sLen + n) sCap e - (sLen + n))) e)) := by
  have hfit : Builtin.nextslicecap (sLen + n) sCap * i.bytes ≤ 281474976710656 := by
    refine growslice_fits hg ?_
    have : (sLen + n) * i.bytes ≤ 2 ^ 36 * 2 ^ 10 := Nat.mul_le_mul hle hb
    omega
  cases hs with
  | src hs => exact run_append_grow_src w t tx ty e i z ht hi hz base sLen sCap olds hold x n news hs hg (by omega) hfit
  | zeros k hk hx hn hnews =>
    subst hx
    have wl : IntKind.i64.wrap (n : Int) = n := by rw [IntKind.wrap_i64]; omega
    have n2 : ¬ (281474976710656 < (n : Int) * (i.bytes : Int)) := by
      have : (n : Int) * (i.bytes : Int) ≤ 2 ^ 36 * 2 ^ 10 := Int.mul_le_mul (by omega) (by omega) (by omega) (by decide)
      omega
    have n1 : ¬ ((n : Int) < 0) := by omega
    have hn' : ¬ (sLen + n ≤ sCap) := by omega
    have h63' : ¬ (9223372036854775807 < ((sLen : Int) + (n : Int))) := by omega
    have h48' : ¬ (281474976710656 < Builtin.nextslicecap (sLen + n) sCap * i.bytes) := by omega
    by_cases h0' : n * i.size = 0
    · have hne : news = [] := by rw [hnews, if_pos h0']
      subst hne
      simp [Builtin.append_, run_underlying ht, run_underlying hk, sizeOf, typeInfo, zeroValue, hi, hz, asInt, asIntOf, wl, n1, n2, hn', h63', h48', Question.forced, h0', hold, newRow, grownCap]
    · rw [if_neg h0'] at hnews
      subst hnews
      simp [Builtin.append_, run_underlying ht, run_underlying hk, sizeOf, typeInfo, zeroValue, hi, hz, asInt, asIntOf, wl, n1, n2, hn', h63', h48', Question.forced, h0', hold, newRow, grownCap]
      congr 2
      apply Array.ext'
      simp [List.append_assoc]
end Go.Vm
/- append -/
set_option linter.unusedVariables false
set_option linter.unusedSimpArgs false
set_option linter.unusedSectionVars false
namespace Go.Vm
variable [Valu]
variable {P : Program} {E : Env} {Z : Nat → Prop} {φ φ' : Phi} {H H' : Heap} {w w' : World}

/-- the outcome of an operation that writes -/
def WOk (P : Program) (Z : Nat → Prop) (φ : Phi) (H : Heap) (w : World) (s : Sem Value) (v : V) (H' : Heap) : Prop :=
  ∃ x w' φ', s.run P w = .ok x w' ∧ VRel Z φ' H' w' v x ∧ HRel Z φ' H' w' ∧ Ext Z φ H w φ' H' w'

theorem range_get {f : Nat → Value} {n k : Nat} {u : Value} (h : ((List.range n).map f)[k]? = some u) : k < n ∧ u = f k := by
  simp only [List.getElem?_map, Option.map_eq_some_iff] at h
  obtain ⟨k', h1, rfl⟩ := h
  have hkn : k < n := by have := lt_of_get h1; simpa using this
  rw [List.getElem?_range hkn] at h1; cases h1
  exact ⟨hkn, rfl⟩
theorem get_range {f : Nat → Value} {n k : Nat} (h : k < n) : ((List.range n).map f)[k]? = some (f k) := by
  rw [List.getElem?_map, List.getElem?_range h]; rfl
theorem flat_lt {i j n wd : Nat} (hi : i < n) (hj : j < wd) : i * wd + j < n * wd := by
  have : (i + 1) * wd ≤ n * wd := Nat.mul_le_mul_right _ hi
  rw [Nat.add_mul] at this; omega
theorem fsRow {wd : Nat} {rs : List (List F)} {r o : Nat} {g : Nat → Nat → Value} (hw : ∀ row ∈ rs, row.length = wd)
    (hg : ∀ (i j : Nat) row c, rs[i]? = some row → row[j]? = some c → w.cell? ⟨r, o + (i * wd + j), none⟩ = some (g i j))
    (h : ∀ (i j : Nat) row c, rs[i]? = some row → row[j]? = some c → FRel w (stable Z φ H w) c (g i j)) :
    ∃ news : List Value, RRel Z φ H w wd (rs.map fun r => r.map .fz) news.toArray ∧ ∀ (j : Nat) u, news[j]? = some u → w.cell? ⟨r, o + j, none⟩ = some u := by
  have hget : ∀ i j, i < rs.length → j < wd → ∃ row c, rs[i]? = some row ∧ row[j]? = some c := by
    intro i j hi hj
    have hrow : (rs[i]).length = wd := hw _ (List.getElem_mem hi)
    exact ⟨rs[i], (rs[i])[j]'(by omega), by simp [hi], by simp [show j < (rs[i]).length by omega]⟩
  refine ⟨(List.range (rs.length * wd)).map fun k => g (k / wd) (k % wd), ⟨by simp, fun row hr => ?_, fun i j row x h1 h2 => ?_⟩, fun k u hk => ?_⟩
  · obtain ⟨row', hm, rfl⟩ := List.mem_map.1 hr
    simpa using hw row' hm
  · simp only [List.getElem?_map, Option.map_eq_some_iff] at h1
    obtain ⟨row', h3, rfl⟩ := h1
    simp only [List.getElem?_map, Option.map_eq_some_iff] at h2
    obtain ⟨c, h4, rfl⟩ := h2
    have hj : j < wd := by rw [← hw row' (List.mem_of_getElem? h3)]; exact lt_of_get h4
    have hi := lt_of_get h3
    refine ⟨g i j, ?_, .fz _ _ (h i j row' c h3 h4)⟩
    rw [List.getElem?_toArray, get_range (flat_lt hi hj)]
    have h5 : (i * wd + j) / wd = i := by rw [Nat.mul_comm, Nat.mul_add_div (by omega), Nat.div_eq_of_lt hj]; rfl
    have h6 : (i * wd + j) % wd = j := by rw [Nat.mul_comm, Nat.mul_add_mod, Nat.mod_eq_of_lt hj]
    rw [h5, h6]
  · obtain ⟨hkn, rfl⟩ := range_get hk
    have hwd : 0 < wd := Nat.pos_of_ne_zero fun h0 => by subst h0; simp at hkn
    have hi : k / wd < rs.length := by rw [Nat.div_lt_iff_lt_mul hwd]; exact hkn
    have hj : k % wd < wd := Nat.mod_lt _ hwd
    obtain ⟨row, c, h1, h2⟩ := hget _ _ hi hj
    have := hg _ _ row c h1 h2
    rwa [Nat.div_add_mod' k wd] at this

/-- the elements of a slice, in cells -/
theorem rowsOf_rel (h : HRel Z φ H w) {x : V} {a : Value} (hx : VRel Z φ H w x a) {wd : Nat} {rs : List (List V)} (hr : rowsOf H x = some (wd, rs)) :
    ∃ ad cap, ∃ news : List Value, a = .slice (some ad) rs.length cap ∧ rs.length ≤ cap ∧ lenV x = some rs.length ∧ RRel Z φ H w wd rs news.toArray ∧ ∀ (j : Nat) u, news[j]? = some u → w.cell? (ad.add j) = some u := by
  have hrow : ∀ {wd : Nat} {rs : List (List F)} {a : Value}, FRel w (stable Z φ H w) (.row wd rs) a → ∃ ad cap, ∃ news : List Value, a = .slice (some ad) rs.length cap ∧ rs.length ≤ cap ∧ RRel Z φ H w wd (rs.map fun r => r.map .fz) news.toArray ∧ ∀ (j : Nat) u, news[j]? = some u → w.cell? (ad.add j) = some u := by
    intro wd rs a hf
    cases hf with
    | row _ _ ad cap r o g hc ha hw hg hh =>
      obtain ⟨news, h1, h2⟩ := fsRow hw hg hh
      refine ⟨ad, cap, news, rfl, hc, h1, fun j u hj => ?_⟩
      have hne : rs ≠ [] := by
        rintro rfl
        have := h1.1; simp at this; subst this; simp at hj
      obtain ⟨rfl, _⟩ := ha hne
      rw [add_none]; exact h2 j u hj
  unfold rowsOf at hr
  split at hr
  · rename_i b ver lo len clip
    split at hr
    · rename_i fr wd' rs' hm
      have hm := memAt_some hm
      split at hr
      · rename_i hle
        cases hr
        cases hx with
        | own _ _ _ _ _ _ hv hb hh =>
          obtain ⟨r, o, ad, cap, hφ, rfl, q1, q2, q3, q4, q5⟩ := (hh ver fr wd rs' hm).2 rfl
          obtain ⟨ob, hob, c, e, rfl, hwd, hcells⟩ := h.blk b _ r o hm hφ
          have hlen : ((rs'.drop lo).take len).length = len := by rw [List.length_take, List.length_drop]; omega
          have hget : ∀ i : Nat, i < len → ((rs'.drop lo).take len)[i]? = rs'[lo + i]? := fun i hi => by rw [List.getElem?_take, if_pos hi, List.getElem?_drop]
          have hcs : o + (lo + cap) * wd ≤ c.size := by simpa [cellsSize, hob] using q5
          refine ⟨ad, cap, (List.range (len * wd)).map fun k => (c[o + (lo * wd + k)]?).getD undef, by rw [hlen], by rw [hlen]; exact q1, by rw [hlen]; rfl, ⟨by simp [hlen], fun row hr => hwd row (List.mem_of_mem_drop (List.mem_of_mem_take hr)), fun i j row x h1 h2 => ?_⟩, fun k u hk => ?_⟩
          · have hi : i < len := by rw [← hlen]; exact lt_of_get h1
            rw [hget i hi] at h1
            have hj : j < wd := by rw [← hwd row (List.mem_of_getElem? h1)]; exact lt_of_get h2
            obtain ⟨v, h3, h4⟩ := hcells (lo + i) j row x h1 h2
            refine ⟨v, ?_, h4⟩
            rw [List.getElem?_toArray, get_range (flat_lt hi hj)]
            rw [show o + (lo * wd + (i * wd + j)) = o + ((lo + i) * wd + j) by rw [Nat.add_mul]; omega, h3]; rfl
          · obtain ⟨hkn, rfl⟩ := range_get hk
            have hwd0 : 0 < wd := Nat.pos_of_ne_zero fun h0 => by subst h0; simp at hkn
            have hlen0 : 0 < len := Nat.pos_of_ne_zero fun h0 => by subst h0; simp at hkn
            rw [q3 (by omega), add_none]
            have hlt : o + (lo * wd + k) < c.size := by
              have : (lo + len) * wd ≤ (lo + cap) * wd := Nat.mul_le_mul_right _ (by omega)
              rw [Nat.add_mul] at this; omega
            simp only [World.cell?, hob]
            rw [show o + lo * wd + k = o + (lo * wd + k) by omega]
            simp [hlt]
      · cases hr
    · cases hr
  · cases hr
    obtain ⟨ad, cap, news, h1, h2, h3, h4⟩ := hrow hx.fz_inv
    exact ⟨ad, cap, news, by simpa using h1, by simpa using h2, by simp [lenV], h3, h4⟩
  · cases hr
    cases hx with
    | cl _ _ ad hf =>
      obtain ⟨ad', cap, news, h1, h2, h3, h4⟩ := hrow hf
      exact ⟨ad', cap, news, by simpa using h1, by simpa using h2, by simp [lenV], h3, h4⟩
  · cases hr

theorem RRel.append {wd : Nat} {rs rs' : List (List V)} {l l' : List Value} (h : RRel Z φ H w wd rs l.toArray) (h' : RRel Z φ H w wd rs' l'.toArray) : RRel Z φ H w wd (rs ++ rs') (l ++ l').toArray := by
  obtain ⟨a1, a2, a3⟩ := h
  obtain ⟨b1, b2, b3⟩ := h'
  have e1 : l.length = rs.length * wd := by simpa using a1
  refine ⟨by simp at b1 ⊢; rw [e1, b1, Nat.add_mul], fun row hr => ?_, fun i j row x h1 h2 => ?_⟩
  · rcases List.mem_append.1 hr with h | h
    · exact a2 row h
    · exact b2 row h
  · by_cases hi : i < rs.length
    · rw [List.getElem?_append_left hi] at h1
      obtain ⟨v, h3, h4⟩ := a3 i j row x h1 h2
      have hj : j < wd := by rw [← a2 row (List.mem_of_getElem? h1)]; exact lt_of_get h2
      refine ⟨v, ?_, h4⟩
      rw [List.getElem?_toArray] at h3 ⊢
      rw [List.getElem?_append_left (by rw [e1]; exact flat_lt hi hj)]; exact h3
    · rw [List.getElem?_append_right (by omega)] at h1
      obtain ⟨v, h3, h4⟩ := b3 _ j row x h1 h2
      refine ⟨v, ?_, h4⟩
      rw [List.getElem?_toArray] at h3 ⊢
      have : rs.length * wd ≤ i * wd := Nat.mul_le_mul_right _ (by omega)
      rw [List.getElem?_append_right (by omega), e1, show i * wd + j - rs.length * wd = (i - rs.length) * wd + j by rw [Nat.sub_mul]; omega]; exact h3
theorem RRel.ext (e : Ext Z φ H w φ' H' w') {wd : Nat} {rs : List (List V)} {c : Array Value} (h : RRel Z φ H w wd rs c) : RRel Z φ' H' w' wd rs c :=
  ⟨h.1, h.2.1, fun i j row x h1 h2 => let ⟨v, a, b⟩ := h.2.2 i j row x h1 h2; ⟨v, a, b.ext e⟩⟩
theorem RRel.nil {wd : Nat} : RRel Z φ H w wd [] ([] : List Value).toArray := ⟨by simp, fun _ h => by simp at h, fun i j row x h => by simp at h⟩
theorem RRel.behind {wd : Nat} {rs : List (List V)} {l : List Value} (h : RRel Z φ H w wd rs l.toArray) (c : Array Value) (e : TypeId) (ver : Nat) (fr : Bool) : ORel Z φ H w 0 (.mem ver fr wd rs) (.cells (l.toArray ++ c) e (0, 0)) := by
  refine ⟨_, e, rfl, h.2.1, fun i j row x h1 h2 => ?_⟩
  obtain ⟨v, h3, h4⟩ := h.2.2 i j row x h1 h2
  refine ⟨v, ?_, h4⟩
  rw [Nat.zero_add, Array.getElem?_append_left (Array.getElem?_eq_some_iff.1 h3).1]; exact h3

theorem drew_ext (h : HRel Z φ H w) : HRel Z φ H w.drew ∧ Ext Z φ H w φ H w.drew := ⟨h.sameHeap rfl rfl rfl rfl, .sameHeap rfl rfl rfl rfl⟩
theorem cells_drew {ad : Addr} {news : List Value} (h : ∀ (j : Nat) u, news[j]? = some u → w.cell? (ad.add j) = some u) : ∀ (j : Nat) u, news[j]? = some u → w.drew.cell? (ad.add j) = some u := h

/-- behind a draw, a block that holds old and new -/
theorem grown_fresh (h : HRel Z φ H w) {wd n cap : Nat} {rs : List (List V)} {l : List Value} (hr : RRel Z φ H w wd rs l.toArray) (hn : rs.length = n) (hc : n ≤ cap) (z : Array Value) (hz : z.size = wd) (e : TypeId) :
    VRel Z (upd φ H.length (w.heap.size, 0)) (H ++ [.mem 0 false wd rs]) (w.drew.alloc (.cells (l.toArray ++ Builtin.zeroCells z (cap - n)) e)) (.own H.length 0 0 rs.length false) (.slice (some ⟨w.heap.size, 0, none⟩) n cap) ∧
    HRel Z (upd φ H.length (w.heap.size, 0)) (H ++ [.mem 0 false wd rs]) (w.drew.alloc (.cells (l.toArray ++ Builtin.zeroCells z (cap - n)) e)) ∧
    Ext Z φ H w (upd φ H.length (w.heap.size, 0)) (H ++ [.mem 0 false wd rs]) (w.drew.alloc (.cells (l.toArray ++ Builtin.zeroCells z (cap - n)) e)) := by
  obtain ⟨h1, e1⟩ := drew_ext h
  have hr1 := (hr.ext e1).behind (Builtin.zeroCells z (cap - n)) e 0 false
  have hf := h1.fresh (.mem 0 false wd rs) _ hr1
  have he := Ext.fresh h1 (.mem 0 false wd rs) (.cells (l.toArray ++ Builtin.zeroCells z (cap - n)) e)
  refine ⟨?_, hf, e1.trans he⟩
  subst hn
  have hsz : l.length = rs.length * wd := by have := hr.1; simpa using this
  refine made_own (w := w.drew) H.length wd rs.length cap false rs (.cells (l.toArray ++ Builtin.zeroCells z (cap - rs.length)) e) (Nat.le_refl _) hc (by simp) ?_ Z _ _ _ (by simp) fun B' hB' => ?_
  · rw [cellsSize_new]
    simp only [Array.size_append, List.size_toArray, hsz, size_zeroCells, hz]
    rw [← Nat.add_mul]; exact Nat.mul_le_mul_right _ (by omega)
  · simp at hB'; subst hB'
    exact Blk.to_refl _ ⟨by rw [upd_same]; rfl, rfl⟩
end Go.Vm
/- append, both arms; stores. -/
set_option linter.unusedVariables false
set_option linter.unusedSimpArgs false
set_option linter.unusedSectionVars false
namespace Go.Vm
variable [Valu]
variable {P : Program} {E : Env} {Z : Nat → Prop} {φ φ' : Phi} {H H' : Heap} {w w' : World}

theorem ctx_elem (hE : EnvOk P E) {e : TypeId} {ei : TyI} (hee : E.ty e = some ei) : ∃ info z, P.info? e = some info ∧ info.zero = some z ∧ info.size = ei.size ∧ info.bytes = ei.bytes ∧ z.cells.size = ei.size ∧ z.cells.toList = ei.zero.map S.val ∧ ei.zero.length = ei.size ∧ (∀ u ∈ z.cells.toList, u.oneCell' = true) := by
  obtain ⟨_, info, z, hi1, hi2, hi3, hi4, hi5, hi6, hi7, hi8, hi9⟩ := hE.ty e ei hee
  obtain ⟨z', h1, h2, _⟩ := run_zeroValue' (P := P) (w := (default : World)) hE hee
  have hzz : z' = z := by
    simp only [zeroValue, Sem.run_bind, run_typeInfo (w := (default : World)) hi1, Result.andThen, hi4, Sem.run_pure, Result.ok.injEq, and_true] at h1
    exact h1.symm
  subst hzz
  refine ⟨info, z', hi1, hi4, hi2, hi3, ?_, h2, hi5, fun u hu => ?_⟩
  · have := congrArg List.length h2; simpa [hi5] using this
  · rw [h2] at hu
    obtain ⟨s, hs, rfl⟩ := List.mem_map.1 hu
    have := hi9 s hs
    cases s with
    | sym i => rcases Valu.plain i with ⟨k, n, h⟩ | ⟨s, h⟩ | ⟨b, h⟩ <;> simp [S.val, h, Value.oneCell']
    | _ => simp_all [S.val, Value.oneCell']

theorem appendV_ok (hE : EnvOk P E) (h : HRel Z φ H w) {t tx ty e : TypeId} {ti ei : TyI} (ht : E.ty t = some ti) (hd : ti.desc = .slice e) (hee : E.ty e = some ei) {info : TypeInfo} {z : Value} (hi1 : P.info? e = some info) (hi4 : info.zero = some z)
    {sv v : V} {s x : Value} (hsv : VRel Z φ H w sv s) {new : List (List V)} {news : List Value} (hnew : RRel Z φ H w ei.size new news.toArray) (hone : ∀ u ∈ news, u.oneCell' = true)
    (hsrc : ASrc P info.size z tx x new.length news w) {len : Nat} (hlen : lenV sv = some len) (hroom : roomy (len + new.length) ei.bytes = true) (hl : appendV H ei.size sv new = some (v, H')) :
    WOk P Z φ H w (Builtin.append_ #[t, tx] ty #[s, x]) v H' := by
  obtain ⟨info', z', hj1, hj4, hsz, hby, hzs, _, _, _⟩ := ctx_elem hE hee
  rw [hi1] at hj1; cases hj1
  rw [hi4] at hj4; cases hj4
  have htt : P.underlying t = some (.slice e) := by rw [(hE.ty t ti ht).1, hd]
  simp only [roomy, Bool.and_eq_true, decide_eq_true_eq] at hroom
  obtain ⟨hle36, hb10⟩ := hroom
  have hb10' : info.bytes ≤ 2 ^ 10 := by rw [hby]; exact hb10
  -- a new block
  have hfresh : ∀ (base : Option Addr) (n cap : Nat) (old : List (List V)) (olds : List Value), s = .slice base n cap → old.length = n → RRel Z φ H w ei.size old olds.toArray →
      (Builtin.firstCells info.size n (.slice base n cap)).run P w.drew = .ok olds.toArray w.drew → cap < n + new.length → n = len →
      (bif (old ++ new).all (fun r => r.length == ei.size) then some (V.own H.length 0 0 (old ++ new).length false, H ++ [.mem 0 false ei.size (old ++ new)]) else none) = some (v, H') →
      WOk P Z φ H w (Builtin.append_ #[t, tx] ty #[s, x]) v H' := by
    intro base n cap old olds hs hn hold hfc hg hnl hv
    cases hall : (old ++ new).all (fun r => r.length == ei.size) with
    | false => rw [hall] at hv; cases hv
    | true =>
      rw [hall, cond_true] at hv; cases hv
      subst hs
      have hr := run_append_grow2 (ty := ty) htt hi1 hi4 hb10' base n cap olds hfc x new.length news hsrc hg (by omega)
      have hge := grownCap_ge w (n + new.length) cap e
      obtain ⟨a1, a2, a3⟩ := grown_fresh h (hold.append hnew) (n := n + new.length) (by simp [hn]) hge z.cells hzs e
      exact ⟨_, _, _, hr, a1, a2, a3⟩
  unfold appendV at hl
  simp only at hl
  split at hl
  · -- nothing
    rename_i hne
    have hne : new = [] := by simpa using hne
    subst hne
    have hnews : news = [] := by
      have := hnew.1; simp at this; exact this
    subst hnews
    have hval : ∃ ao cap, s = .slice ao len cap ∧ len ≤ cap := by
      refine lenV_rel hlen hsv fun st hst => ?_
      subst hst; simp at hl
    have hvh : v = sv ∧ H' = H := by
      split at hl <;> first | (cases hl; exact ⟨rfl, rfl⟩) | cases hl
    obtain ⟨rfl, rfl⟩ := hvh
    obtain ⟨ao, cap, rfl, hcap⟩ := hval
    have hr := run_append_room2 (w' := w) (ty := ty) htt hi1 hi4 hb10' ao len cap x 0 [] hsrc (by omega) (fun a _ => rfl) (fun _ => rfl)
    exact ⟨_, w, φ, hr, hsv, h, .refl _ _ _ _⟩
  · rename_i hne
    have hpos : 0 < new.length := by
      cases new with
      | nil => simp at hne
      | cons _ _ => simp
    split at hl
    · -- nil
      have := hsv.s_inv; subst this
      simp only [lenV, Option.some.injEq] at hlen
      subst hlen
      refine hfresh none 0 0 [] [] rfl rfl .nil (run_firstCells_none w.drew _ 0 0 0) (by omega) rfl ?_
      rw [← hl]; simp only [List.nil_append]; cases (new.all fun r => r.length == ei.size) <;> rfl
    · rename_i wd rs
      split at hl
      · rename_i hwd
        subst hwd
        obtain ⟨ad, cap, olds, h1, h2, h3, h4, h5⟩ := rowsOf_rel h hsv (rs := rs.map fun r => r.map .fz) rfl
        have hcap : cap = rs.length := by
          cases hsv with
          | cl => simp only [Value.slice.injEq] at h1; omega
        rw [List.length_map] at h1 h3
        rw [hlen] at h3; cases h3
        refine hfresh (some ad) rs.length cap _ olds h1 (by simp) h4 ?_ (by omega) rfl ?_
        · refine run_firstCells_some (P := P) w.drew info.size rs.length ad rs.length cap olds ?_ (cells_drew h5)
          have := h4.1; simpa [hsz] using this
        · rw [← hl]; cases ((rs.map fun r => r.map V.fz) ++ new).all fun r => r.length == ei.size <;> rfl
      · cases hl
    · rename_i b ver lo n clip
      split at hl
      · rename_i v0 fr wd rs hb
        split at hl
        · rename_i hcond
          obtain ⟨rfl, rfl, hle⟩ := hcond
          simp only [lenV, Option.some.injEq] at hlen; subst hlen
          have hro : rowsOf H (.own b v0 lo n clip) = some (ei.size, (rs.drop lo).take n) := by
            simp [rowsOf, memAt, hb, hle]
          obtain ⟨ad, cap, olds, h1, h2, h3, h4, h5⟩ := rowsOf_rel h hsv hro
          have hlr : ((rs.drop lo).take n).length = n := by rw [List.length_take, List.length_drop]; omega
          rw [hlr] at h1 h2
          have hfc : (Builtin.firstCells info.size n (.slice (some ad) n cap)).run P w.drew = .ok olds.toArray w.drew := by
            refine run_firstCells_some (P := P) w.drew info.size n ad n cap olds ?_ (cells_drew h5)
            have := h4.1; simpa [hsz, hlr] using this
          split at hl
          · rename_i hclip
            have hcap : cap = n := by
              cases hsv with
              | own _ _ _ _ _ _ hv =>
                obtain ⟨_, m, hvm, _, hc⟩ := hv
                rw [h1] at hvm; cases hvm; exact hc hclip
            refine hfresh (some ad) n cap _ olds h1 hlr h4 hfc (by omega) rfl ?_
            rw [← hl]; cases (((rs.drop lo).take n) ++ new).all fun r => r.length == ei.size <;> rfl
          · split at hl
            · rename_i hfr
              cases hl
              simp only [Bool.and_eq_true, Bool.not_eq_true'] at hfr
              obtain ⟨rfl, hall⟩ := hfr
              subst h1
              cases hsv with
              | own _ _ _ _ _ _ hv hbl hh =>
                obtain ⟨r, o, a', cap', hφ, he, q1, q2, q3, q4, q5⟩ := (hh v0 false ei.size rs hb).2 rfl
                simp only [Value.slice.injEq, Option.some.injEq, true_and] at he
                obtain ⟨rfl, rfl⟩ := he
                obtain ⟨ob, hob, c, et, rfl, hwd, hcells⟩ := h.blk b _ r o hb hφ
                have hcs : o + (lo + cap) * ei.size ≤ c.size := by simpa [cellsSize, hob] using q5
                have hnl : news.length = new.length * ei.size := by have := hnew.1; simpa using this
                have hboth := h4.append hnew
                by_cases hgr : n + new.length ≤ cap
                · -- there is room
                  have had := q3 (by omega)
                  subst had
                  have hbound : o + lo * ei.size + n * ei.size + 0 + news.length ≤ c.size := by
                    have : (lo + (n + new.length)) * ei.size ≤ (lo + cap) * ei.size := Nat.mul_le_mul_right _ (by omega)
                    rw [Nat.add_mul, Nat.add_mul] at this; omega
                  have hst := run_storeCells_at P r (o + lo * ei.size + n * ei.size) et news 0 c w hob hbound hone
                  have hr := run_append_room2 (ty := ty) htt hi1 hi4 hb10' (some ⟨r, o + lo * ei.size, none⟩) n cap x new.length news hsrc hgr
                    (fun a ha => by cases ha; rw [hsz, add_none]; exact hst) (fun hn => by cases hn)
                  have hcl : (c.toList.take (o + lo * ei.size + n * ei.size + 0) ++ news ++ c.toList.drop (o + lo * ei.size + n * ei.size + 0 + news.length)).length = c.size := by
                    simp only [List.length_append, List.length_take, List.length_drop, Array.length_toList]; omega
                  have hget : ∀ k : Nat, (c.toList.take (o + lo * ei.size + n * ei.size + 0) ++ news ++ c.toList.drop (o + lo * ei.size + n * ei.size + 0 + news.length)).toArray[k]? = if k < o + lo * ei.size + n * ei.size then c[k]? else if k < o + lo * ei.size + n * ei.size + news.length then news[k - (o + lo * ei.size + n * ei.size)]? else c[k]? := by
                    intro k
                    rw [List.getElem?_toArray, seg_get (by simp; omega)]
                    simp
                  obtain ⟨a1, a2⟩ := mem_written (v' := v0 + 1) (o' := o + lo * ei.size) (rs' := (rs.drop lo).take n ++ new) (c' := (c.toList.take (o + lo * ei.size + n * ei.size + 0) ++ news ++ c.toList.drop (o + lo * ei.size + n * ei.size + 0 + news.length)).toArray) h hb hφ hob (by rw [List.size_toArray]; exact hcl) (.inr (Nat.lt_succ_self _))
                    (fun row hr => hboth.2.1 row hr) (fun i j row x h6 h7 => by
                      rw [hget]
                      by_cases hi : i < n
                      · rw [List.getElem?_append_left (by omega)] at h6
                        have h6' : rs[lo + i]? = some row := by rw [List.getElem?_take, if_pos hi, List.getElem?_drop] at h6; exact h6
                        have hj : j < ei.size := by rw [← hwd row (List.mem_of_getElem? h6')]; exact lt_of_get h7
                        obtain ⟨u, h8, h9⟩ := hcells (lo + i) j row x h6' h7
                        have := flat_lt (n := n) hi hj
                        refine ⟨u, ?_, h9⟩
                        rw [if_pos (by omega), show o + lo * ei.size + (i * ei.size + j) = o + ((lo + i) * ei.size + j) by rw [Nat.add_mul]; omega]; exact h8
                      · rw [List.getElem?_append_right (by omega), hlr] at h6
                        obtain ⟨u, h8, h9⟩ := hnew.2.2 _ j row x h6 h7
                        have hi2 := lt_of_get h6
                        have hj : j < ei.size := by rw [← hnew.2.1 row (List.mem_of_getElem? h6)]; exact lt_of_get h7
                        have := flat_lt (n := new.length) hi2 hj
                        have hsplit : i * ei.size = n * ei.size + (i - n) * ei.size := by rw [← Nat.add_mul]; congr 1; omega
                        refine ⟨u, ?_, h9⟩
                        rw [if_neg (by omega), if_pos (by omega), show o + lo * ei.size + (i * ei.size + j) - (o + lo * ei.size + n * ei.size) = (i - n) * ei.size + j by omega]
                        rw [List.getElem?_toArray] at h8; exact h8)
                  refine ⟨_, _, _, hr, ?_, a1, a2⟩
                  refine .own _ _ _ _ _ _ ⟨_, _, rfl, hgr, by simp⟩ (by simpa using hbl) fun v1 fr1 wd1 rs1 hm1 => ?_
                  rw [List.getElem?_set_self hbl] at hm1; cases hm1
                  refine ⟨Nat.le_refl _, fun _ => ⟨r, o + lo * ei.size, _, cap, upd_same _ _ _, rfl, hgr, by simp, fun _ => by simp, by simp [hlr], ?_⟩⟩
                  have hcz : cellsSize (w.setRow r (c.toList.take (o + lo * ei.size + n * ei.size + 0) ++ news ++ c.toList.drop (o + lo * ei.size + n * ei.size + 0 + news.length)).toArray) r = c.size := by
                    unfold cellsSize; rw [setRow_get hob]; exact hcl
                  rw [hcz, Nat.zero_add]
                  rw [Nat.add_mul] at hcs; omega
                · -- there is none
                  have hr := run_append_grow2 (ty := ty) htt hi1 hi4 hb10' (some ad) n cap olds hfc x new.length news hsrc (by omega) hle36
                  have hge := grownCap_ge w (n + new.length) cap e
                  obtain ⟨hd1, he1⟩ := drew_ext h
                  have hobd : w.drew.heap[r]? = some (.cells c et (0, 0)) := hob
                  obtain ⟨a1, a2⟩ := mem_moved (v' := v0 + 1) (rs' := (rs.drop lo).take n ++ new) (c' := (olds ++ news).toArray ++ Builtin.zeroCells z.cells (grownCap w (n + new.length) cap e - (n + new.length))) (e := e)
                    hd1 hb hφ (Nat.lt_succ_self _) (fun row hr => hboth.2.1 row hr) (fun i j row x h6 h7 => by
                      obtain ⟨u, h8, h9⟩ := hboth.2.2 i j row x h6 h7
                      refine ⟨u, ?_, h9.ext he1⟩
                      rw [Array.getElem?_append_left (Array.getElem?_eq_some_iff.1 h8).1]; exact h8)
                  refine ⟨_, _, _, hr, ?_, a1, he1.trans a2⟩
                  refine .own _ _ _ _ _ _ ⟨_, _, rfl, hge, by simp⟩ (by simpa using hbl) fun v1 fr1 wd1 rs1 hm1 => ?_
                  rw [List.getElem?_set_self hbl] at hm1; cases hm1
                  refine ⟨Nat.le_refl _, fun _ => ⟨w.heap.size, 0, _, grownCap w (n + new.length) cap e, upd_same _ _ _, rfl, hge, by simp, fun _ => by simp, by simp [hlr], ?_⟩⟩
                  have hcz : cellsSize (w.drew.alloc (.cells ((olds ++ news).toArray ++ Builtin.zeroCells z.cells (grownCap w (n + new.length) cap e - (n + new.length))) e)) w.heap.size = ((olds ++ news).toArray ++ Builtin.zeroCells z.cells (grownCap w (n + new.length) cap e - (n + new.length))).size := cellsSize_new (w := w.drew) _ _ _
                  rw [hcz]
                  have hol : olds.length = n * ei.size := by have := h4.1; simpa [hlr] using this
                  simp only [Array.size_append, List.size_toArray, List.length_append, hol, hnl, size_zeroCells, hzs]
                  simp only [Nat.zero_add]
                  rw [← Nat.add_mul, ← Nat.add_mul]; exact Nat.mul_le_mul_right ei.size (show grownCap w (n + new.length) cap e ≤ n + new.length + (grownCap w (n + new.length) cap e - (n + new.length)) by omega)
            · cases hl
        · cases hl
      · cases hl
    · cases hl
end Go.Vm
/- stores, maps; all operations that write -/
set_option linter.unusedVariables false
set_option linter.unusedSimpArgs false
set_option linter.unusedSectionVars false
namespace Go.Vm
variable [Valu]
variable {P : Program} {E : Env} {Z : Nat → Prop} {φ φ' : Phi} {H H' : Heap} {w w' : World}

theorem storeC_ok (h : HRel Z φ H w) {av : V} {x : Value} (hv : VRel Z φ H w av x) {cs : List V} {vs : List Value} (hc : LRel Z φ H w cs vs) (hone : ∀ u ∈ vs, u.oneCell' = true) (hl : storeC H av cs = some H') :
    ∃ ad w', x = .pointer (some ad) ∧ (storeCells ad vs).run P w = .ok () w' ∧ HRel Z φ H' w' ∧ Ext Z φ H w φ H' w' := by
  unfold storeC at hl
  split at hl
  · rename_i b ver i j
    split at hl
    · rename_i v wd rs hb
      split at hl
      · rename_i hver; subst hver
        split at hl
        · rename_i row hrow
          split at hl
          · rename_i hle
            obtain ⟨hpos, hle⟩ := hle
            cases hl
            cases hv with
            | ptr _ _ _ _ _ ho hbl hh =>
              obtain ⟨r, o, hφ, rfl⟩ := (hh v false wd rs hb).2 rfl
              obtain ⟨ob, hob, c, e, rfl, hwd, hcells⟩ := h.blk b _ r o hb hφ
              have hlv : vs.length = cs.length := hc.1.symm
              have hrw := hwd row (List.mem_of_getElem? hrow)
              have hbound : o + (i * wd + j) + 0 + vs.length ≤ c.size := by
                obtain ⟨u, h1, _⟩ := hcells i (j + cs.length - 1) row row[j + cs.length - 1] hrow (by rw [List.getElem?_eq_getElem])
                have := (Array.getElem?_eq_some_iff.1 h1).1
                omega
              have hst := run_storeCells_at P r (o + (i * wd + j)) e vs 0 c w hob hbound hone
              refine ⟨_, _, rfl, hst, ?_⟩
              have hcl : (c.toList.take (o + (i * wd + j) + 0) ++ vs ++ c.toList.drop (o + (i * wd + j) + 0 + vs.length)).length = c.size := by
                simp only [List.length_append, List.length_take, List.length_drop, Array.length_toList]; omega
              have hget : ∀ k : Nat, (c.toList.take (o + (i * wd + j) + 0) ++ vs ++ c.toList.drop (o + (i * wd + j) + 0 + vs.length)).toArray[k]? = if k < o + (i * wd + j) then c[k]? else if k < o + (i * wd + j) + vs.length then vs[k - (o + (i * wd + j))]? else c[k]? := by
                intro k
                rw [List.getElem?_toArray, seg_get (by simp; omega)]
                simp
              have hi := lt_of_get hrow
              have hlr : (row.take j ++ cs ++ row.drop (j + cs.length)).length = wd := by
                simp only [List.length_append, List.length_take, List.length_drop]; omega
              have := mem_written (v' := v) (o' := o) (rs' := rs.set i (row.take j ++ cs ++ row.drop (j + cs.length))) (c' := (c.toList.take (o + (i * wd + j) + 0) ++ vs ++ c.toList.drop (o + (i * wd + j) + 0 + vs.length)).toArray)
                h hb hφ hob (by rw [List.size_toArray]; exact hcl) (.inl ⟨rfl, rfl, by simp⟩) (fun row' hr => by
                  rcases List.mem_or_eq_of_mem_set hr with h | h
                  · exact hwd row' h
                  · rw [h]; exact hlr) (fun i' j' row' x h1 h2 => by
                  rw [hget]
                  by_cases hii : i' = i
                  · subst hii
                    rw [List.getElem?_set_self hi] at h1; cases h1
                    have hj' : j' < wd := by rw [← hlr]; exact lt_of_get h2
                    rw [seg_get (by omega)] at h2
                    by_cases c1 : j' < j
                    · rw [if_pos c1] at h2
                      obtain ⟨u, h3, h4⟩ := hcells i' j' row x hrow h2
                      exact ⟨u, by rw [if_pos (by omega)]; exact h3, h4⟩
                    · rw [if_neg c1] at h2
                      by_cases c2 : j' < j + cs.length
                      · rw [if_pos c2] at h2
                        obtain ⟨u, h3, h4⟩ := hc.get h2
                        exact ⟨u, by rw [if_neg (by omega), if_pos (by omega), show o + (i' * wd + j') - (o + (i' * wd + j)) = j' - j by omega]; exact h3, h4⟩
                      · rw [if_neg c2] at h2
                        obtain ⟨u, h3, h4⟩ := hcells i' j' row x hrow h2
                        exact ⟨u, by rw [if_neg (by omega), if_neg (by omega)]; exact h3, h4⟩
                  · rw [List.getElem?_set_ne (Ne.symm hii)] at h1
                    obtain ⟨u, h3, h4⟩ := hcells i' j' row' x h1 h2
                    have hj' : j' < wd := by rw [← hwd row' (List.mem_of_getElem? h1)]; exact lt_of_get h2
                    refine ⟨u, ?_, h4⟩
                    by_cases hlt : i' < i
                    · have := flat_lt hlt hj'
                      rw [if_pos (by omega)]; exact h3
                    · have := flat_lt (i := i) (j := j + cs.length - 1) (n := i') (by omega) (show j + cs.length - 1 < wd by omega)
                      rw [if_neg (by omega), if_neg (by omega)]; exact h3)
              rw [upd_id φ hφ] at this
              exact this
          · cases hl
        · cases hl
      · cases hl
    · cases hl
  · cases hl

/-- the outcome of an operation -/
def AOk (P : Program) (Z : Nat → Prop) (φ : Phi) (H : Heap) (w : World) (s : Sem Next) (v : V) (H' : Heap) : Prop :=
  ∃ nx x w' φ', s.run P w = .ok nx w' ∧ (nx = .value x ∨ (nx = .skip ∧ x = undef)) ∧ VRel Z φ' H' w' v x ∧ HRel Z φ' H' w' ∧ Ext Z φ H w φ' H' w'
theorem WOk.next {s : Sem Value} {v : V} (h : WOk P Z φ H w s v H') : AOk P Z φ H w (do pure (.value (← s))) v H' := by
  obtain ⟨x, w', φ', h1, h2⟩ := h
  exact ⟨_, x, w', φ', by simp [h1, Result.andThen], .inl rfl, h2⟩
theorem AOk.skip {s : Sem Unit} (h : ∃ w' φ', s.run P w = .ok () w' ∧ HRel Z φ' H' w' ∧ Ext Z φ H w φ' H' w') : AOk P Z φ H w (do s; pure .skip) (.fz (.s .undef)) H' := by
  obtain ⟨w', φ', h1, h2, h3⟩ := h
  exact ⟨.skip, undef, w', φ', by simp [h1, Result.andThen], .inr ⟨rfl, rfl⟩, .s .undef, h2, h3⟩
theorem AOk.congr {s s' : Sem Next} {v : V} (e : s.run P w = s'.run P w) (h : AOk P Z φ H w s' v H') : AOk P Z φ H w s v H' := by
  obtain ⟨nx, x, w', φ', h1, h2⟩ := h
  exact ⟨nx, x, w', φ', by rw [e, h1], h2⟩

theorem alikeL_refl {xs ys : List S} (h : alikeL xs ys = true) : xs.length = ys.length := by
  induction xs generalizing ys with
  | nil => cases ys <;> simp_all [alikeL]
  | cons x xs ih =>
    cases ys with
    | nil => simp [alikeL] at h
    | cons y ys => simp only [alikeL, Bool.and_eq_true] at h; simp [ih h.2]
theorem sameBits_s (x : S) {y : S} (h : S.alike x y = true) (n : Nat) (e : x = y) : Instr.sameBits n x.val y.val = true := by
  subst e
  cases x <;> simp only [S.alike, Bool.false_eq_true] at h <;> cases n <;> simp [S.val, Instr.sameBits, bytesEq]
theorem sameBits_keyEq {st st' : Nat → Prop} {k k' : F} {a b : Value} (h : F.keyEq k k' = some true) (h1 : FRel w st k a) (h2 : FRel w st' k' b) : Instr.sameBits 10000 b a = true := by
  unfold F.keyEq at h
  split at h
  · rename_i x y
    split at h
    · rename_i hal
      simp only [Option.some.injEq, decide_eq_true_eq] at h
      subst h
      cases h1; cases h2
      exact sameBits_s x hal _ rfl
    · cases h
  · rename_i as bs
    split at h
    · rename_i xs ys ha hb
      split at h
      · rename_i hal
        simp only [Option.some.injEq, decide_eq_true_eq] at h
        subst h
        rw [scalars_map ha] at h1
        rw [scalars_map hb] at h2
        rw [h1.scalars_inv, h2.scalars_inv]
        show Instr.sameBits (9999 + 1) _ _ = true
        simp only [Instr.sameBits, beq_self_eq_true, Bool.true_and]
        rw [List.all_eq_true]
        rintro ⟨p, q⟩ hpq
        clear h1 h2 ha hb
        induction xs with
        | nil => simp at hpq
        | cons s xs ih =>
          simp only [alikeL, Bool.and_eq_true] at hal
          simp only [List.map_cons, List.zip_cons_cons, List.mem_cons, Prod.mk.injEq] at hpq
          rcases hpq with ⟨rfl, rfl⟩ | hpq
          · exact sameBits_s s hal.1 _ rfl
          · exact ih hal.2 hpq
      · cases h
    · cases h
  · cases h

theorem map_written (h : HRel Z φ H w) {b r : Nat} {es es' : List (F × V)} {en en' : Array MapEntry} {clock clock' : Nat} (hb : H[b]? = some (.map es)) (hφ : φ b = some (r, 0))
    (hw : w.heap[r]? = some (.map en clock)) (hs : en'.size = es'.length)
    (hrel : ∀ (i : Nat) k x e, es'[i]? = some (k, x) → en'[i]? = some e → FRel w (stable Z φ H w) k e.key ∧ VRel Z φ H w x e.val) :
    HRel Z φ (H.set b (.map es')) { w with heap := w.heap.setIfInBounds r (.map en' clock') } ∧ Ext Z φ H w φ (H.set b (.map es')) { w with heap := w.heap.setIfInBounds r (.map en' clock') } := by
  have hlt := lt_of_get hb
  have hrl := heap_lt hw
  have hset : ∀ k, k ≠ r → (w.heap.setIfInBounds r (.map en' clock'))[k]? = w.heap[k]? := fun k hk => by rw [Array.getElem?_setIfInBounds, if_neg (Ne.symm hk)]
  have hself : (w.heap.setIfInBounds r (.map en' clock'))[r]? = some (.map en' clock') := by rw [Array.getElem?_setIfInBounds, if_pos rfl, if_pos hrl]
  have e1 : Ext Z φ H w φ (H.set b (.map es')) { w with heap := w.heap.setIfInBounds r (.map en' clock') } := by
    refine ⟨by simp, fun k hk hn => hset k (fun he => hn b 0 (he ▸ hφ)), fun b2 v2 wd2 rs2 r2 o2 hm hb2 => ?_, fun b2 r2 o2 hb2 => .inl ⟨o2, hb2⟩, fun b2 hb2 hn => hn, by simp, fun b2 B B' h1 h2 => ?_, fun k L hL => ?_, rfl, rfl, rfl⟩
    · have hne : b2 ≠ b := by rintro rfl; rw [hb] at hm; cases hm
      refine ⟨hset _ (fun he => hne (h.inj _ _ _ _ _ (he ▸ hb2) hφ)), hb2, v2, wd2, rs2, ?_⟩
      rw [List.getElem?_set_ne (Ne.symm hne)]; exact hm
    · by_cases hb' : b2 = b
      · subst hb'
        rw [hb] at h1; cases h1
        rw [List.getElem?_set_self hlt] at h2; cases h2
        intro r2 o2 h3
        rw [hφ] at h3; cases h3
        exact ⟨hφ, by unfold cellsSize; simp only [hself, hw]⟩
      · rw [List.getElem?_set_ne (Ne.symm hb'), h1] at h2; cases h2
        refine Blk.to_refl _ (fun r2 o2 h3 => ⟨h3, ?_⟩)
        have hr2 : r2 ≠ r := fun he => by subst he; exact hb' (h.inj _ _ _ _ _ h3 hφ)
        unfold cellsSize; simp only [hset r2 hr2]
    · by_cases hk : k = r
      · subst hk; rw [hw] at hL; cases hL
      · exact ⟨L, by simp only [hset k hk]; exact hL⟩
  refine ⟨h.change e1 b h.inj (fun b2 r2 o2 hb2 => ?_) (fun b2 B r2 o2 hne hB hb2 => ?_) (fun B r2 o2 hB hb2 => ?_), e1⟩
  · have := h.dom _ _ _ hb2; exact ⟨by simpa using this.1, by simpa using this.2.1, this.2.2⟩
  · rw [List.getElem?_set_ne (Ne.symm hne)] at hB
    exact ⟨hB, hb2, hset _ (fun he => hne (h.inj _ _ _ _ _ (he ▸ hb2) hφ))⟩
  · rw [hφ] at hb2; cases hb2
    rw [List.getElem?_set_self hlt] at hB; cases hB
    exact ⟨_, hself, en', clock', rfl, rfl, hs, fun i k x e h1 h2 => let ⟨p, q⟩ := hrel i k x e h1 h2; ⟨p.ext e1, q.ext e1⟩⟩

theorem mapUpdateV_ok (hE : EnvOk P E) (h : HRel Z φ H w) {t : TypeId} {x k v : V} {a c d : Value} (hx : VRel Z φ H w x a) (hk : VRel Z φ H w k c) (hv : VRel Z φ H w v d) (hl : mapUpdateV E H t x k v = some H') :
    ∃ w' φ', (Instr.mapUpdate t a c d).run P w = .ok () w' ∧ HRel Z φ' H' w' ∧ Ext Z φ H w φ' H' w' := by
  unfold mapUpdateV at hl
  split at hl
  · rename_i kt et sz by_ z ag m k ht
    have hkv := hk.fz_inv
    split at hl
    · rename_i es hH
      split at hl
      · rename_i hfit
        rw [Bool.and_eq_true] at hfit
        cases hx with
        | map _ _ hmv hb hh =>
          obtain ⟨r, hφ, rfl⟩ := hh _ hH
          obtain ⟨ob, h1, en, clock, rfl, _, h3, h4⟩ := h.blk m _ r 0 hH hφ
          have hck := checkKey_fits (w := w) hE hfit.1 hkv false
          have hg : (getObj r).run P w = .ok (.map en clock) w := by simp [getObj, Sem.run, h1]
          have hfind : ∀ {q}, findV k es = some q → ∃ r', (Instr.findKey kt c en.toList).run P w = .ok r' w ∧ FindOk es en.toList k 0 q r' := fun hq =>
            find_run hE hfit.1 hkv (by simpa using h3.symm) (fun i p e h5 h6 => (h4 i p.1 p.2 e h5 (by simpa using h6)).1) hfit.2 hq
          split at hl
          · rename_i i vo hfv
            cases hl
            obtain ⟨r', hr1, hr2⟩ := hfind hfv
            cases r' with
            | none => exact absurd hr2 (by simp [FindOk])
            | some q' =>
              obtain ⟨i', y⟩ := q'
              obtain ⟨hi', e, k', h5, h6, _, h8⟩ := hr2
              rw [Nat.zero_add] at hi'; subst hi'
              have h6' : en[i']? = some e := by simpa using h6
              have hkeys := sameBits_keyEq h8 hkv (h4 i' k' vo e h5 h6').1
              have hkey : (Instr.keyThatStays (((en[i']?).map (·.key)).getD c) c).run P w = .ok c w := by
                simp [Instr.keyThatStays, h6', hkeys]
              have := map_written (es' := es.set i' (k, v)) (en' := en.modify i' fun e => { e with key := c, val := d }) (clock' := clock) h hH hφ h1 (by simpa using h3) (fun j k2 x2 e2 h9 h10 => by
                by_cases hj : j = i'
                · subst hj
                  rw [List.getElem?_set_self (lt_of_get h5)] at h9; cases h9
                  rw [Array.getElem?_modify, if_pos rfl, h6'] at h10
                  simp only [Option.map_some, Option.some.injEq] at h10
                  subst h10
                  exact ⟨hkv, hv⟩
                · rw [List.getElem?_set_ne (Ne.symm hj)] at h9
                  rw [Array.getElem?_modify, if_neg (Ne.symm hj)] at h10
                  exact h4 j k2 x2 e2 h9 h10)
              refine ⟨_, φ, ?_, this⟩
              unfold Instr.mapUpdate
              simp only [Sem.run_bind, tyK hE ht, Result.andThen, hg, hck, hr1, hkey]
              exact MapKept.run_setObj_map _ h1
          · rename_i hfv
            cases hl
            obtain ⟨r', hr1, hr2⟩ := hfind hfv
            cases r' with
            | some _ => exact absurd hr2 (by simp [FindOk])
            | none =>
              have := map_written (es' := es ++ [(k, v)]) (en' := en.push { key := c, val := d, born := clock }) (clock' := clock + 1) h hH hφ h1 (by simp [h3]) (fun j k2 x2 e2 h9 h10 => by
                by_cases hj : j < es.length
                · rw [List.getElem?_append_left hj] at h9
                  rw [Array.getElem?_push, if_neg (by omega)] at h10
                  exact h4 j k2 x2 e2 h9 h10
                · have hj2 : j = es.length := by have := lt_of_get h9; simp at this; omega
                  subst hj2
                  simp at h9
                  rw [Array.getElem?_push, if_pos h3.symm] at h10
                  cases h10
                  obtain ⟨rfl, rfl⟩ := h9
                  exact ⟨hkv, hv⟩)
              refine ⟨_, φ, ?_, this⟩
              unfold Instr.mapUpdate
              simp only [Sem.run_bind, tyK hE ht, Result.andThen, hg, hck, hr1]
              exact MapKept.run_setObj_map _ h1
          · cases hl
      · cases hl
    · cases hl
  · cases hl

theorem act_append (hE : EnvOk P E) (h : HRel Z φ H w) {t t' ty : TypeId} {ei : TyI} (hei : elemT E t = some ei) {s x : Value} {sv xv v : V} (hs : VRel Z φ H w sv s) (hx : VRel Z φ H w xv x) :
    (∀ e, kindOfT E t' = some (.slice e) → append1 H ei sv xv = some (v, H') → WOk P Z φ H w (Builtin.append_ #[t, t'] ty #[s, x]) v H') ∧
    (∀ k n, kindOfT E t' = some (.int k) → xv = .fz (.s (.int .i64 n)) → append0 H ei sv n = some (v, H') → WOk P Z φ H w (Builtin.append_ #[t, t'] ty #[s, x]) v H') := by
  obtain ⟨i, e, ht, hd, hee⟩ := elemT_some hei
  obtain ⟨info, z, hi1, hi4, hsz, hby, hzs, hzl, hzz, hz1⟩ := ctx_elem hE hee
  refine ⟨fun e' hk hl => ?_, fun k n hk hxv hl => ?_⟩
  · obtain ⟨i', hi', hd'⟩ := kind_ty hk
    have hku : P.underlying t' = some (.slice e') := by rw [(hE.ty t' i' hi').1, hd']
    unfold append1 at hl
    split at hl
    · rename_i new len hsr hlen
      split at hl
      · rename_i hcond
        rw [Bool.and_eq_true] at hcond
        obtain ⟨hroom, hone⟩ := hcond
        unfold srcRows at hsr
        split at hsr
        · cases hsr
          have := hx.s_inv; subst this
          refine appendV_ok hE h ht hd hee hi1 hi4 hs (new := []) (news := []) .nil (fun u hu => by cases hu) (.src (Src.ofNil w hku 0)) hlen hroom hl
        · split at hsr
          · rename_i wd rs hro
            split at hsr
            · rename_i hwd; subst hwd
              cases hsr
              obtain ⟨ad, cap, news, rfl, h2, h3, h4, h5⟩ := rowsOf_rel h hx hro
              have hn1 : ∀ u ∈ news, u.oneCell' = true := by
                intro u hu
                obtain ⟨q, hq, rfl⟩ := List.getElem_of_mem hu
                have hnl : news.length = new.length * ei.size := by have := h4.1; simpa using this
                have hwd0 : 0 < ei.size := Nat.pos_of_ne_zero fun h0 => by rw [h0] at hnl; simp at hnl; rw [hnl] at hq; simp at hq
                have hqi : q / ei.size < new.length := by rw [Nat.div_lt_iff_lt_mul hwd0]; omega
                have hqj : q % ei.size < ei.size := Nat.mod_lt _ hwd0
                have hrl : (new[q / ei.size]).length = ei.size := h4.2.1 _ (List.getElem_mem hqi)
                obtain ⟨u', h6, h7⟩ := h4.2.2 (q / ei.size) (q % ei.size) new[q / ei.size] (new[q / ei.size])[q % ei.size] (by simp [hqi]) (by rw [List.getElem?_eq_getElem])
                rw [Nat.div_add_mod' q ei.size, List.getElem?_toArray, List.getElem?_eq_getElem hq] at h6
                cases h6
                refine one_cell ?_ h7
                have := List.all_eq_true.1 hone _ (List.getElem_mem hqi)
                exact List.all_eq_true.1 this _ (List.getElem_mem _)
              refine appendV_ok hE h ht hd hee hi1 hi4 hs h4 hn1 (.src (Src.ofSlice w hku ad new.length cap news ?_ h5 hn1)) hlen hroom hl
              have := h4.1; simpa [hsz] using this
            · cases hsr
          · cases hsr
      · cases hl
    · cases hl
  · obtain ⟨i', hi', hd'⟩ := kind_ty hk
    have hku : P.underlying t' = some (.int k) := by rw [(hE.ty t' i' hi').1, hd']
    subst hxv
    have := hx.s_inv; subst this
    unfold append0 at hl
    split at hl
    · rename_i len hlen
      split at hl
      · rename_i hcond
        obtain ⟨h0, hroom⟩ := hcond
        have hrl : (List.replicate n.toNat (zeroV ei.zero)).length = n.toNat := by simp
        have hzr : RRel Z φ H w ei.size (List.replicate n.toNat (zeroV ei.zero)) ((if n.toNat * info.size = 0 then #[] else Builtin.zeroCells z.cells n.toNat)).toList.toArray := by
          rw [Array.toArray_toList]
          have := zeros_rrel (Z := Z) (φ := φ) (H := H) (w := w) (z := ei.zero) (n := n.toNat) (c := if n.toNat * info.size = 0 then #[] else Builtin.zeroCells z.cells n.toNat) (by
            rw [hsz, hzz]
            split
            · rename_i h0; rw [h0]; rfl
            · rw [size_zeroCells, hzs]) (fun q hq => by
            rw [hsz, ← hzz, if_neg (by omega)]
            have hp : 0 < ei.zero.length := Nat.pos_of_ne_zero fun h => by rw [h] at hq; simp at hq
            have hzs' : z.cells.size = ei.zero.length := by rw [hzs, hzz]
            unfold Builtin.zeroCells
            have := tile_get (zc := z.cells) hzl (m := n.toNat * z.cells.size) (k := q) (by rw [hzs']; exact hq) hp
            rw [Array.getElem?_map, Array.getElem?_range] at this ⊢
            exact this)
          rwa [hzz] at this
        have hn36 : n.toNat ≤ 2 ^ 36 := by
          simp only [roomy, Bool.and_eq_true, decide_eq_true_eq] at hroom; omega
        refine appendV_ok hE h ht hd hee hi1 hi4 hs hzr (fun u hu => ?_) (.zeros k hku (by simp [S.val]; omega) (by rw [hrl]; exact hn36) (by rw [hrl])) hlen (by rw [hrl]; exact hroom) hl
        split at hu
        · cases hu
        · simp only [Builtin.zeroCells, Array.toList_map, List.mem_map] at hu
          obtain ⟨q, hq, rfl⟩ := hu
          have hzs' : 0 < z.cells.size := by rename_i hne; rw [hzs, ← hsz]; exact Nat.pos_of_ne_zero fun h0 => hne (by rw [h0]; simp)
          have hlt : q % z.cells.size < z.cells.size := Nat.mod_lt _ hzs'
          rw [getElem!_pos z.cells (q % z.cells.size) hlt]
          exact hz1 _ (by simp)
      · cases hl
    · cases hl

theorem act_ok (hE : EnvOk P E) {B : Base} (hg : GlobOk B E) (hs : SRel B E Z φ H w) {T : List V} {a : Act} (hT : TRel Z φ H w T a.tmps) {o : Oper} {v : V} (hl : actV E H T o.op = some (v, H')) :
    AOk P Z φ H w (execOp a.eval o) v H' := by
  have ev1 : ∀ {x v}, ev E T x = some v → VRel Z φ H w v (a.eval x) := fun h => ev_rel hg hs hT h
  have hmap : ∀ {t : TypeId} {m k x : Operand}, aMap E H T t m k x = some (v, H') → AOk P Z φ H w (do Instr.mapUpdate t (a.eval m) (a.eval k) (a.eval x); pure .skip) v H' := by
    intro t m k x hl
    unfold aMap at hl
    split at hl
    · rename_i mv kv xv hm hk hx
      simp only [Option.map_eq_some_iff] at hl
      obtain ⟨H1, h1, he⟩ := hl
      cases he
      obtain ⟨w', φ', h2, h3⟩ := mapUpdateV_ok hE hs.h (ev1 hm) (ev1 hk) (ev1 hx) h1
      exact .skip ⟨w', φ', h2, h3⟩
    · cases hl
  cases hop : o.op with
  | store t x y =>
    rw [hop] at hl; simp only [execOp, hop]
    simp only [actV, aStore] at hl
    split at hl
    · rename_i i av yv ht hx hy
      split at hl
      · rename_i cs hc
        split at hl
        · rename_i hsz
          simp only [Option.map_eq_some_iff] at hl
          obtain ⟨H1, h1, he⟩ := hl
          cases he
          obtain ⟨hcr, hone⟩ := cells_rel hc (ev1 hy)
          obtain ⟨ad, w', had, h2, h3, h4⟩ := storeC_ok (P := P) hs.h (ev1 hx) hcr hone h1
          refine .skip ⟨w', φ, ?_, h3, h4⟩
          rw [had]
          have hs2 : (a.eval y).cells.size = i.size := by have := hcr.1; simp at this; omega
          simp only [Instr.storeAt, Instr.sureAddr, storeVar, Sem.run_bind, Sem.run_pure, run_sizeOf' hE ht, Result.andThen]
          simp [hs2, h2]
        · cases hl
      · cases hl
    · cases hl
  | mapUpdate t m k x => rw [hop] at hl; simp only [execOp, hop]; exact hmap hl
  | insert t m k x => rw [hop] at hl; simp only [execOp, hop]; exact hmap hl
  | call c =>
    rw [hop] at hl; simp only [execOp, hop]
    obtain ⟨callee, args, argTypes⟩ := c
    simp only [actV, aCall] at hl
    split at hl
    · unfold aAppend at hl
      split at hl
      · rename_i s x t t' hargs htys
        have e1 : args = #[s, x] := by apply Array.ext'; simpa using hargs
        have e2 : argTypes = #[t, t'] := by apply Array.ext'; simpa using htys
        subst e1 e2
        refine AOk.congr (s' := do pure (.value (← Builtin.append_ #[t, t'] o.type #[a.eval s, a.eval x]))) (by simp [resolve, invoke, builtin, Result.andThen]) ?_
        split at hl
        · rename_i ei sv xv e' hei hsv hxv hk
          exact ((act_append hE hs.h hei (ev1 hsv) (ev1 hxv)).1 e' hk hl).next
        · rename_i ei sv _ n k hei hsv hxv hk
          exact ((act_append hE hs.h hei (ev1 hsv) (ev1 hxv)).2 k n hk rfl hl).next
        · cases hl
      · cases hl
    · cases hl
  | _ => rw [hop] at hl; simp [actV] at hl
end Go.Vm
