/- Regions that draw their order and end in two stores. -/
import Derived.Test.YtjkhdpdnimfmdaaGreatDoorVc
import Derived.RangeFuncRecord
import Derived.RangeFuncNested
import Derived.Laws.StructEq
set_option linter.unusedVariables false
set_option linter.unusedSimpArgs false
set_option linter.unusedSectionVars false
namespace Go.Vm
variable [Valu]
variable {P : Program} {B : Base} {E : Env} {Z : Nat → Prop} {φ φ' : Phi} {H H' : Heap} {w w' : World}

theorem storeC_other {a : V} {cs : List V} (h : storeC H a cs = some H') : H'.length = H.length ∧ ∃ b ver i j, a = .ptr b ver i j ∧ ∀ k, k ≠ b → H'[k]? = H[k]? := by
  unfold storeC at h
  split at h
  · rename_i b ver i j
    split at h
    · split at h
      · split at h
        · split at h
          · cases h
            exact ⟨by simp, b, ver, i, j, rfl, fun k hk => List.getElem?_set_ne (Ne.symm hk)⟩
          · cases h
        · cases h
      · cases h
    · cases h
  · cases h
theorem stored_other {T : List V} {o : Oper} (hst : isStore o = true) {b : Nat} (hb : storedIn E T o = some b) (h : stored E H T o = some H') : H'.length = H.length ∧ ∀ k, k ≠ b → H'[k]? = H[k]? := by
  unfold stored at h
  split at h
  · rename_i v H1 ha
    cases h
    unfold storedIn at hb
    split at hb
    · rename_i t x y hop
      rw [hop] at ha
      simp only [actV, aStore] at ha
      split at ha
      · rename_i i av yv h1 h2 h3
        split at ha
        · split at ha
          · simp only [Option.map_eq_some_iff] at ha
            obtain ⟨H2, h4, he⟩ := ha
            cases he
            obtain ⟨h5, b', ver, i', j, rfl, h6⟩ := storeC_other h4
            rw [h2] at hb
            simp only [Option.some.injEq] at hb
            subst hb
            exact ⟨h5, h6⟩
          · cases ha
        · cases ha
      · cases ha
    · cases hb
  · cases h
theorem stores_meet {T : List V} {x y : Oper} (hx : isStore x = true) (hy : isStore y = true) {bx by_ : Nat} (h1 : storedIn E T x = some bx) (h2 : storedIn E T y = some by_) {Hx Hy H1 H2 : Heap} (h3 : stored E H T x = some Hx) (h4 : stored E H T y = some Hy)
    (h5 : stored E Hx T y = some H1) (h6 : stored E Hy T x = some H2) (h7 : sameIn bx H1 H2 = true) (h8 : sameIn by_ H1 H2 = true) : H2 = H1 := by
  have same : ∀ {b}, sameIn b H1 H2 = true → H2[b]? = H1[b]? := by
    intro b h
    unfold sameIn at h
    split at h
    · rename_i hm; rw [hm]; exact isMem_eq h
    · cases h
  obtain ⟨a1, a2⟩ := stored_other hx h1 h3
  obtain ⟨b1, b2⟩ := stored_other hy h2 h4
  obtain ⟨c1, c2⟩ := stored_other hy h2 h5
  obtain ⟨d1, d2⟩ := stored_other hx h1 h6
  apply List.ext_getElem?
  intro k
  by_cases hk1 : k = bx
  · subst hk1; exact same h7
  · by_cases hk2 : k = by_
    · subst hk2; exact same h8
    · rw [d2 k hk1, b2 k hk2, c2 k hk2, a2 k hk1]

section
variable {ops : Array Oper} {l : List Oper} {bs : List Nat} {tf : List Tr} {φ0 : Phi} {H0 : Heap} {w0 : World} {a a0 : Act} {T0 T' : List V} {D : Nat → Bool} {Q : Exit → Act → World → Prop} {K : Act → World → Prop} {ro : Option Nat} {n : Nat} {rec : Task → Option Out} {G : List Heap} {q : List (Nat × Oper)}
/-- a store behind all acts -/
theorem Inv.tail (hE : EnvRun P B E) (h : Inv B E Z φ0 H0 w0 a0 T0 bs l.length tf D H φ a w) (ho : Ord ops l bs tf) (hT : T' = putAll T0 tf) {j : Nat} (hj : l.length ≤ j) {o : Oper} (hop : ops[j]? = some o) (hst : isStore o = true)
    (hrd : ∀ t ∈ tf, D t.i = false → ∀ d, t.o.dst = some d → d ∉ readsOf ops o) {H1 : Heap} (hs : stored E H T' o = some H1) (hlt : ∀ t ∈ tf, isFresh t → t.id < H.length)
    (hK : ∀ a' w' φ', Inv B E Z φ0 H0 w0 a0 T0 bs l.length tf (ins D j) H1 φ' a' w' → K a' w') : wpOpIn (Fz ro) n P ops Q j K a w := by
  have hsto := hst
  simp only [isStore, Bool.and_eq_true, Option.isNone_iff_eq_none] at hst
  obtain ⟨⟨hst1, hdst⟩, hgd⟩ := hst
  have hoo : opOk o = true := by
    unfold opOk
    cases hoop : o.op <;> rw [hoop] at hst1 <;> simp at hst1 ⊢
  have hww : Region.wanted o (yielded ops a.tmps) = true := by unfold Region.wanted; rw [hgd]
  unfold wpOpIn
  simp only [hop, hww, if_true]
  unfold stored at hs
  split at hs
  · rename_i v H2 ha
    cases hs
    have hag : Agree E T' (TD D T0 tf) o.op := agree_of (ops := ops) fun d hd => by
      rw [hT]
      refine (TD_all (fun t ht hdd => ?_) _ _ rfl rfl).symm
      cases hc : D t.i with
      | true => rfl
      | false => exact absurd hd (hrd t ht hc d hdd)
    rw [actV_congr hag] at ha
    refine OpOk.of_run hoo (act_ok hE.ok hE.gl h.s h.t ha) _ _ fun x w' φ' h1 h2 h3 => hK _ w' φ' ?_
    rw [hdst]
    refine ⟨h.s.ext h3 h2, h.e.trans h3, ?_, h.d, fun t ht hf hD => h3.none _ (hlt t ht hf) (h.fr t ht hf (ins_false hD).1), fun k hk hDk i hi => ?_⟩
    · have : TD (ins D j) T0 tf = TD D T0 tf := TD_congr (fun t ht => by
        have := lt_of_get (ho.at_ t ht)
        have hne : (t.i == j) = false := by simp; omega
        simp [ins, hne]) T0
      rw [this]; exact h.t.ext h3
    · have hne : (k == j) = false := by simp; omega
      simp only [ins, hne, Bool.or_false] at hDk
      exact ins_mono (h.cl k hk hDk i hi)
  · cases hs

theorem two_region (hE : EnvRun P B E) (hr : RecOk P B E rec) (htwo : twoTail ops = true) (hok : twoOk ops = true) {id : Nat} (hs : SRel B E Z φ H0 w) (hT : TRel Z φ H0 w T0 a.tmps)
    (hl : twoR E rec ops T0 H0 = some (T', H')) (hQ : ∀ a' w' φ', HRel Z φ' H' w' → Ext Z φ H0 w φ' H' w' → TRel Z φ' H' w' T' a'.tmps → a'.defers = a.defers → Q .normal a' w') : (Code.region id ops true).wpIn (Fz ro) n P Q a w := by
  unfold twoTail at htwo
  simp only [Bool.and_eq_true] at htwo
  obtain ⟨hlen, htwo⟩ := htwo
  have hlen := Nat.le_of_ble_eq_true hlen
  split at htwo
  rotate_left
  · cases htwo
  rename_i x y hx hy
  simp only [Bool.and_eq_true] at htwo
  obtain ⟨⟨hsx, hsy⟩, _⟩ := htwo
  unfold twoOk at hok
  simp only [Bool.and_eq_true] at hok
  obtain ⟨hchain, htail⟩ := hok
  rw [hx, hy] at htail
  simp only [Bool.and_eq_true, tailOk1, List.all_eq_true] at htail
  obtain ⟨⟨hxe, hxp⟩, ⟨hye, hyp⟩⟩ := htail
  unfold twoR at hl
  simp only at hl
  rw [hx, hy] at hl
  -- m
  obtain ⟨m, hm⟩ : ∃ m, m = ops.toList.length - 2 := ⟨_, rfl⟩
  rw [← hm] at hx hy hxe hxp hye hyp hl hchain
  obtain ⟨l, hll⟩ : ∃ l, l = ops.toList.take m := ⟨_, rfl⟩
  rw [← hll] at hxp hyp hl hchain
  have hlm : l.length = m := by rw [hll, List.length_take]; omega
  have hsize : ops.size = m + 2 := by have : ops.toList.length = ops.size := by simp
                                      omega
  have hxo : ops[m]? = some x := by simpa using hx
  have hyo : ops[m + 1]? = some y := by simpa using hy
  have hat : ∀ (j : Nat) z, l[j]? = some z → ops[j]? = some z := by
    intro j z hz
    rw [hll, List.getElem?_take] at hz
    split at hz
    · simpa using hz
    · cases hz
  have hreg := reg_of_chain hat hchain
  split at hl
  rotate_left
  · cases hl
  rename_i T1 H1' tr x' y' hdt hex hey
  cases hex; cases hey
  obtain ⟨tf, G, htr, hck, hst⟩ := drawT_spec hdt
  have ho := ord_of hreg hck.qs
  split at hl
  rotate_left
  · cases hl
  rename_i bx by_ Hx Hy h1 h2 h3 h4
  split at hl
  rotate_left
  · cases hl
  rename_i H1 H2 h5 h6
  split at hl
  rotate_left
  · cases hl
  rename_i hcond
  cases hl
  simp only [Bool.and_eq_true, List.all_eq_true] at hcond
  obtain ⟨⟨hs1, hs2⟩, htl⟩ := hcond
  have hmeet := stores_meet hsx hsy h1 h2 h3 h4 h5 h6 hs1 hs2
  subst hmeet
  have htl' : ∀ t ∈ tf, tailAt E (closure (befs l) x) (closure (befs l) y) Hx Hy H2 t = true := fun t ht => htl t (by rw [htr]; simpa using ht)
  have hzip : ∀ t ∈ tf, (t.i, t.o) ∈ (List.range m).zip l := by
    intro t ht
    have := mem_zip (ho.at_ t ht)
    rwa [hlm] at this
  have hTput := hck.temps.1
  -- what a store waits for
  have hin : ∀ {o : Oper} {D : Nat → Bool}, (∀ e ∈ o.after, Region.binds .any e = true → D e.on = true) → (o.after.all fun e => !Region.binds .any e || Nat.blt e.on m) = true →
      (∀ j, j < l.length → D j = true → ∀ i, bef (befs l) i j = true → D i = true) → ∀ i, (closure (befs l) o).testBit i = true → D i = true := by
    intro o D hrd he hcl i hi
    obtain ⟨e, q1, q2, q3⟩ := closure_bit hi
    have hD := hrd e q1 q2
    rcases q3 with rfl | q3
    · exact hD
    · have hlt : e.on < m := by
        rw [Array.all_eq_true'] at he
        have := he e q1
        rw [q2] at this
        simpa [Nat.blt_eq] using this
      exact hcl e.on (by omega) hD i q3
  have hpair : ∀ {o : Oper}, (∀ p ∈ (List.range m).zip l, ((closure (befs l) o).testBit p.1 || (!isAct p.2 && apartOk ops p.2 o)) = true) → ∀ t ∈ tf, (closure (befs l) o).testBit t.i = false → isAct t.o = false ∧ ∀ d, t.o.dst = some d → d ∉ readsOf ops o := by
    intro o hp t ht hb
    have := hp _ (hzip t ht)
    rw [hb, Bool.false_or, Bool.and_eq_true, Bool.not_eq_true'] at this
    exact ⟨this.1, fun d hd => ((apart_spec this.2).1 d hd).1⟩
  have hxp' := hpair (o := x) (fun p hp => hxp p hp)
  have hyp' := hpair (o := y) (fun p hp => hyp p hp)
  have hedgeT : ∀ (j : Nat) o, ops[j]? = some o → ∀ e ∈ o.after, Region.binds .any e = true → e.on < j := by
    intro j o hjo e he hb
    rcases Nat.lt_or_ge j m with hlt | hge
    · exact hreg.edge j o (by rw [hll, List.getElem?_take, if_pos hlt]; simpa using hjo) e he hb
    · have hjs : j < ops.size := (Array.getElem?_eq_some_iff.1 hjo).1
      have hgen : ∀ {o : Oper}, (o.after.all fun e => !Region.binds .any e || Nat.blt e.on m) = true → e ∈ o.after → e.on < m := by
        intro o h he
        rw [Array.all_eq_true'] at h
        have := h e he
        rw [hb] at this
        simpa [Nat.blt_eq] using this
      rcases Nat.eq_or_lt_of_le hge with rfl | hlt
      · rw [hxo] at hjo; cases hjo; exact hgen hxe he
      · have : j = m + 1 := by omega
        subst this
        rw [hyo] at hjo; cases hjo; have := hgen hye he; omega
  have hfl : ∀ t ∈ tf, isFresh t → t.id < H1'.length := by
    intro t ht hf
    obtain ⟨hA1, hA2, _⟩ := hck.actsOk
    exact hck.fresh_lt t ht hf (actsOf tf).length H1' (by rw [← hA1, List.getElem?_append_right (Nat.le_refl _)]; simp) (by have := hA2 t ht; omega)
  have hlx := (stored_other hsx h1 h3).1
  have hly := (stored_other hsy h2 h4).1
  obtain ⟨hd1, hd2⟩ := drew_ext hs.h
  -- where it stands
  let Ph : (Nat → Bool) → Heap → Prop := fun D Ĥ =>
    (D m = false ∧ D (m + 1) = false ∧ ∃ σ, Stage tf G H1' D σ Ĥ) ∨
    (D m = true ∧ D (m + 1) = false ∧ Ĥ = Hx ∧ ∀ i, (closure (befs l) x).testBit i = true → D i = true) ∨
    (D m = false ∧ D (m + 1) = true ∧ Ĥ = Hy ∧ ∀ i, (closure (befs l) y).testBit i = true → D i = true) ∨
    (D m = true ∧ D (m + 1) = true ∧ Ĥ = H2 ∧ (∀ i, (closure (befs l) x).testBit i = true → D i = true) ∧ ∀ i, (closure (befs l) y).testBit i = true → D i = true)
  refine wpIn_region_any hE.mixed ?_
  refine wpAny_inv (I := fun listed a1 w1 => listed.size = ops.size ∧ ∃ Ĥ φ1, Inv B E Z φ H0 w.drew a T0 (befs l) l.length tf (LD listed) Ĥ φ1 a1 w1 ∧ Ph (LD listed) Ĥ)
    (fun listed a w h => h.1) hedgeT ?_ ?_ ops.size _ _ _ ?_ ?_
  · rintro listed a1 w1 ⟨hsz, Ĥ, φ1, hI, hP⟩ j hj hDj hrd K hK
    have hK' : ∀ a' w' φ' H3, Inv B E Z φ H0 w.drew a T0 (befs l) l.length tf (ins (LD listed) j) H3 φ' a' w' → Ph (ins (LD listed) j) H3 → K a' w' := by
      intro a' w' φ' H3 q1 q2
      refine hK a' w' ⟨by simpa using hsz, H3, φ', ?_, ?_⟩
      · rw [LD_set (by rw [hsz]; exact hj)]; exact q1
      · rw [LD_set (by rw [hsz]; exact hj)]; exact q2
    rcases Nat.lt_or_ge j m with hjm | hjm
    · -- one of the chain
      obtain ⟨t, ht, rfl⟩ := ho.cov j (by omega)
      have hbin := befs_in hreg hI.cl (by omega) hrd
      have hn1 : (m == t.i) = false := by simp; omega
      have hn2 : (m + 1 == t.i) = false := by simp; omega
      have hins : ∀ {b}, ins (LD listed) t.i m = b ↔ LD listed m = b := by intro b; simp [ins, hn1]
      have hins1 : ∀ {b}, ins (LD listed) t.i (m + 1) = b ↔ LD listed (m + 1) = b := by intro b; simp [ins, hn2]
      have late : (closure (befs l) x).testBit t.i = false ∨ (closure (befs l) y).testBit t.i = false → valueAt E Ĥ t = true ∨ t.want = false → (∀ φ' a' w', Inv B E Z φ H0 w.drew a T0 (befs l) l.length tf (ins (LD listed) t.i) Ĥ φ' a' w' → K a' w') →
          wpOpIn (Fz ro) n P ops Q t.i K a1 w1 := by
        intro hna hva hKK
        obtain ⟨pre, post, he⟩ := List.append_of_mem ht
        have hTt : t.T = putAll T0 pre := hck.temps.2 pre t post he
        obtain ⟨hw, hwn, hwf⟩ := hck.wants t ht
        cases hwant : t.want with
        | false =>
          rw [hwant] at hw
          exact hI.unwanted ho hreg.at_ he hDj hbin hTt hw (hwn hwant) fun a' q => hKK φ1 a' w1 q
        | true =>
          rw [hwant] at hw
          have hva' : valueAt E Ĥ t = true := by
            rcases hva with h | h
            · exact h
            · rw [hwant] at h; cases h
          refine hI.nonact hE ho hreg.at_ hreg.op he hDj hbin hTt hw hwant (.inl hva') (fun hf => ⟨hwf hf, hck.fresh_ge t ht hf, fun t' ht' hf' hti => ?_⟩) fun a' w' φ' q => hKK φ' a' w' q
          rw [he] at ht'
          rcases List.mem_append.1 ht' with g1 | g1
          · obtain ⟨p1, p2, hp⟩ := List.append_of_mem g1
            have := hck.fresh_ne (pre := p1) (post := p2 ++ t :: post) (t := t') (by rw [he, hp]; simp) hf' t (by simp) hf
            omega
          · rcases List.mem_cons.1 g1 with g1 | g1
            · exact absurd (by rw [g1]) hti
            · have := hck.fresh_ne he hf t' g1 hf'; omega
      have htt := htl' t ht
      simp only [tailAt, Bool.and_eq_true, Bool.or_eq_true] at htt
      obtain ⟨⟨t1, t2⟩, t3⟩ := htt
      have nbit : ∀ {c : Nat}, (∀ i, c.testBit i = true → LD listed i = true) → c.testBit t.i = false := by
        intro c hc
        cases hb : c.testBit t.i with
        | false => rfl
        | true => rw [hc _ hb] at hDj; cases hDj
      rcases hP with ⟨p1, p2, σ, p3⟩ | ⟨p1, p2, rfl, p4⟩ | ⟨p1, p2, rfl, p4⟩ | ⟨p1, p2, rfl, p4, p5⟩
      · exact chain_step hE hr hreg hck hst hI p3 ht hDj hbin fun a' w' φ' H3 σ' q1 q2 => hK' a' w' φ' H3 q1 (.inl ⟨hins.2 p1, hins1.2 p2, σ', q2⟩)
      · have hb := nbit p4
        refine late (.inl hb) (.inl (by rcases t1 with t1 | t1; rw [hb] at t1; cases t1; exact t1)) fun φ' a' w' q => hK' a' w' φ' _ q (.inr (.inl ⟨hins.2 p1, hins1.2 p2, rfl, fun i hi => ins_mono (p4 i hi)⟩))
      · have hb := nbit p4
        refine late (.inr hb) (.inl (by rcases t2 with t2 | t2; rw [hb] at t2; cases t2; exact t2)) fun φ' a' w' q => hK' a' w' φ' _ q (.inr (.inr (.inl ⟨hins.2 p1, hins1.2 p2, rfl, fun i hi => ins_mono (p4 i hi)⟩)))
      · have hb := nbit p4
        have hb' := nbit p5
        refine late (.inl hb) (.inl (by
          rcases t3 with (t3 | t3) | t3
          · rw [hb] at t3; cases t3
          · rw [hb'] at t3; cases t3
          · exact t3)) fun φ' a' w' q => hK' a' w' φ' _ q (.inr (.inr (.inr ⟨hins.2 p1, hins1.2 p2, rfl, fun i hi => ins_mono (p4 i hi), fun i hi => ins_mono (p5 i hi)⟩)))
    · -- one of the stores
      have actsIn : ∀ {o : Oper}, (∀ t ∈ tf, (closure (befs l) o).testBit t.i = false → isAct t.o = false ∧ ∀ d, t.o.dst = some d → d ∉ readsOf ops o) → (∀ i, (closure (befs l) o).testBit i = true → LD listed i = true) →
          (∀ t ∈ tf, isActT t → LD listed t.i = true) ∧ ∀ t ∈ tf, LD listed t.i = false → ∀ d, t.o.dst = some d → d ∉ readsOf ops o := by
        intro o hp hcin
        refine ⟨fun t ht ha => ?_, fun t ht hD => ?_⟩
        · cases hb : (closure (befs l) o).testBit t.i with
          | true => exact hcin _ hb
          | false => have := (hp t ht hb).1; rw [isAct_iff.2 ha.2] at this; cases this
        · cases hb : (closure (befs l) o).testBit t.i with
          | true => rw [hcin _ hb] at hD; cases hD
          | false => exact (hp t ht hb).2
      rcases Nat.eq_or_lt_of_le hjm with rfl | hjm'
      · have hcx := hin (hrd x hxo) hxe hI.cl
        obtain ⟨hacts, hrds⟩ := actsIn hxp' hcx
        have e1 : (m + 1 == m) = false := by simp
        rcases hP with ⟨p1, p2, σ, p3⟩ | ⟨p1, p2, rfl, p4⟩ | ⟨p1, p2, rfl, p4⟩ | ⟨p1, p2, rfl, p4, p5⟩
        · have := stage_last hck p3 hacts
          subst this
          exact hI.tail hE ho hTput (by omega) hxo hsx hrds h3 hfl fun a' w' φ' q => hK' a' w' φ' _ q (.inr (.inl ⟨ins_self _ _, by simp [ins, p2, e1], rfl, fun i hi => ins_mono (hcx i hi)⟩))
        · rw [p1] at hDj; cases hDj
        · exact hI.tail hE ho hTput (by omega) hxo hsx hrds h6 (fun t ht hf => by rw [hly]; exact hfl t ht hf) fun a' w' φ' q => hK' a' w' φ' _ q (.inr (.inr (.inr ⟨ins_self _ _, ins_mono p2, rfl, fun i hi => ins_mono (hcx i hi), fun i hi => ins_mono (p4 i hi)⟩)))
        · rw [p1] at hDj; cases hDj
      · have hjy : j = m + 1 := by omega
        subst hjy
        have hcy := hin (hrd y hyo) hye hI.cl
        obtain ⟨hacts, hrds⟩ := actsIn hyp' hcy
        have e1 : (m == m + 1) = false := by simp
        rcases hP with ⟨p1, p2, σ, p3⟩ | ⟨p1, p2, rfl, p4⟩ | ⟨p1, p2, rfl, p4⟩ | ⟨p1, p2, rfl, p4, p5⟩
        · have := stage_last hck p3 hacts
          subst this
          exact hI.tail hE ho hTput (by omega) hyo hsy hrds h4 hfl fun a' w' φ' q => hK' a' w' φ' _ q (.inr (.inr (.inl ⟨by simp [ins, p1, e1], ins_self _ _, rfl, fun i hi => ins_mono (hcy i hi)⟩)))
        · exact hI.tail hE ho hTput (by omega) hyo hsy hrds h5 (fun t ht hf => by rw [hlx]; exact hfl t ht hf) fun a' w' φ' q => hK' a' w' φ' _ q (.inr (.inr (.inr ⟨ins_mono p1, ins_self _ _, rfl, fun i hi => ins_mono (p4 i hi), fun i hi => ins_mono (hcy i hi)⟩)))
        · rw [p2] at hDj; cases hDj
        · rw [p2] at hDj; cases hDj
  · rintro listed a1 w1 ⟨hsz, Ĥ, φ1, hI, hP⟩ hall
    have hallD : ∀ t ∈ tf, LD listed t.i = true := fun t ht => hall t.i (by have := lt_of_get (ho.at_ t ht); omega)
    have hfin : Ĥ = H2 := by
      have d1 := hall m (by omega)
      have d2 := hall (m + 1) (by omega)
      rcases hP with ⟨p1, _⟩ | ⟨_, p2, _⟩ | ⟨p1, _⟩ | ⟨_, _, p, _⟩
      · rw [d1] at p1; cases p1
      · rw [d2] at p2; cases p2
      · rw [d1] at p1; cases p1
      · exact p
    subst hfin
    refine hQ a1 w1 φ1 hI.s.h (hd2.trans hI.e) ?_ hI.d
    have := hI.t
    rw [TD_true hallD, ← hTput] at this
    exact this
  · refine ⟨by simp, ?_⟩
    have hD0 : ∀ i, LD (Array.replicate ops.size false) i = false := fun i => by
      simp only [LD, Array.getD_eq_getD_getElem?, Array.getElem?_replicate]; split <;> rfl
    obtain ⟨H, q1, q2⟩ := Inv.start (a := a) (l := l) (bs := befs l) (D := LD (Array.replicate ops.size false)) (hs.ext hd2 hd1) (hT.ext hd2) hck hD0
    exact ⟨H, φ, q1, .inl ⟨hD0 _, hD0 _, 0, q2⟩⟩
  · unfold unl
    refine Nat.le_trans List.countP_le_length (by simp)
end
end Go.Vm
/- Code, calls, rounds: the whole. -/
set_option linter.unusedVariables false
set_option linter.unusedSimpArgs false
set_option linter.unusedSectionVars false
namespace Go.Vm
variable [Valu]
variable {P : Program} {B : Base} {E : Env} {Z : Nat → Prop} {φ φ' : Phi} {H H' : Heap} {w w' : World}

/-! ### marks -/
theorem Marks.ext {lo : Nat} {ds : List Deferred} (m : Marks φ lo w ds) (e : Ext Z φ H w φ' H' w') : Marks φ' lo w' ds := by
  induction ds with
  | nil => trivial
  | cons d ds ih =>
    obtain ⟨D, h1, h2, h3, h4, h5, h6⟩ := m
    have hlt := heap_lt h3
    refine ⟨D, h1, h2, by rw [e.keep D hlt h4]; exact h3, fun b o hb => ?_, ih h5, h6⟩
    rcases e.new b D o hb with ⟨o', h⟩ | h
    · exact h4 b o' h
    · omega
theorem Marks.lo {lo lo' : Nat} {ds : List Deferred} (h : lo' ≤ lo) (m : Marks φ lo w ds) : Marks φ lo' w ds := by
  induction ds with
  | nil => trivial
  | cons d ds ih => obtain ⟨D, h1, h2, h3, h4, h5, h6⟩ := m; exact ⟨D, h1, by omega, h3, h4, ih h5, h6⟩
theorem Marks.mem {lo : Nat} {ds : List Deferred} (m : Marks φ lo w ds) : ∀ d ∈ ds, ∃ D, d = { target := .collected D, args := #[] } ∧ lo ≤ D ∧ w.heap[D]? = some (.deferred (some [])) ∧ ∀ b o, φ b ≠ some (D, o) := by
  induction ds with
  | nil => intro d h; cases h
  | cons d ds ih =>
    obtain ⟨D, h1, h2, h3, h4, h5, h6⟩ := m
    intro d' h
    rcases List.mem_cons.1 h with rfl | h
    · exact ⟨D, h1, h2, h3, h4⟩
    · exact ih h5 d' h
theorem Marks.append {lo mid : Nat} {ds1 ds2 : List Deferred} (m1 : Marks φ lo w ds1) (h1 : ∀ d ∈ ds1, ∀ D, d = { target := .collected D, args := #[] } → D < mid) (hlo : lo ≤ mid) (m2 : Marks φ mid w ds2) : Marks φ lo w (ds2 ++ ds1) := by
  induction ds2 with
  | nil => exact m1
  | cons d ds ih =>
    obtain ⟨D, q1, q2, q3, q4, q5, q6⟩ := m2
    refine ⟨D, q1, by omega, q3, q4, ih q5, fun d' hd' => ?_⟩
    rcases List.mem_append.1 hd' with h | h
    · exact q6 d' h
    · intro he
      have := h1 d' h D (by rw [he]; exact q1)
      omega

/-! ### code, piece by piece -/
theorem Comes.refl (hs : SRel B E Z φ H w) {T : List V} {a : Act} (hT : TRel Z φ H w T a.tmps) {e : Ex} : Comes B E Z φ H w a e T H e.real a w :=
  ⟨φ, rfl, hs.h, .refl _ _ _ _, hT, [], rfl, trivial⟩
/-- one after the other -/
theorem Comes.trans {a a1 a2 : Act} {φ1 : Phi} {H1 H2 : Heap} {w1 w2 : World} {ds : List Deferred} (e1 : Ext Z φ H w φ1 H1 w1) (hd : a1.defers = ds ++ a.defers) (hm : Marks φ1 w.heap.size w1 ds) {e : Ex} {T2 : List V} {ex : Exit}
    (h : Comes B E Z φ1 H1 w1 a1 e T2 H2 ex a2 w2) : Comes B E Z φ H w a e T2 H2 ex a2 w2 := by
  obtain ⟨φ2, h1, h2, h3, h4, ds2, h5, h6⟩ := h
  refine ⟨φ2, h1, h2, e1.trans h3, h4, ds2 ++ ds, by rw [h5, hd, List.append_assoc], ?_⟩
  refine (hm.ext h3).append (mid := w1.heap.size) (fun d hd D he => ?_) e1.size h6
  obtain ⟨D', q1, _, q3, _⟩ := hm.mem d hd
  rw [he] at q1
  cases q1
  exact heap_lt q3

theorem code_skip {T : List V} : CodeRel P B E .skip T H .normal T H := fun ro n Z φ w a hs hT _ => wpIn_skip (Comes.refl hs hT)
theorem code_label {l : Nat} {T : List V} : CodeRel P B E (.label l) T H .normal T H := fun ro n Z φ w a hs hT _ => wpIn_label (Comes.refl hs hT)
theorem code_ret {T : List V} : CodeRel P B E .ret T H .ret T H := fun ro n Z φ w a hs hT _ => wpIn_ret (Comes.refl (e := .ret) hs hT)
theorem code_exit {id : Nat} {T : List V} : CodeRel P B E (.exit id) T H (.exit id) T H := fun ro n Z φ w a hs hT _ => wpIn_exit (Comes.refl (e := .exit id) hs hT)
theorem round_ext {ro : Option Nat} (e : Ext Z φ H w φ' H' w') (h : ∀ l, ro = some l → ∃ L, w.heap[l]? = some (.loop L)) : ∀ l, ro = some l → ∃ L, w'.heap[l]? = some (.loop L) := by
  intro l hl; obtain ⟨L, hL⟩ := h l hl; exact e.loops l L hL
theorem code_seq_normal {x y : Code} {T T1 T2 : List V} {H1 H2 : Heap} {e : Ex} (h1 : CodeRel P B E x T H .normal T1 H1) (h2 : CodeRel P B E y T1 H1 e T2 H2) : CodeRel P B E (.seq x y) T H e T2 H2 := by
  intro ro n Z φ w a hs hT hro
  refine wpIn_seq (wpIn_mono (h1 ro n Z φ w a hs hT hro) ?_)
  rintro ex a1 w1 ⟨φ1, rfl, q1, q2, q3, ds, q4, q5⟩
  exact wpIn_mono (h2 ro n Z φ1 w1 a1 (hs.ext q2 q1) q3 (round_ext q2 hro)) fun ex a2 w2 h => Comes.trans q2 q4 q5 h
theorem code_seq_left {x y : Code} {T T1 : List V} {H1 : Heap} {e : Ex} (he : e ≠ .normal) (h1 : CodeRel P B E x T H e T1 H1) : CodeRel P B E (.seq x y) T H e T1 H1 := by
  intro ro n Z φ w a hs hT hro
  refine wpIn_seq (wpIn_mono (h1 ro n Z φ w a hs hT hro) ?_)
  rintro ex a1 w1 h
  obtain ⟨φ1, rfl, q⟩ := h
  cases e with
  | normal => exact absurd rfl he
  | _ => exact ⟨φ1, rfl, q⟩
theorem code_cond (hE : EnvRun P B E) {c : Operand} {x y : Code} {T T1 : List V} {H1 : Heap} {e : Ex} {t : Bool} (hc : ev E T c = some (.fz (.s (.bool t)))) (h : CodeRel P B E (if t then x else y) T H e T1 H1) : CodeRel P B E (.cond c x y) T H e T1 H1 := by
  intro ro n Z φ w a hs hT hro
  exact wpIn_cond (ev_rel hE.gl hs hT hc).s_inv (h ro n Z φ w a hs hT hro)
theorem code_block_exit {id : Nat} {c : Code} {T T1 : List V} {H1 : Heap} (h : CodeRel P B E c T H (.exit id) T1 H1) : CodeRel P B E (.block id c) T H .normal T1 H1 := by
  intro ro n Z φ w a hs hT hro
  refine wpIn_block (wpIn_mono (h ro n Z φ w a hs hT hro) ?_)
  rintro ex a1 w1 ⟨φ1, rfl, q⟩
  show (if id = id then _ else _)
  rw [if_pos rfl]; exact ⟨φ1, rfl, q⟩
theorem code_block_else {id : Nat} {c : Code} {T T1 : List V} {H1 : Heap} {e : Ex} (he : e ≠ .exit id) (h : CodeRel P B E c T H e T1 H1) : CodeRel P B E (.block id c) T H e T1 H1 := by
  intro ro n Z φ w a hs hT hro
  refine wpIn_block (wpIn_mono (h ro n Z φ w a hs hT hro) ?_)
  rintro ex a1 w1 ⟨φ1, rfl, q⟩
  cases e with
  | exit k =>
    show (if k = id then _ else _)
    rw [if_neg (fun hk => he (by rw [hk]))]; exact ⟨φ1, rfl, q⟩
  | _ => exact ⟨φ1, rfl, q⟩

/-! ### loops -/
theorem LoopIn.loop {F : Fence} {n : Nat} {c : Code} {Q : Exit → Act → World → Prop} {a : Act} (h : LoopIn F n P c Q a w) : (Code.loop c).wpIn F n P Q a w := by
  intro b k cs hro hb hr
  obtain ⟨e, a', w', q, r⟩ := h b k cs hro hb hr
  exact ⟨e, a', w', q, .of_steps (.one (fenced_calm hb hr rfl) stepR_loop) r⟩
theorem LoopIn.next {F : Fence} {n : Nat} {c : Code} {Q : Exit → Act → World → Prop} {a : Act} (h : c.wpIn F n P (Exit.then (LoopIn F n P c Q) Q) a w) : LoopIn F n P c Q a w := by
  intro b k cs hro hb hr
  obtain ⟨e, a₁, w₁, hq, harr⟩ := h b (.inLoop c :: k) cs hro hb hr
  cases e with
  | normal =>
    obtain ⟨e₂, a₂, w₂, hq₂, harr₂⟩ := hq b k cs hro hb hr
    exact ⟨e₂, a₂, w₂, hq₂, .of_steps (StepsIn.trans harr (.one (fenced_calm hb hr rfl) stepR_inLoop)) harr₂⟩
  | exit id => exact ⟨_, a₁, w₁, hq, .pass (x := .inLoop c) rfl (fun _ _ => .inl (by simp)) harr⟩
  | goto l => exact ⟨_, a₁, w₁, hq, .pass (x := .inLoop c) rfl (fun _ _ => .inl (by simp)) harr⟩
  | ret => exact ⟨_, a₁, w₁, hq, .pass (x := .inLoop c) rfl (fun _ _ => .inl (by simp)) harr⟩
  | panic ch => exact ⟨_, a₁, w₁, hq, .pass (x := .inLoop c) rfl (fun _ _ => .inl (by simp)) harr⟩
  | outgrown => exact ⟨_, a₁, w₁, hq, .pass (x := .inLoop c) rfl (fun _ _ => .inl (by simp)) harr⟩
theorem LoopRel.code {c : Code} {T T' : List V} {e : Ex} (h : LoopRel P B E c T H e T' H') : CodeRel P B E (.loop c) T H e T' H' :=
  fun ro n Z φ w a hs hT hro => (h ro n Z φ w a hs hT hro).loop
theorem loop_normal {c : Code} {T T1 T2 : List V} {H1 H2 : Heap} {e : Ex} (h1 : CodeRel P B E c T H .normal T1 H1) (h2 : LoopRel P B E c T1 H1 e T2 H2) : LoopRel P B E c T H e T2 H2 := by
  intro ro n Z φ w a hs hT hro
  refine LoopIn.next (wpIn_mono (h1 ro n Z φ w a hs hT hro) ?_)
  rintro ex a1 w1 ⟨φ1, rfl, q1, q2, q3, ds, q4, q5⟩
  intro b k cs hro' hb hr
  obtain ⟨e', a', w', q, r⟩ := h2 ro n Z φ1 w1 a1 (hs.ext q2 q1) q3 (round_ext q2 hro) b k cs hro' hb hr
  exact ⟨e', a', w', Comes.trans q2 q4 q5 q, r⟩
theorem loop_left {c : Code} {T T1 : List V} {H1 : Heap} {e : Ex} (he : e ≠ .normal) (h1 : CodeRel P B E c T H e T1 H1) : LoopRel P B E c T H e T1 H1 := by
  intro ro n Z φ w a hs hT hro
  refine LoopIn.next (wpIn_mono (h1 ro n Z φ w a hs hT hro) ?_)
  rintro ex a1 w1 h
  obtain ⟨φ1, rfl, q⟩ := h
  cases e with
  | normal => exact absurd rfl he
  | _ => exact ⟨φ1, rfl, q⟩

/-! ### regions -/
theorem code_region (hE : EnvRun P B E) {rec : Task → Option Out} (hr : RecOk P B E rec) {id : Nat} {ops : Array Oper} {draw : Bool} (hok : codeOk (.region id ops draw) = true) {T T' : List V} (hl : regR E rec ops draw T H = some (T', H')) :
    CodeRel P B E (.region id ops draw) T H .normal T' H' := by
  intro ro n Z φ w a hs hT hro
  have hQ : ∀ a' w' φ', HRel Z φ' H' w' → Ext Z φ H w φ' H' w' → TRel Z φ' H' w' T' a'.tmps → a'.defers = a.defers → Comes B E Z φ H w a .normal T' H' .normal a' w' :=
    fun a' w' φ' q1 q2 q3 q4 => ⟨φ', rfl, q1, q2, q3, [], q4, trivial⟩
  unfold regR at hl
  unfold codeOk at hok
  cases draw with
  | false =>
    simp only [cond_false] at hl hok
    exact seq_region hE hr hok hs hT hl hQ
  | true =>
    simp only [cond_true, drawnOk] at hl hok
    cases htwo : twoTail ops with
    | true =>
      rw [htwo] at hl hok
      simp only [cond_true] at hl hok
      exact two_region hE hr htwo hok hs hT hl hQ
    | false =>
      rw [htwo] at hl hok
      simp only [cond_false] at hl hok
      exact chain_region hE hr hok hs hT hl hQ
end Go.Vm
/- Calls and rounds. -/
set_option linter.unusedVariables false
set_option linter.unusedSimpArgs false
set_option linter.unusedSectionVars false
namespace Go.Vm
variable [Valu]
variable {P : Program} {B : Base} {E : Env} {Z : Nat → Prop} {φ φ' : Phi} {H H' : Heap} {w w' : World}

/-! ### a mark is come to -/
theorem cell_not_obj {D : Nat} {ob : Obj} (h : w.heap[D]? = some ob) (hc : ∀ c e f, ob ≠ .cells c e f) (o : Nat) : w.cell? ⟨D, o, none⟩ = none := by
  unfold World.cell?
  rw [h]
  cases ob <;> first | rfl | exact absurd rfl (hc _ _ _)
theorem shut_mv {D : Nat} {x : Option (List Deferred)} (hD : w.heap[D]? = some (.deferred x)) (hu : ∀ b o, φ b ≠ some (D, o)) (ob : Obj) : Mv Z φ H w Z φ H (w.putObj D ob) := by
  refine ⟨fun r hr => ⟨⟨by simpa using hr.1, hr.2⟩, fun o v hc => ?_⟩, Nat.le_refl _, fun b B1 B2 h1 h2 => ?_⟩
  · have hne : r ≠ D := by
      rintro rfl
      rw [cell_not_obj hD (by simp)] at hc; cases hc
    exact cell_same (World.putObj_heap_other hne) o v hc
  · rw [h1] at h2; cases h2
    refine Blk.to_refl _ fun r o hb => ⟨hb, ?_⟩
    unfold cellsSize; rw [World.putObj_heap_other (fun e => hu b o (by rw [← e]; exact hb))]
theorem shut_hrel (h : HRel Z φ H w) {D : Nat} {x : Option (List Deferred)} (hD : w.heap[D]? = some (.deferred x)) (hu : ∀ b o, φ b ≠ some (D, o)) (ob : Obj) : HRel Z φ H (w.putObj D ob) := by
  refine ⟨h.inj, fun b r o hb => by simpa using h.dom b r o hb, fun r hr => by simpa using h.zlt r hr, fun b Bk r o hB hb => ?_⟩
  obtain ⟨o', h1, h2⟩ := h.blk b Bk r o hB hb
  exact ⟨o', by rw [World.putObj_heap_other (fun e => hu b o (by rw [← e]; exact hb))]; exact h1, h2.mv (shut_mv hD hu ob)⟩
theorem shut_ext {φ0 : Phi} {H0 : Heap} {w0 : World} (e : Ext Z φ0 H0 w0 φ H w) {D : Nat} {x : Option (List Deferred)} (hD : w.heap[D]? = some (.deferred x)) (hu : ∀ b o, φ b ≠ some (D, o)) (hlo : w0.heap.size ≤ D) (ob : Obj) : Ext Z φ0 H0 w0 φ H (w.putObj D ob) := by
  have hm : ∀ {b r o}, φ b = some (r, o) → r ≠ D := fun {b r o} hb he => hu b o (by rw [← he]; exact hb)
  refine ⟨by simpa using e.size, fun r hr hn => by rw [World.putObj_heap_other (by omega)]; exact e.keep r hr hn, fun b v wd rs r o h1 h2 => ?_, e.new, e.none, e.len, fun b B1 B2 h1 h2 => ?_, fun r L hL => ?_, e.os, e.tape, e.output⟩
  · obtain ⟨q1, q2, q3⟩ := e.frz b v wd rs r o h1 h2
    exact ⟨by rw [World.putObj_heap_other (hm q2)]; exact q1, q2, q3⟩
  · refine Blk.to_mono (fun hp r o hb => ?_) (e.blk b B1 B2 h1 h2)
    obtain ⟨p1, p2⟩ := hp r o hb
    exact ⟨p1, by rw [← p2]; unfold cellsSize; rw [World.putObj_heap_other (hm p1)]⟩
  · obtain ⟨L', hL'⟩ := e.loops r L hL
    refine ⟨L', ?_⟩
    rw [World.putObj_heap_other]
    · exact hL'
    · rintro rfl; rw [hD] at hL'; cases hL'
theorem Marks.shut {lo : Nat} {D : Nat} {ds : List Deferred} (m : Marks φ lo w ds) (hne : ∀ d ∈ ds, d ≠ { target := .collected D, args := #[] }) (ob : Obj) : Marks φ lo (w.putObj D ob) ds := by
  induction ds with
  | nil => trivial
  | cons d ds ih =>
    obtain ⟨D', h1, h2, h3, h4, h5, h6⟩ := m
    refine ⟨D', h1, h2, ?_, h4, ih h5 (fun d' hd' => hne d' (by simp [hd'])), h6⟩
    rw [World.putObj_heap_other]
    · exact h3
    · rintro rfl; exact hne d (by simp) h1
theorem leaves_marks {fn : Func} {n : Nat} {tmps : Array Value} {R : Ending → World → Prop} {T : List V} {φ0 : Phi} {H0 : Heap} {w0 : World} {ds : List Deferred} (h : HRel Z φ H w) (e : Ext Z φ0 H0 w0 φ H w) (hT : TRel Z φ H w T tmps) (m : Marks φ w0.heap.size w ds)
    (hR : ∀ w', HRel Z φ H w' → Ext Z φ0 H0 w0 φ H w' → TRel Z φ H w' T tmps → LeavesIn Fence.wide n P fn tmps R [] .returning w') : LeavesInM Fence.wide n P fn tmps R ds .returning w := by
  induction ds generalizing w with
  | nil => exact hR w h e hT
  | cons d ds ih =>
    obtain ⟨D, rfl, h2, h3, h4, h5, h6⟩ := m
    refine ⟨by simp, .inl ⟨D, _, rfl, run_takeDeferred h3, ?_⟩⟩
    exact ih (shut_hrel h h3 h4 _) (shut_ext e h3 h4 h2 _) (hT.mv (shut_mv h3 h4 _)) (h5.shut h6 _)

/-! ### results -/
def resGet (tmps : Array Value) : ResultVar → Sem Value
  | .tmp t => pure (tmps.getD t undef)
  | .cell a t => do loadVar t (← asAddr (tmps.getD a undef))
theorem results_eq (fn : Func) (tmps : Array Value) : results fn tmps = (do
    let vs ← fn.results.mapM (resGet tmps)
    pure (if h : vs.size = 1 then vs[0] else .tuple vs)) := rfl
theorem resV_ok (hE : EnvRun P B E) (h : HRel Z φ H w) {T : List V} {tmps : Array Value} (hT : TRel Z φ H w T tmps) {rs : List ResultVar} {l : List V} (hl : resV H E T rs = some l) :
    ∃ vs, (rs.mapM (resGet tmps)).run P w = .ok vs w ∧ LRel Z φ H w l vs := by
  have hget : ∀ {t : Nat} {v : V}, T[t]? = some v → VRel Z φ H w v (tmps.getD t undef) := by
    intro t v ht
    obtain ⟨x, h1, h2⟩ := hT.get ht
    rw [Array.getD_eq_getD_getElem?, h1]; exact h2
  induction rs generalizing l with
  | nil => simp only [resV, Option.some.injEq] at hl; subst hl; exact ⟨[], rfl, .nil⟩
  | cons r rs ih =>
    cases r with
    | tmp t =>
      simp only [resV] at hl
      split at hl
      · rename_i v l' h1 h2
        cases hl
        obtain ⟨vs, h3, h4⟩ := ih h2
        exact ⟨tmps.getD t undef :: vs, by simp only [List.mapM_cons, resGet, Sem.run_bind, Sem.run_pure, Result.andThen, h3], .cons (hget h1) h4⟩
      · cases hl
    | cell a t =>
      simp only [resV] at hl
      split at hl
      · rename_i av i l' h1 h2 h3
        split at hl
        · rename_i v hv
          cases hl
          obtain ⟨vs, h4, h5⟩ := ih h3
          obtain ⟨ad, y, h6, h7, h8⟩ := loadVar_rel (P := P) hE.ok h h2 (hget h1) hv
          refine ⟨y :: vs, ?_, .cons h8 h5⟩
          have ha : (asAddr (.pointer (some ad))).run P w = .ok ad w := by simp [asAddr]
          simp only [List.mapM_cons, resGet, Sem.run_bind, Sem.run_pure, Result.andThen, h6, ha, h7, h4]
        · cases hl
      · cases hl
theorem results_ok (hE : EnvRun P B E) (h : HRel Z φ H w) {T : List V} {tmps : Array Value} (hT : TRel Z φ H w T tmps) {fn : Func} {l : List V} (hl : resV H E T fn.results.toList = some l) :
    ∃ y, (results fn tmps).run P w = .ok y w ∧ VRel Z φ H w (oneOr l) y := by
  obtain ⟨vs, h1, h2⟩ := resV_ok hE h hT hl
  refine ⟨if h : vs.toArray.size = 1 then vs.toArray[0] else .tuple vs.toArray, ?_, ?_⟩
  · rw [results_eq, Array.mapM_eq_mapM_toList]
    simp only [Sem.run_bind, Sem.run_map]
    rw [h1]
    rfl
  · unfold oneOr
    split
    · rename_i v
      obtain ⟨x, vs', rfl, h3, h4⟩ := h2.cons_inv
      have : vs' = [] := by have := h4.1; simp at this; exact List.eq_nil_of_length_eq_zero this.symm
      subst this
      simpa using h3
    · rename_i hne
      have hs : vs.length ≠ 1 := by
        rw [← h2.1]
        intro h1
        obtain ⟨v, hv⟩ := List.length_eq_one_iff.1 h1
        exact hne v hv
      rw [dif_neg (by simpa using hs)]
      exact mkTup_rel h2

/-! ### calls -/
theorem call_ok (hE : EnvRun P B E) {rec : Task → Option Out} (hr : RecOk P B E rec) {f : FuncId} {args : List V} {o : Out} (hl : sCall E rec f args H = some o) : ∃ v H', o = .val v H' ∧ CallOk P B E f args H v H' := by
  unfold sCall at hl
  split at hl
  · rename_i fn hfn
    obtain ⟨hf, hname, hbody⟩ := hE.fn f fn hfn
    unfold sBody at hl
    split at hl
    · rename_i c hc
      split at hl
      · rename_i hle
        have hex : ∃ e T' H1 l, (e = .normal ∨ e = .ret) ∧ rec (.code c (args ++ List.replicate (fn.ntmps - args.length) undefV) H) = some (.ex e T' H1) ∧ resV H1 E T' fn.results.toList = some l ∧ o = .val (oneOr l) H1 := by
          unfold endCall at hl
          split at hl
          · rename_i T' H1 hrec
            split at hl
            · rename_i l hres; cases hl; exact ⟨.normal, T', H1, l, .inl rfl, hrec, hres, rfl⟩
            · cases hl
          · rename_i T' H1 hrec
            split at hl
            · rename_i l hres; cases hl; exact ⟨.ret, T', H1, l, .inr rfl, hrec, hres, rfl⟩
            · cases hl
          · cases hl
        obtain ⟨e, T', H1, l, he, hrec, hres, rfl⟩ := hex
        obtain ⟨e', T'', H1', h1, hrel, _⟩ := hr.code _ _ _ _ hrec (hbody c hc)
        cases h1
        refine ⟨_, _, rfl, fun args w => ?_, fun Z φ w vals hs ha => ?_⟩
        · have hp : (program : Sem Program).run P w = .ok P w := rfl
          simp only [callFunc, Sem.run_bind, hp, Result.andThen, hf]
          simp [hname, hc]
        · refine (callsIn_wide (n := 0)).1 (callsIn_of_wp_marks hf hc trivial ?_)
          have hlen : args.length = vals.size := by simpa using ha.1
          have hT : TRel Z φ H w (args ++ List.replicate (fn.ntmps - args.length) undefV) (vals ++ Array.replicate (fn.ntmps - vals.size) undef) := by
            refine ⟨by simp [hlen], fun i v x h2 h3 => ?_⟩
            by_cases hi : i < args.length
            · rw [List.getElem?_append_left hi] at h2
              rw [Array.getElem?_append_left (by omega)] at h3
              exact ha.2 i v x h2 (by simpa using h3)
            · rw [List.getElem?_append_right (by omega), List.getElem?_replicate] at h2
              rw [Array.getElem?_append_right (by omega), Array.getElem?_replicate] at h3
              split at h2
              · split at h3
                · cases h2; cases h3; exact .s .undef
                · cases h3
              · cases h2
          refine wpIn_mono (hrel none 0 Z φ w { tmps := vals ++ Array.replicate (fn.ntmps - vals.size) undef, defers := [] } hs hT (fun l hl => by cases hl)) ?_
          rintro ex a1 w1 ⟨φ1, rfl, q1, q2, q3, ds, q4, q5⟩
          simp only [List.append_nil] at q4
          have hleave : LeavesInM Fence.wide 0 P fn a1.tmps (Left Z φ H w (oneOr l) H1) a1.defers .returning w1 := by
            rw [q4]
            refine leaves_marks q1 q2 q3 q5 fun w2 g1 g2 g3 => ?_
            obtain ⟨y, r1, r2⟩ := results_ok hE g1 g3 hres
            exact ⟨y, r1, y, φ1, rfl, r2, g1, g2⟩
          rcases he with rfl | rfl
          · exact hleave
          · exact hleave
      · cases hl
    · cases hl
  · cases hl
theorem pcall_ok (hE : EnvRun P B E) {rec : Task → Option Out} (hr : RecOk P B E rec) {f : FuncId} {xs : List F} {o : Out} (hl : endP (rec (.call f (xs.map .fz) [])) = some o) : ∃ x, o = .pv x ∧ PureCalls P B f xs x := by
  unfold endP at hl
  split at hl
  · rename_i v H1 hrec
    split at hl
    · rename_i x H2 hfz
      cases hl
      obtain ⟨v', H1', h1, hen, hcalls⟩ := hr.call _ _ _ _ hrec
      cases h1
      refine ⟨x, rfl, hen, fun st w vals hgl hlt hlen hrel => ?_⟩
      have hst : ∀ r, stable (fun r => r < w.heap.size ∧ ¬ st r) (fun _ => none) [] w r ↔ st r := by
        intro r
        constructor
        · rintro ⟨h1, h2, _⟩
          exact Classical.byContradiction fun h => h2 ⟨h1, h⟩
        · intro h
          exact ⟨hlt r h, fun h2 => h2.2 h, fun b o hb => by cases hb⟩
      have hh : HRel (fun r => r < w.heap.size ∧ ¬ st r) (fun _ => none) [] w := ⟨fun b b' r o o' h => (by cases h), fun b r o h => (by cases h), fun r hr => hr.1, fun b Bk r o h => by simp at h⟩
      have hs : SRel B E (fun r => r < w.heap.size ∧ ¬ st r) (fun _ => none) [] w := ⟨hh, fun r hr => ⟨(hst r).2 (hgl r hr).1, (hgl r hr).2⟩⟩
      have ha : LRel (fun r => r < w.heap.size ∧ ¬ st r) (fun _ => none) [] w (xs.map .fz) vals.toList := by
        refine ⟨by simpa using hlen, fun i v x h2 h3 => ?_⟩
        simp only [List.getElem?_map, Option.map_eq_some_iff] at h2
        obtain ⟨y, h4, rfl⟩ := h2
        exact .fz _ _ ((hrel i y x h4 (by simpa using h3)).mono (fun r hr => (hst r).2 hr) (fun _ _ => rfl))
      refine (callsIn_wide (n := 0)).1 (((callsIn_wide (n := 0)).2 (hcalls _ _ w vals hs ha)).mono ?_)
      rintro e w' ⟨y, φ', rfl, h2, h3, h4⟩
      obtain ⟨m, hx⟩ := frzV_ok frzFuel H1 v x H2 y h3 h2 hfz
      refine ⟨y, rfl, h4.size, fun r hr => h4.keep r hr (fun b o hb => by cases hb), h4.os, h4.tape, h4.output, hx.mono (fun r hr => ?_) (fun _ _ => rfl)⟩
      by_cases hlt2 : r < w.heap.size
      · left
        exact Classical.byContradiction fun h => hr.2.1 ⟨hlt2, h⟩
      · exact .inr ⟨by omega, hr.1⟩
    · cases hl
  · cases hl
end Go.Vm
/- Ranges over functions; the whole. -/
set_option linter.unusedVariables false
set_option linter.unusedSimpArgs false
set_option linter.unusedSectionVars false
namespace Go.Vm
variable [Valu]
variable {P : Program} {B : Base} {E : Env} {Z : Nat → Prop} {φ φ' : Phi} {H H' : Heap} {w w' : World}

/-- a loop's record is written -/
theorem loop_written (h : HRel Z φ H w) {b r : Nat} {l : LoopV} {Bk : Blk} {L L' : Loop} (hb : H[b]? = some (.loop l)) (hφ : φ b = some (r, 0)) (hw : w.heap[r]? = some (.loop L))
    (hBk : Bk = .dead ∨ ∃ l', Bk = .loop l') (ho : ORel Z φ H w 0 Bk (.loop L')) : HRel Z φ (H.set b Bk) (w.putObj r (.loop L')) ∧ Ext Z φ H w φ (H.set b Bk) (w.putObj r (.loop L')) := by
  have hlt := lt_of_get hb
  have hrl := heap_lt hw
  have hset : ∀ k, k ≠ r → (w.putObj r (.loop L')).heap[k]? = w.heap[k]? := fun k hk => World.putObj_heap_other hk
  have hself : (w.putObj r (.loop L')).heap[r]? = some (.loop L') := World.putObj_heap_same hrl
  have e1 : Ext Z φ H w φ (H.set b Bk) (w.putObj r (.loop L')) := by
    refine ⟨by simp, fun k hk hn => hset k (fun he => hn b 0 (he ▸ hφ)), fun b2 v2 wd2 rs2 r2 o2 hm hb2 => ?_, fun b2 r2 o2 hb2 => .inl ⟨o2, hb2⟩, fun b2 hb2 hn => hn, by simp, fun b2 B1 B2 h1 h2 => ?_, fun k L1 hL => ?_, rfl, rfl, rfl⟩
    · have hne : b2 ≠ b := by rintro rfl; rw [hb] at hm; cases hm
      refine ⟨hset _ (fun he => hne (h.inj _ _ _ _ _ (he ▸ hb2) hφ)), hb2, v2, wd2, rs2, ?_⟩
      rw [List.getElem?_set_ne (Ne.symm hne)]; exact hm
    · by_cases hb' : b2 = b
      · subst hb'
        rw [hb] at h1; cases h1
        rw [List.getElem?_set_self hlt] at h2; cases h2
        rcases hBk with rfl | ⟨l', rfl⟩
        · trivial
        · intro r2 o2 h3
          rw [hφ] at h3; cases h3
          exact ⟨hφ, by unfold cellsSize; simp only [hself, hw]⟩
      · rw [List.getElem?_set_ne (Ne.symm hb'), h1] at h2; cases h2
        refine Blk.to_refl _ (fun r2 o2 h3 => ⟨h3, ?_⟩)
        have hr2 : r2 ≠ r := fun he => by subst he; exact hb' (h.inj _ _ _ _ _ h3 hφ)
        unfold cellsSize; simp only [hset r2 hr2]
    · by_cases hk : k = r
      · subst hk; exact ⟨L', hself⟩
      · exact ⟨L1, by rw [hset k hk]; exact hL⟩
  refine ⟨h.change e1 b h.inj (fun b2 r2 o2 hb2 => ?_) (fun b2 B r2 o2 hne hB hb2 => ?_) (fun B r2 o2 hB hb2 => ?_), e1⟩
  · have := h.dom _ _ _ hb2; exact ⟨by simpa using this.1, by simpa using this.2.1, this.2.2⟩
  · rw [List.getElem?_set_ne (Ne.symm hne)] at hB
    exact ⟨hB, hb2, hset _ (fun he => hne (h.inj _ _ _ _ _ (he ▸ hb2) hφ))⟩
  · rw [hφ] at hb2; cases hb2
    rw [List.getElem?_set_self hlt] at hB; cases hB
    exact ⟨_, hself, ho.ext e1⟩
/-- the record of a loop -/
theorem loop_at (h : HRel Z φ H w) {b r o : Nat} {l : LoopV} (hb : H[b]? = some (.loop l)) (hφ : φ b = some (r, o)) : ∃ L : Loop, w.heap[r]? = some (.loop L) ∧ o = 0 ∧ L.state = l.st ∧ L.pending = l.pending ∧ L.params.toList = l.ps ∧ L.assign = l.assign ∧ L.body = l.body ∧
      TRel Z φ H w l.tmps L.tmps ∧ codeOk l.assign = true ∧ codeOk l.body = true := by
  obtain ⟨ob, h1, L, rfl, h2⟩ := h.blk b _ r o hb hφ
  exact ⟨L, h1, h2⟩
theorem loop_kept (e : Ext Z φ H w φ' H' w') {b r : Nat} {l l' : LoopV} (hb : H[b]? = some (.loop l)) (hb' : H'[b]? = some (.loop l')) (hφ : φ b = some (r, 0)) : φ' b = some (r, 0) := by
  have := e.blk b _ _ hb hb'
  exact (this r 0 hφ).1

theorem setPs_rel {ps : List Tmp} {T : List V} {ts : Array Value} (hT : TRel Z φ H w T ts) {args : List V} {vals : List Value} (ha : LRel Z φ H w args vals) :
    TRel Z φ H w (setPs (ps.zip args) T) ((ps.zip vals).foldl (fun tmps p => tmps.setIfInBounds p.1 p.2) ts) := by
  induction ps generalizing T ts args vals with
  | nil => exact hT
  | cons p ps ih =>
    cases args with
    | nil =>
      cases vals with
      | nil => exact hT
      | cons _ _ => exact absurd ha.1 (by simp)
    | cons v args =>
      obtain ⟨x, vals', rfl, h1, h2⟩ := ha.cons_inv
      simp only [List.zip_cons_cons, setPs, List.foldl_cons]
      exact ih (put_rel (a := { tmps := ts, defers := [] }) (dst := some p) hT h1) h2

theorem round_ok (hE : EnvRun P B E) {rec : Task → Option Out} (hr : RecOk P B E rec) {l : Nat} {args : List V} {o : Out} (hl : sRound rec l args H = some o) : ∃ v H', o = .val v H' ∧ RoundOk P B E l args H v H' := by
  unfold sRound at hl
  split at hl
  rotate_left
  · cases hl
  rename_i r hH
  split at hl
  rotate_left
  · cases hl
  rename_i hcond
  obtain ⟨hready, hlen⟩ := hcond
  unfold sAssignR at hl
  split at hl
  rotate_left
  · cases hl
  rename_i T1 H1 hrec1
  split at hl
  rotate_left
  · cases hl
  rename_i r1 hH1
  split at hl
  rotate_left
  · cases hl
  rename_i hready1
  unfold sBodyR at hl
  split at hl
  rotate_left
  · cases hl
  rename_i e T2 H2 hrec2
  split at hl
  rotate_left
  · cases hl
  rename_i r2 hH2
  have hend : ∃ b jump, e.real = (match jump with | none => .normal | some c => (match c with | .ret => .ret | .exit id => .exit id | _ => .normal)) ∧ (jump = none ∨ jump = some .ret ∨ ∃ id, jump = some (.exit id)) ∧ b = jump.isNone ∧
      o = .val (bV b) (H2.set l (.loop { r2 with st := if jump.isNone then .ready else .done, pending := jump })) := by
    unfold endRound at hl
    cases e with
    | normal => cases hl; exact ⟨true, none, rfl, .inl rfl, rfl, rfl⟩
    | ret => cases hl; exact ⟨false, some .ret, rfl, .inr (.inl rfl), rfl, rfl⟩
    | exit id => cases hl; exact ⟨false, some (.exit id), rfl, .inr (.inr ⟨id, rfl⟩), rfl, rfl⟩
    | goto _ => cases hl
  obtain ⟨b, jump, hreal, hj, rfl, rfl⟩ := hend
  refine ⟨_, _, rfl, ⟨r, hH⟩, fun Z φ w vals rr n hs ha hφ => ?_⟩
  obtain ⟨L, hw, _, q1, q2, q3, q4, q5, q6, q7, q8⟩ := loop_at hs.h hH hφ
  have hps : vals.size = L.params.size := by
    have h1 : args.length = vals.size := by simpa using ha.1
    have h2 : L.params.size = r.ps.length := by rw [← q3]; simp
    omega
  refine ⟨L.fn, _, L.assign, L.body, run_yield hw hps, roundIn_of_wpIn trivial ?_⟩
  obtain ⟨e', T', H', he, hrel1, _⟩ := hr.code _ _ _ _ hrec1 q7
  cases he
  rw [q4]
  have hT1 : TRel Z φ H w (setPs (r.ps.zip args) r.tmps) ((L.params.zip vals).foldl (fun tmps (t, a) => tmps.setIfInBounds t a) L.tmps) := by
    have := setPs_rel (ps := r.ps) q6 ha
    rw [← Array.foldl_toList, Array.toList_zip, q3]
    exact this
  refine wpIn_mono (hrel1 (some rr) n Z φ w { tmps := _, defers := [] } hs hT1 (fun k hk => by cases hk; exact ⟨L, hw⟩)) ?_
  rintro ex a1 w1 ⟨φ1, rfl, g1, g2, g3, _⟩
  have hφ1 := loop_kept g2 hH hH1 hφ
  obtain ⟨L1, hw1, _, p1, p2, p3, p4, p5, p6, p7, p8⟩ := loop_at g1 hH1 hφ1
  refine ⟨_, run_beginRound hw1 (by rw [p1, hready1]), ?_⟩
  obtain ⟨k1, k2⟩ := loop_written (Bk := .loop { r1 with st := .busy }) (L' := { L1 with state := .busy }) g1 hH1 hφ1 hw1 (.inr ⟨_, rfl⟩) ⟨_, rfl, rfl, rfl, p2, p3, p4, p5, p6, p7, p8⟩
  obtain ⟨e', T', H', he, hrel2, _⟩ := hr.code _ _ _ _ hrec2 q8
  cases he
  rw [q5]
  have e2 := g2.trans k2
  refine wpIn_mono (hrel2 (some rr) n Z φ1 _ a1 (hs.ext e2 k1) (g3.ext k2) (fun k hk => by cases hk; exact ⟨_, World.putObj_heap_same (heap_lt hw1)⟩)) ?_
  rintro ex a2 w3 ⟨φ2, rfl, m1, m2, m3, _⟩
  have hH1' : (H1.set l (.loop { r1 with st := .busy }))[l]? = some (.loop { r1 with st := .busy }) := List.getElem?_set_self (lt_of_get hH1)
  have hφ2 := loop_kept m2 hH1' hH2 hφ1
  obtain ⟨L2, hw2, _, s1, s2, s3, s4, s5, s6, s7, s8⟩ := loop_at m1 hH2 hφ2
  obtain ⟨k3, k4⟩ := loop_written (Bk := .loop { r2 with st := if jump.isNone then .ready else .done, pending := jump }) (L' := { L2 with state := if jump.isNone then .ready else .done, pending := jump }) m1 hH2 hφ2 hw2 (.inr ⟨_, rfl⟩) ⟨_, rfl, rfl, rfl, rfl, s3, s4, s5, s6, s7, s8⟩
  have hfin : ∃ v w', (Instr.endRound rr jump).run P w3 = .ok v w' ∧ Left Z φ H w (bV jump.isNone) (H2.set l (.loop { r2 with st := if jump.isNone then .ready else .done, pending := jump })) (.returned v) w' :=
    ⟨_, _, run_endRound jump hw2, _, φ2, rfl, .bV _, k3, (e2.trans m2).trans k4⟩
  rcases hj with rfl | rfl | ⟨id, rfl⟩
  · rw [hreal]; exact hfin
  · rw [hreal]; exact hfin
  · rw [hreal]; exact hfin

theorem range_ok (hE : EnvRun P B E) {rec : Task → Option Out} (hr : RecOk P B E rec) {f : Operand} {ps : Array Tmp} {assign body : Code} (hok : codeOk (.rangeFunc f ps assign body) = true) {T : List V} {o : Out} (hl : sRange E rec f ps assign body T H = some o) :
    ∃ e T' H', o = .ex e T' H' ∧ CodeRel P B E (.rangeFunc f ps assign body) T H e T' H' := by
  unfold codeOk at hok
  rw [Bool.and_eq_true] at hok
  unfold sRange at hl
  split at hl
  rotate_left
  · cases hl
  rename_i fv hfv
  split at hl
  rotate_left
  · cases hl
  rename_i v2 H2 hcall
  -- the call
  have hcl : ∃ g cap, (∀ (Z : Nat → Prop) (φ : Phi) (H : Heap) (w : World) x, VRel Z φ H w fv x → ∃ vs : Array Value, x = .func (.func g) #[] vs ∧ LRel Z φ H w cap vs.toList) ∧
      CallOk P B E g (.yield H.length :: cap) (H ++ [.loop { st := .ready, pending := none, tmps := T, ps := ps.toList, assign, body }]) v2 H2 := by
    unfold callIter at hcall
    split at hcall
    · rename_i g
      unfold valOf at hcall
      split at hcall
      · rename_i v1 H1 hx
        cases hcall
        obtain ⟨v', H'', he, hc⟩ := hr.call _ _ _ _ hx
        cases he
        exact ⟨g, [], fun Z φ H w x hx => ⟨#[], hx.s_inv, .nil⟩, hc⟩
      · cases hcall
    · rename_i g cap
      unfold valOf at hcall
      split at hcall
      · rename_i v1 H1 hx
        cases hcall
        obtain ⟨v', H'', he, hc⟩ := hr.call _ _ _ _ hx
        cases he
        refine ⟨g, cap, fun Z φ H w x hx => ?_, hc⟩
        cases hx with
        | clo _ _ vs hlen hh => exact ⟨vs, rfl, by simpa using hlen, fun i c v h1 h2 => hh i c v h1 (by simpa using h2)⟩
      · cases hcall
    · cases hcall
  obtain ⟨lv, hlv⟩ : ∃ lv : LoopV, lv = { st := .ready, pending := none, tmps := T, ps := ps.toList, assign, body } := ⟨_, rfl⟩
  rw [← hlv] at hcl
  obtain ⟨g, cap, hshape, hen, hcalls⟩ := hcl
  -- behind it
  unfold endRange at hl
  split at hl
  rotate_left
  · cases hl
  rename_i r hH2
  split at hl
  · cases hl
  rename_i hbusy
  have hend : ∃ e, o = .ex e T (H2.set H.length .dead) ∧ ((e = .normal ∧ r.pending = none) ∨ (e = .ret ∧ r.pending = some .ret) ∨ ∃ id, e = .exit id ∧ r.pending = some (.exit id)) := by
    split at hl
    · rename_i hp; cases hl; exact ⟨.normal, rfl, .inl ⟨rfl, hp⟩⟩
    · rename_i hp; cases hl; exact ⟨.ret, rfl, .inr (.inl ⟨rfl, hp⟩)⟩
    · rename_i id hp; cases hl; exact ⟨.exit id, rfl, .inr (.inr ⟨id, rfl, hp⟩)⟩
    · cases hl
  obtain ⟨e, rfl, hjump⟩ := hend
  refine ⟨_, _, _, rfl, fun ro n Z φ w a hs hT hro => wpIn_rangeFunc fun fn _ => ?_⟩
  obtain ⟨lb, hlb, hcap⟩ := hshape Z φ H w _ (ev_rel hE.gl hs hT hfv)
  -- the record, with or without its mark
  have hrest : ∀ (wd : World) (mark : List Deferred) (df : Nat), HRel Z φ H wd → Ext Z φ H w φ H wd → Marks φ w.heap.size wd mark →
      CallsIn (Fz ro) (n - 1) P g (#[Value.func (.yield wd.heap.size) #[] #[]] ++ lb) (wd.alloc (.loop { state := .ready, pending := none, fn, tmps := a.tmps, params := ps, assign, body, defers := df }))
        (rangePost (Fz ro) n P wd.heap.size (Comes B E Z φ H w a e T (H2.set H.length .dead)) { a with defers := mark ++ a.defers }) := by
    intro wd mark df hd ed hm
    obtain ⟨L0, hL0⟩ : ∃ L0 : Loop, L0 = { state := .ready, pending := none, fn, tmps := a.tmps, params := ps, assign, body, defers := df } := ⟨_, rfl⟩
    rw [← hL0]
    have ho : ORel Z φ H wd 0 (.loop lv) (.loop L0) := by
      subst hlv hL0
      exact ⟨_, rfl, rfl, rfl, rfl, rfl, rfl, rfl, hT.ext ed, hok.1, hok.2⟩
    have h1 := hd.fresh _ _ ho
    have e1 := Ext.fresh hd (.loop lv) (.loop L0)
    have e01 := ed.trans e1
    have hyield : VRel Z (upd φ H.length (wd.heap.size, 0)) (H ++ [.loop lv]) (wd.alloc (.loop L0)) (.yield H.length) (Value.func (.yield wd.heap.size) #[] #[]) :=
      .yield _ _ ⟨_, rfl⟩ (by simp) fun L hL => ⟨_, upd_same _ _ _, rfl⟩
    have hargs : LRel Z (upd φ H.length (wd.heap.size, 0)) (H ++ [.loop lv]) (wd.alloc (.loop L0)) (.yield H.length :: cap) (#[Value.func (.yield wd.heap.size) #[] #[]] ++ lb).toList := by
      rw [Array.toList_append]
      exact .cons hyield (hcap.ext e01)
    have hc1 := hcalls Z _ _ (#[Value.func (.yield wd.heap.size) #[] #[]] ++ lb) (hs.ext e01 h1) hargs
    have hc2 : CallsIn (Fz ro) (n - 1) P g _ _ _ := fz_calls hc1
    refine CallsIn.mono hc2 ?_
    · rintro ex w3 ⟨y, φ2, rfl, g1, g2, g3⟩
      have hy2 := hyield.ext g3
      have hφ2 : φ2 H.length = some (wd.heap.size, 0) := by
        cases hy2 with
        | yield _ _ hv hb hh =>
          obtain ⟨r', q1, q2⟩ := hh r hH2
          cases q2; exact q1
      obtain ⟨L, hw3, _, s1, s2, _⟩ := loop_at g2 hH2 hφ2
      obtain ⟨k1, k2⟩ := loop_written (Bk := .dead) (L' := { L with state := .exhausted }) g2 hH2 hφ2 hw3 (.inl rfl) trivial
      have eall := (e01.trans g3).trans k2
      have hmall := (hm.ext (e1.trans g3)).ext k2
      have hcomes : Comes B E Z φ H w a e T (H2.set H.length .dead) e.real { a with defers := mark ++ a.defers } (w3.putObj wd.heap.size (.loop { L with state := .exhausted })) :=
        ⟨φ2, rfl, k1, eall, hT.ext eall, mark, rfl, hmall⟩
      have hrun := run_endLoop (P := P) hw3 (by rw [s1]; exact hbusy)
      generalize w3.putObj wd.heap.size (.loop { L with state := .exhausted }) = w5 at hcomes hrun
      refine ⟨L.pending, w5, hrun, ?_⟩
      rw [s2]
      rcases hjump with ⟨rfl, hp⟩ | ⟨rfl, hp⟩ | ⟨id, rfl, hp⟩
      · rw [hp]; exact hcomes
      · rw [hp]; exact wpIn_ret hcomes
      · rw [hp]; exact wpIn_exit hcomes
  have hres : ∀ (l : Nat) (w1 : World), (resolve a.eval (rangeCall f l) 0).run P w1 = .ok { target := .fn (.func g) lb, args := #[Value.func (.yield l) #[] #[]] } w1 := by
    intro l w1
    show (Deferred.ofValue (a.eval f) ((#[Operand.const (Value.func (.yield l) #[] #[])] : Array Operand).map a.eval)).run P w1 = _
    rw [hlb]
    simp [Deferred.ofValue]
    rfl
  have hinv : ∀ (l : Nat) (w1 : World), (invoke (.fn (.func g) lb) #[Value.func (.yield l) #[] #[]]).run P w1 = .ok (.enter g (#[Value.func (.yield l) #[] #[]] ++ lb)) w1 := by
    intro l w1
    simp only [invoke]; exact hen _ _
  cases ro with
  | none =>
    have hd := hs.h.alloc (.deferred (some []))
    have ed := Ext.alloc hs.h (.deferred (some []))
    refine ⟨w.heap.size + 1, [{ target := .collected w.heap.size, args := #[] }], _, _, _, g, _, _, run_enterLoop_outer fn a.tmps ps assign body, hres _ _, fun _ _ => trivial, hinv _ _, fun h => absurd h (by simp [Fz, Fence.wide]), ?_⟩
    have := hrest (w.alloc (.deferred (some []))) [{ target := .collected w.heap.size, args := #[] }] w.heap.size hd ed
      ⟨w.heap.size, rfl, Nat.le_refl _, push_new, fun b o hb => by have := (hs.h.dom b _ o hb).2.1; omega, trivial, fun d hd => by cases hd⟩
    rw [push_size] at this
    exact this
  | some l0 =>
    obtain ⟨L0, hL0⟩ := hro l0 rfl
    refine ⟨w.heap.size, [], _, _, _, g, _, _, run_enterLoop_inner hL0 fn a.tmps ps assign body, hres _ _, fun _ _ => trivial, hinv _ _, fun h => absurd h (by simp [Fz, Fence.wide]), ?_⟩
    exact hrest w [] L0.defers hs.h (.refl _ _ _ _) trivial

/-! ### the whole -/
theorem code_ok (hE : EnvRun P B E) {rec : Task → Option Out} (hr : RecOk P B E rec) {c : Code} {T : List V} {o : Out} (hok : codeOk c = true) (hl : sCode E rec c T H = some o) :
    ∃ e T' H', o = .ex e T' H' ∧ CodeRel P B E c T H e T' H' ∧ ∀ c', c = .loop c' → LoopRel P B E c' T H e T' H' := by
  have nl : ∀ {c e T' H'}, (∀ c', c ≠ Code.loop c') → CodeRel P B E c T H e T' H' → o = .ex e T' H' → ∃ e T' H', o = .ex e T' H' ∧ CodeRel P B E c T H e T' H' ∧ ∀ c', c = .loop c' → LoopRel P B E c' T H e T' H' :=
    fun hn h ho => ⟨_, _, _, ho, h, fun c' hc => absurd hc (hn c')⟩
  cases c with
  | skip => simp only [sCode, Option.some.injEq] at hl; exact nl (by simp) code_skip hl.symm
  | label l => simp only [sCode, Option.some.injEq] at hl; exact nl (by simp) code_label hl.symm
  | ret => simp only [sCode, Option.some.injEq] at hl; exact nl (by simp) code_ret hl.symm
  | exit id => simp only [sCode, Option.some.injEq] at hl; exact nl (by simp) code_exit hl.symm
  | seq a b =>
    unfold codeOk at hok
    rw [Bool.and_eq_true] at hok
    simp only [sCode, sSeq] at hl
    split at hl
    · rename_i T1 H1 hx
      obtain ⟨e1, T1', H1', h1, q1, _⟩ := hr.code _ _ _ _ hx hok.1
      cases h1
      obtain ⟨e2, T2, H2, h2, q2, _⟩ := hr.code _ _ _ _ hl hok.2
      exact nl (by simp) (code_seq_normal q1 q2) h2
    · rename_i hn
      obtain ⟨e1, T1', H1', h1, q1, _⟩ := hr.code _ _ _ _ hl hok.1
      subst h1
      exact nl (by simp) (code_seq_left (fun he => by subst he; exact hn _ _ hl) q1) rfl
  | cond c a b =>
    unfold codeOk at hok
    rw [Bool.and_eq_true] at hok
    simp only [sCode, sCond] at hl
    split at hl
    · rename_i t ht
      cases t with
      | true =>
        simp only [cond_true] at hl
        obtain ⟨e1, T1', H1', h1, q1, _⟩ := hr.code _ _ _ _ hl hok.1
        exact nl (by simp) (code_cond hE ht q1) h1
      | false =>
        simp only [cond_false] at hl
        obtain ⟨e1, T1', H1', h1, q1, _⟩ := hr.code _ _ _ _ hl hok.2
        exact nl (by simp) (code_cond hE ht q1) h1
    · cases hl
  | block id c =>
    unfold codeOk at hok
    simp only [sCode] at hl
    unfold leaveB at hl
    split at hl
    · rename_i k T1 H1 hx
      obtain ⟨e1, T1', H1', h1, q1, _⟩ := hr.code _ _ _ _ hx hok
      cases h1
      cases hk : Nat.beq k id with
      | true =>
        rw [hk, cond_true] at hl
        have := Nat.eq_of_beq_eq_true hk
        subst this
        cases hl
        exact nl (by simp) (code_block_exit q1) rfl
      | false =>
        rw [hk, cond_false] at hl
        cases hl
        exact nl (by simp) (code_block_else (fun he => by cases he; simp at hk) q1) rfl
    · rename_i hn
      obtain ⟨e1, T1', H1', h1, q1, _⟩ := hr.code _ _ _ _ hl hok
      subst h1
      exact nl (by simp) (code_block_else (fun he => by subst he; exact hn _ _ _ hl) q1) rfl
  | loop c =>
    unfold codeOk at hok
    simp only [sCode, sLoop] at hl
    have fin : ∀ {e T' H'}, LoopRel P B E c T H e T' H' → o = .ex e T' H' → ∃ e T' H', o = .ex e T' H' ∧ CodeRel P B E (.loop c) T H e T' H' ∧ ∀ c', Code.loop c = .loop c' → LoopRel P B E c' T H e T' H' :=
      fun h ho => ⟨_, _, _, ho, h.code, fun c' hc => by cases hc; exact h⟩
    split at hl
    · rename_i T1 H1 hx
      obtain ⟨e1, T1', H1', h1, q1, _⟩ := hr.code _ _ _ _ hx hok
      cases h1
      obtain ⟨e2, T2, H2, h2, _, q2⟩ := hr.code _ _ _ _ hl (by unfold codeOk; exact hok)
      exact fin (loop_normal q1 (q2 c rfl)) h2
    · rename_i hn
      obtain ⟨e1, T1', H1', h1, q1, _⟩ := hr.code _ _ _ _ hl hok
      subst h1
      exact fin (loop_left (fun he => by subst he; exact hn _ _ hl) q1) rfl
  | region id ops draw =>
    simp only [sCode, sReg] at hl
    split at hl
    · rename_i T' H' hx
      cases hl
      exact nl (by simp) (code_region hE hr hok hx) rfl
    · cases hl
  | rangeFunc f ps assign body =>
    simp only [sCode] at hl
    obtain ⟨e, T', H', h1, h2⟩ := range_ok hE hr hok hl
    exact nl (by simp) h2 h1
  | scope c => simp [sCode] at hl
  | goto l => simp [sCode] at hl
  | refuse s => simp [sCode] at hl
theorem step_ok (hE : EnvRun P B E) {rec : Task → Option Out} (hr : RecOk P B E rec) : RecOk P B E (step E rec) :=
  ⟨fun c T H o hl hok => code_ok hE hr hok hl, fun f args H o hl => call_ok hE hr hl, fun f xs o hl => pcall_ok hE hr hl, fun l args H o hl => round_ok hE hr hl⟩
theorem run_ok (hE : EnvRun P B E) : ∀ n, RecOk P B E (run E n)
  | 0 => ⟨fun _ _ _ _ h => (nomatch h), fun _ _ _ _ h => (nomatch h), fun _ _ _ h => (nomatch h), fun _ _ _ _ h => (nomatch h)⟩
  | n + 1 => step_ok hE (run_ok hE n)
/-- **what the machine reckons, the program does** -/
theorem pure_of_run (hE : EnvRun P B E) {n : Nat} {f : FuncId} {xs : List F} {x : F} (h : run E n (.pcall f xs) = some (.pv x)) : PureCalls P B f xs x := by
  obtain ⟨x', h1, h2⟩ := (run_ok hE n).pcall _ _ _ h
  cases h1; exact h2
end Go.Vm
/- Flat types: equality, and as keys of a map. -/
set_option linter.unusedVariables false
set_option linter.unusedSimpArgs false
set_option linter.unusedSectionVars false
namespace Go.Vm
variable [Valu]
variable {P : Program} {E : Env} {w : World}

/-- what is asked of a type's row -/
def TyRow (P : Program) (t : TypeId) (i : TyI) : Prop :=
  P.underlying t = some i.desc ∧ ∃ info z, P.info? t = some info ∧ info.size = i.size ∧ info.bytes = i.bytes ∧ info.zero = some z ∧
    i.zero.length = i.size ∧ i.isAgg = aggD i.desc ∧ (i.isAgg = true → z = .agg (i.zero.map S.val).toArray) ∧ (i.isAgg = false → ∃ s, i.zero = [s] ∧ z = s.val) ∧ (∀ s ∈ i.zero, s ≠ .undef)
/-- the parts of a struct lie one behind the other -/
def partsOk (ty : TypeId → Option TyI) (fl : TypeId → Bool) (z : List S) : Nat → List Field → Bool
  | o, [] => Nat.beq o z.length
  | o, f :: r => match ty f.type with
    | some fi => f.name != "_" && Nat.beq f.offset o && fl f.type && decide ((z.drop o).take fi.size = fi.zero) && Nat.beq fi.zero.length fi.size && Nat.ble (o + fi.size) z.length && partsOk ty fl z (o + fi.size) r
    | none => false
/-- a type of bools, integers and strings -/
def flatTy (ty : TypeId → Option TyI) (ok : TypeId → Bool) : Nat → TypeId → Bool
  | 0, _ => false
  | n + 1, t => match ty t with
    | some i => match i.desc with
      | .int k => decide (i.zero = [.int k 0]) && !i.isAgg
      | .bool => decide (i.zero = [.bool false]) && !i.isAgg
      | .string => (match i.zero with | [.str _] => true | _ => false) && !i.isAgg
      | .struct fs => ok t && i.isAgg && partsOk ty (flatTy ty ok n) i.zero 0 fs.toList
      | _ => false
    | none => false
/-- the value of a type -/
def valOfT (i : TyI) (xs : List S) : Value := if i.isAgg then .agg (xs.map S.val).toArray else match xs with | [x] => x.val | _ => undef

theorem alikeL_take : ∀ {n : Nat} {a b : List S}, alikeL a b = true → alikeL (a.take n) (b.take n) = true
  | 0, _, _, _ => by simp [alikeL]
  | n + 1, [], [], _ => by simp [alikeL]
  | n + 1, x :: a, y :: b, h => by
    simp only [alikeL, Bool.and_eq_true] at h
    simp only [List.take_succ_cons, alikeL, Bool.and_eq_true]
    exact ⟨h.1, alikeL_take h.2⟩
  | n + 1, [], _ :: _, h => by simp [alikeL] at h
  | n + 1, _ :: _, [], h => by simp [alikeL] at h
theorem alikeL_drop : ∀ {n : Nat} {a b : List S}, alikeL a b = true → alikeL (a.drop n) (b.drop n) = true
  | 0, _, _, h => by simpa using h
  | n + 1, [], [], _ => by simp [alikeL]
  | n + 1, x :: a, y :: b, h => by
    simp only [alikeL, Bool.and_eq_true] at h
    simpa using alikeL_drop h.2
  | n + 1, [], _ :: _, h => by simp [alikeL] at h
  | n + 1, _ :: _, [], h => by simp [alikeL] at h
theorem run_part_flat {t : TypeId} {i : TyI} (hr : TyRow P t i) {xs : List S} {o : Nat} (hlen : i.zero.length = i.size) (hal : alikeL i.zero ((xs.drop o).take i.size) = true) :
    (part t (xs.map S.val).toArray o).run P w = .ok (valOfT i ((xs.drop o).take i.size)) w := by
  obtain ⟨h1, info, z, h2, h3, h4, h5, h6, h7, h8, h9, h10⟩ := hr
  have hag : (isAgg t).run P w = .ok i.isAgg w := by
    simp only [isAgg, Sem.run_bind, run_underlying h1, Result.andThen]
    rw [h7]; cases i.desc <;> rfl
  have hsz : (sizeOf t).run P w = .ok i.size w := by
    simp only [sizeOf, Sem.run_bind, run_typeInfo (w := w) h2, Result.andThen, Sem.run_pure, h3]
  have hl := alikeL_refl hal
  cases ha : i.isAgg with
  | true =>
    simp only [part, Sem.run_bind, hag, ha, Result.andThen, if_true, hsz, Sem.run_pure, valOfT]
    congr 2
    apply Array.ext'
    simp [Array.toList_extract, List.extract, List.map_take, List.map_drop]
  | false =>
    obtain ⟨s, hs, _⟩ := h9 ha
    have hs1 : i.size = 1 := by rw [← hlen, hs]; rfl
    rw [hs] at hl
    rw [hs1] at hl ⊢
    cases hx : (xs.drop o).take 1 with
    | nil => rw [hx] at hl; simp at hl
    | cons x r =>
      have hr0 : r = [] := by rw [hx] at hl; simp at hl; exact hl
      subst hr0
      have hget : xs[o]? = some x := by
        have : (xs.drop o)[0]? = some x := by
          have := congrArg (·[0]?) hx
          simpa using this
        simpa using this
      have : ((xs.map S.val).toArray)[o]? = some x.val := by simp [hget]
      simp only [part, Sem.run_bind, hag, ha, Result.andThen, Bool.false_eq_true, if_false, this, Sem.run_pure, valOfT]
theorem alike_one {s : S} {xs : List S} (h : alikeL [s] xs = true) : ∃ x, xs = [x] ∧ S.alike s x = true := by
  cases xs with
  | nil => simp [alikeL] at h
  | cons x r =>
    cases r with
    | nil => simp only [alikeL, Bool.and_true] at h; exact ⟨x, rfl, h⟩
    | cons _ _ => simp [alikeL] at h

theorem append_eq_iff {a b c d : List S} (h : a.length = c.length) : a ++ b = c ++ d ↔ a = c ∧ b = d :=
  ⟨fun e => List.append_inj e h, fun ⟨e1, e2⟩ => by rw [e1, e2]⟩
theorem drop_split (xs : List S) (o k : Nat) : xs.drop o = (xs.drop o).take k ++ xs.drop (o + k) := by
  rw [← List.drop_drop, List.take_append_drop]
def EqAtT (P : Program) (d : Nat) (t : TypeId) (i : TyI) : Prop := ∀ xs ys w, alikeL i.zero xs = true → alikeL xs ys = true → (Op.equalIn d t (valOfT i xs) (valOfT i ys)).run P w = .ok (decide (xs = ys)) w
def KeyAtT (P : Program) (d : Nat) (t : TypeId) (i : TyI) : Prop := ∀ xs e w, alikeL i.zero xs = true → (Instr.checkKey e d t (valOfT i xs)).run P w = .ok () w
section
variable {ty : TypeId → Option TyI} (hty : ∀ t i, ty t = some i → TyRow P t i) {fl : TypeId → Bool} {d : Nat}
include hty
theorem parts_equal (hfl : ∀ t i, fl t = true → ty t = some i → EqAtT P d t i) {z xs ys : List S} (h1 : alikeL z xs = true) (h2 : alikeL xs ys = true) : ∀ {fs : List Field} {o : Nat} (w : World), partsOk ty fl z o fs = true →
    (Op.eqFields d (xs.map S.val).toArray (ys.map S.val).toArray fs).run P w = .ok (decide (xs.drop o = ys.drop o)) w
  | [], o, w, h => by
    have ho : o = z.length := Nat.eq_of_beq_eq_true h
    have l1 := alikeL_refl h1
    have l2 := alikeL_refl h2
    simp only [Op.eqFields, Sem.run_pure]
    rw [List.drop_eq_nil_of_le (by omega), List.drop_eq_nil_of_le (by omega)]; rfl
  | f :: r, o, w, h => by
    unfold partsOk at h
    split at h
    · rename_i fi hfi
      simp only [Bool.and_eq_true, bne_iff_ne, ne_eq, decide_eq_true_eq] at h
      obtain ⟨⟨⟨⟨⟨⟨hn, ho⟩, hf⟩, hz⟩, hzl⟩, hle⟩, hrest⟩ := h
      have ho := Nat.eq_of_beq_eq_true ho
      have hzl := Nat.eq_of_beq_eq_true hzl
      have a1 : alikeL fi.zero ((xs.drop o).take fi.size) = true := by rw [← hz]; exact alikeL_take (alikeL_drop h1)
      have a2 : alikeL ((xs.drop o).take fi.size) ((ys.drop o).take fi.size) = true := alikeL_take (alikeL_drop h2)
      have a3 : alikeL fi.zero ((ys.drop o).take fi.size) = true := by
        have tr : ∀ {a b c : List S}, alikeL a b = true → alikeL b c = true → alikeL a c = true := by
          intro a
          induction a with
          | nil => intro b c q1 q2; cases b with
            | nil => exact q2
            | cons _ _ => simp [alikeL] at q1
          | cons x a ih =>
            intro b c q1 q2
            cases b with
            | nil => simp [alikeL] at q1
            | cons y b =>
              cases c with
              | nil => simp [alikeL] at q2
              | cons u c =>
                simp only [alikeL, Bool.and_eq_true] at q1 q2 ⊢
                refine ⟨?_, ih q1.2 q2.2⟩
                have p1 := q1.1
                have p2 := q2.1
                cases x <;> cases y <;> simp only [S.alike, Bool.false_eq_true] at p1 <;> cases u <;> simp only [S.alike, Bool.false_eq_true] at p2 ⊢
                simp only [beq_iff_eq] at p1 p2 ⊢
                rw [p1, p2]
        exact tr a1 a2
      have hrow := hty _ _ hfi
      simp only [Op.eqFields]
      rw [if_pos hn, ho]
      simp only [Sem.run_bind, run_part_flat hrow hzl a1, run_part_flat hrow hzl a3, Result.andThen, hfl _ _ hf hfi _ _ w a1 a2]
      have hsp : (xs.drop o = ys.drop o) ↔ ((xs.drop o).take fi.size = (ys.drop o).take fi.size ∧ xs.drop (o + fi.size) = ys.drop (o + fi.size)) := by
        conv => lhs; rw [drop_split xs o fi.size, drop_split ys o fi.size]
        exact append_eq_iff (alikeL_refl a2)
      by_cases hc : (xs.drop o).take fi.size = (ys.drop o).take fi.size
      · simp only [hc, decide_true, Bool.not_true, Bool.false_eq_true, if_false]
        rw [parts_equal hfl h1 h2 w hrest]
        congr 1
        simp only [decide_eq_decide]
        rw [hsp]; simp [hc]
      · simp only [hc, decide_false, Bool.not_false, if_true, Sem.run_pure]
        congr 1
        have : ¬ (xs.drop o = ys.drop o) := fun he => hc (hsp.1 he).1
        simp [this]
    · cases h
theorem parts_key {e : Bool} (hfl : ∀ t i, fl t = true → ty t = some i → KeyAtT P d t i) {z xs : List S} (h1 : alikeL z xs = true) : ∀ {fs : List Field} {o : Nat} (w : World), partsOk ty fl z o fs = true →
    ((forIn fs PUnit.unit fun f _ => (if f.name ≠ "_" then (do
        let a ← part f.type (xs.map S.val).toArray f.offset
        Instr.checkKey e d f.type a
        pure (ForInStep.yield PUnit.unit)) else pure (ForInStep.yield PUnit.unit) : Sem (ForInStep PUnit))) : Sem PUnit).run P w = .ok PUnit.unit w
  | [], o, w, h => by simp
  | f :: r, o, w, h => by
    unfold partsOk at h
    split at h
    · rename_i fi hfi
      simp only [Bool.and_eq_true, bne_iff_ne, ne_eq, decide_eq_true_eq] at h
      obtain ⟨⟨⟨⟨⟨⟨hn, ho⟩, hf⟩, hz⟩, hzl⟩, hle⟩, hrest⟩ := h
      have ho := Nat.eq_of_beq_eq_true ho
      have hzl := Nat.eq_of_beq_eq_true hzl
      have a1 : alikeL fi.zero ((xs.drop o).take fi.size) = true := by rw [← hz]; exact alikeL_take (alikeL_drop h1)
      have hrow := hty _ _ hfi
      have ih := parts_key (e := e) hfl h1 w hrest
      rw [List.forIn_cons]
      simp only [Sem.run_bind, ho, Sem.run_ite, if_pos hn, run_part_flat hrow hzl a1, Result.andThen, hfl _ _ hf hfi _ e w a1, Sem.run_pure]
      exact ih
    · cases h

theorem flat_equal {ok : TypeId → Bool} (hok : ∀ t, ok t = true → P.stoodInHeld t = false) : ∀ (n d : Nat) (t : TypeId) (i : TyI), flatTy ty ok n t = true → ty t = some i → EqAtT P (d + n) t i
  | 0, _, _, _, h, _ => by simp [flatTy] at h
  | n + 1, d, t, i, h, hi => by
    intro xs ys w h1 h2
    unfold flatTy at h
    rw [hi] at h
    simp only at h
    have hrow := hty t i hi
    rw [show d + (n + 1) = (d + n) + 1 from rfl]
    split at h
    · rename_i k hd
      simp only [Bool.and_eq_true, decide_eq_true_eq, Bool.not_eq_true'] at h
      obtain ⟨hz, ha⟩ := h
      rw [hz] at h1
      obtain ⟨x, rfl, hx⟩ := alike_one h1
      obtain ⟨y, rfl, hy⟩ := alike_one h2
      cases x <;> simp only [S.alike, Bool.false_eq_true, beq_iff_eq] at hx
      cases y <;> simp only [S.alike, Bool.false_eq_true, beq_iff_eq] at hy
      subst hx hy
      simp only [valOfT, ha, Bool.false_eq_true, if_false, S.val]
      rw [run_equalIn_int w (d + n) t _ k _ _ (by rw [hrow.1, hd])]
      congr 1
      rw [Bool.eq_iff_iff]; simp
    · rename_i hd
      simp only [Bool.and_eq_true, decide_eq_true_eq, Bool.not_eq_true'] at h
      obtain ⟨hz, ha⟩ := h
      rw [hz] at h1
      obtain ⟨x, rfl, hx⟩ := alike_one h1
      obtain ⟨y, rfl, hy⟩ := alike_one h2
      cases x <;> simp only [S.alike, Bool.false_eq_true] at hx
      cases y <;> simp only [S.alike, Bool.false_eq_true] at hy
      simp only [valOfT, ha, Bool.false_eq_true, if_false, S.val]
      rw [run_equalIn_bool' w (d + n) t _ _ (by rw [hrow.1, hd])]
      congr 1
      rw [Bool.eq_iff_iff]; simp
    · rename_i hd
      simp only [Bool.and_eq_true, Bool.not_eq_true'] at h
      obtain ⟨hz, ha⟩ := h
      split at hz
      · rename_i s0 hz0
        rw [hz0] at h1
        obtain ⟨x, rfl, hx⟩ := alike_one h1
        obtain ⟨y, rfl, hy⟩ := alike_one h2
        cases x <;> simp only [S.alike, Bool.false_eq_true] at hx
        cases y <;> simp only [S.alike, Bool.false_eq_true] at hy
        simp only [valOfT, ha, Bool.false_eq_true, if_false, S.val]
        rw [run_equalIn_string w (d + n) t _ _ (by rw [hrow.1, hd]), ← beq_toListBytes]
        congr 1
        rw [Bool.eq_iff_iff]; simp [bytesEq]
      · cases hz
    · rename_i fs hd
      simp only [Bool.and_eq_true] at h
      obtain ⟨⟨h3, ha⟩, h4⟩ := h
      have hu : P.underlying t = some (.struct fs) := by rw [hrow.1, hd]
      have hfs : P.fieldsOf t = fs := by simp [Program.fieldsOf, hu]
      simp only [valOfT, ha, if_true]
      rw [run_equalIn_struct w (d + n) t _ _ (by rw [hfs]; exact hu) (hok t h3), hfs]
      have := parts_equal hty (fl := flatTy ty ok n) (d := d + n) (fun t i q1 q2 => flat_equal hok n d t i q1 q2) h1 h2 w h4
      simpa using this
    · cases h
theorem flat_key {ok : TypeId → Bool} : ∀ (n d : Nat) (t : TypeId) (i : TyI), flatTy ty ok n t = true → ty t = some i → KeyAtT P (d + n) t i
  | 0, _, _, _, h, _ => by simp [flatTy] at h
  | n + 1, d, t, i, h, hi => by
    intro xs e w h1
    unfold flatTy at h
    rw [hi] at h
    simp only at h
    have hrow := hty t i hi
    rw [show d + (n + 1) = (d + n) + 1 from rfl]
    rw [Instr.checkKey]
    split at h
    · rename_i k hd
      have hu : (underlying t).run P w = .ok (.int k) w := by rw [run_underlying hrow.1, hd]
      simp [hu, Result.andThen]
    · rename_i hd
      have hu : (underlying t).run P w = .ok .bool w := by rw [run_underlying hrow.1, hd]
      simp [hu, Result.andThen]
    · rename_i hd
      have hu : (underlying t).run P w = .ok .string w := by rw [run_underlying hrow.1, hd]
      simp [hu, Result.andThen]
    · rename_i fs hd
      simp only [Bool.and_eq_true] at h
      obtain ⟨⟨h3, ha⟩, h4⟩ := h
      have hu : (underlying t).run P w = .ok (.struct fs) w := by rw [run_underlying hrow.1, hd]
      simp only [Sem.run_bind, hu, Result.andThen, valOfT, ha, if_true]
      have := parts_key hty (e := e) (fl := flatTy ty ok n) (d := d + n) (fun t i q1 q2 => flat_key n d t i q1 q2) h1 w h4
      rw [← Array.forIn_toList]
      rw [this]
      rfl
    · cases h
end
end Go.Vm
/- A seat's environment, from tables. -/
set_option linter.unusedVariables false
set_option linter.unusedSimpArgs false
set_option linter.unusedSectionVars false
namespace Go.Vm
variable [Valu]
variable {P : Program} {E : Env} {B : Base}

def Tab.toList {α : Type} : Tab α → List (Nat × α)
  | .nil => []
  | .node l k v r => l.toList ++ (k, v) :: r.toList
theorem Tab.mem_of_get {α : Type} {t : Tab α} {x : Nat} {v : α} (h : t.get x = some v) : (x, v) ∈ t.toList := by
  induction t with
  | nil => simp [Tab.get] at h
  | node l k u r ihl ihr =>
    simp only [Tab.get] at h
    simp only [Tab.toList, List.mem_append, List.mem_cons]
    cases h1 : Nat.beq x k with
    | true =>
      rw [h1, cond_true] at h
      cases h
      exact .inr (.inl (by rw [Nat.eq_of_beq_eq_true h1]))
    | false =>
      rw [h1, cond_false] at h
      cases h2 : Nat.blt x k with
      | true => rw [h2, cond_true] at h; exact .inl (ihl h)
      | false => rw [h2, cond_false] at h; exact .inr (.inr (ihr h))
theorem map_eq_at {α β : Type} {f g : α → β} {l : List α} (h : l.map f = l.map g) {x : α} (hx : x ∈ l) : f x = g x := by
  induction l with
  | nil => cases hx
  | cons y l ih =>
    simp only [List.map_cons, List.cons.injEq] at h
    rcases List.mem_cons.1 hx with rfl | hx
    · exact h.1
    · exact ih h.2 hx
def memN (t : Nat) : List Nat → Bool
  | [] => false
  | x :: r => bif Nat.beq t x then true else memN t r
theorem memN_mem {t : Nat} {l : List Nat} (h : memN t l = true) : t ∈ l := by
  induction l with
  | nil => simp [memN] at h
  | cons x r ih =>
    simp only [memN] at h
    cases hb : Nat.beq t x with
    | true => rw [Nat.eq_of_beq_eq_true hb]; simp
    | false => rw [hb, cond_false] at h; exact List.mem_cons_of_mem _ (ih h)
def tyChk (i : TyI) : Bool := Nat.beq i.zero.length i.size && (i.isAgg == aggD i.desc) && (i.isAgg || Nat.beq i.zero.length 1) && i.zero.all fun s => decide (s ≠ .undef)
def fnChk (f : Func) : Bool := !(f.name == "runtime.NumGoroutine") && (match f.body with | some c => codeOk c | none => true)
def eqChk (P : Program) (T : Tab TyI) (L : List Nat) (t : Nat) : Bool :=
  !P.stoodInHeld t && !P.eqGuardType P.depth t && flatTy T.get (fun t => memN t L) 8 t && (match T.get t with | some i => i.isAgg | none => true)

theorem ty_rows {T : Tab TyI} (h1 : T.toList.map (fun p => P.underlying p.1) = T.toList.map (fun p => some p.2.desc))
    (h2 : T.toList.map (fun p => (P.info? p.1).map fun i => (i.size, i.bytes, i.zero)) = T.toList.map (fun p => some (p.2.size, p.2.bytes, some (valOfT p.2 p.2.zero))))
    (h3 : T.toList.all (fun p => tyChk p.2) = true) : ∀ t i, T.get t = some i → TyRow P t i := by
  intro t i hi
  have hm := Tab.mem_of_get hi
  have q1 := map_eq_at h1 hm
  have q2 := map_eq_at h2 hm
  have q3 := List.all_eq_true.1 h3 _ hm
  simp only at q1 q2
  simp only [tyChk, Bool.and_eq_true, beq_iff_eq, Bool.or_eq_true, List.all_eq_true, decide_eq_true_eq] at q3
  obtain ⟨⟨⟨c1, c2⟩, c3⟩, c4⟩ := q3
  have c1 := Nat.eq_of_beq_eq_true c1
  obtain ⟨info, hinfo, he⟩ := Option.map_eq_some_iff.1 q2
  simp only [Prod.mk.injEq] at he
  obtain ⟨e1, e2, e3⟩ := he
  refine ⟨q1, info, _, hinfo, e1, e2, e3, c1, c2, fun ha => by simp [valOfT, ha], fun ha => ?_, c4⟩
  rcases c3 with c3 | c3
  · rw [ha] at c3; cases c3
  · have c3 := Nat.eq_of_beq_eq_true c3
    obtain ⟨s, hs⟩ := List.length_eq_one_iff.1 c3
    exact ⟨s, hs, by simp [valOfT, ha, hs]⟩

/-- what is asked of a seat's tables -/
structure SeatOk (P : Program) (T : Tab TyI) (F : Tab Func) (L : List Nat) : Prop where
  rows : ∀ t i, T.get t = some i → TyRow P t i
  eqs : L.all (eqChk P T L) = true
  fn : F.toList.map (fun p => P.funcs[p.1]?) = F.toList.map (fun p => some p.2)
  fnOk : F.toList.all (fun p => fnChk p.2) = true
  mixed : P.follows .mixedOrders = true
/-- what is known of symbols: operators, equality of structs -/
structure Orac where
  bins : List (BinOp × S × S × S)
  eqs : List (Nat × List S × List S × Bool)
def findB (op : BinOp) (a b : S) : List (BinOp × S × S × S) → Option S
  | [] => none
  | (o, x, y, s) :: r => if o = op ∧ x = a ∧ y = b then some s else findB op a b r
def findE (t : Nat) (a b : List S) : List (Nat × List S × List S × Bool) → Option Bool
  | [] => none
  | (u, x, y, s) :: r => if u = t ∧ x = a ∧ y = b then some s else findE t a b r
theorem findB_mem {op : BinOp} {a b s : S} {l} (h : findB op a b l = some s) : (op, a, b, s) ∈ l := by
  induction l with
  | nil => simp [findB] at h
  | cons p l ih =>
    obtain ⟨o, x, y, s'⟩ := p
    simp only [findB] at h
    split at h
    · rename_i hc; obtain ⟨rfl, rfl, rfl⟩ := hc; cases h; simp
    · exact List.mem_cons_of_mem _ (ih h)
theorem findE_mem {t : Nat} {a b : List S} {s : Bool} {l} (h : findE t a b l = some s) : (t, a, b, s) ∈ l := by
  induction l with
  | nil => simp [findE] at h
  | cons p l ih =>
    obtain ⟨o, x, y, s'⟩ := p
    simp only [findE] at h
    split at h
    · rename_i hc; obtain ⟨rfl, rfl, rfl⟩ := hc; cases h; simp
    · exact List.mem_cons_of_mem _ (ih h)
/-- it is so, of what the symbols stand for -/
structure OracOk (T : Tab TyI) (o : Orac) : Prop where
  bins : ∀ op a b s, (op, a, b, s) ∈ o.bins → ∃ sa sb sr : S, a.val = sa.val ∧ b.val = sb.val ∧ s.val = sr.val ∧ binS op sa sb = some sr
  eqs : ∀ t xs ys b, (t, xs, ys, b) ∈ o.eqs → ∃ xs' ys' : List S, xs.map S.val = xs'.map S.val ∧ ys.map S.val = ys'.map S.val ∧ alikeL xs' ys' = true ∧ (∀ i, T.get t = some i → alikeL i.zero xs' = true) ∧ b = decide (xs' = ys')
def Orac.none : Orac := ⟨[], []⟩
theorem OracOk.none {T : Tab TyI} : OracOk T .none := ⟨fun _ _ _ _ h => (by cases h), fun _ _ _ _ h => (by cases h)⟩
theorem bin_ok {op : BinOp} {a b s sa sb sr : S} (h1 : a.val = sa.val) (h2 : b.val = sb.val) (h3 : s.val = sr.val) (h4 : binS op sa sb = some sr) (t : TypeId) (o1 o2 : Operand) (w : World) :
    ((do eqGuard op t o1 o2 a.val b.val; binOp op t a.val b.val : Sem Value)).run P w = .ok s.val w := by
  rw [h1, h2, h3]
  have hk : (∃ k n k' m, sa = .int k n ∧ sb = .int k' m) ∨ ∃ x y, sa = .str x ∧ sb = .str y := by
    unfold binS at h4
    split at h4
    · exact .inl ⟨_, _, _, _, rfl, rfl⟩
    · exact .inr ⟨_, _, rfl, rfl⟩
    · cases h4
  rcases hk with ⟨k, n, k', m, rfl, rfl⟩ | ⟨x, y, rfl, rfl⟩
  · rw [Sem.run_bind]; simp only [S.val]; rw [eqGuard_int]; exact binS_int _ _ _ _ _ _ h4
  · rw [Sem.run_bind]; simp only [S.val]; rw [eqGuard_str]; exact binS_str _ _ _ _ h4
theorem envOk_of {T : Tab TyI} {F : Tab Func} {L : List Nat} (h : SeatOk P T F L) (hty : E.ty = T.get) (heq : E.eqT = fun t => memN t L) {o : Orac} (ho : OracOk T o) (hbin : E.bin = fun op a b => findB op a b o.bins) (heqs : E.eqs = fun t a b => findE t a b o.eqs) : EnvOk P E := by
  have hok : ∀ t, memN t L = true → P.stoodInHeld t = false ∧ P.eqGuardType P.depth t = false ∧ flatTy T.get (fun t => memN t L) 8 t = true ∧ ∀ i, T.get t = some i → i.isAgg = true := by
    intro t ht
    have := List.all_eq_true.1 h.eqs t (memN_mem ht)
    simp only [eqChk, Bool.and_eq_true, Bool.not_eq_true'] at this
    obtain ⟨⟨⟨a1, a2⟩, a3⟩, a4⟩ := this
    exact ⟨a1, a2, a3, fun i hi => by rw [hi] at a4; exact a4⟩
  have main : ∀ t i, E.eqT t = true → E.ty t = some i → P.eqGuardType P.depth t = false ∧
    (∀ xs ys w, alikeL i.zero xs = true → alikeL xs ys = true → (Op.equal t (.agg (xs.map S.val).toArray) (.agg (ys.map S.val).toArray)).run P w = .ok (decide (xs = ys)) w) ∧
    (∀ xs e w, alikeL i.zero xs = true → (Instr.checkKey e 10000 t (.agg (xs.map S.val).toArray)).run P w = .ok () w) := fun t i ht hi => ?_
  refine ⟨fun t i hi => h.rows t i (by rw [← hty]; exact hi), main, fun op a b s hs _ t o1 o2 w => ?_, fun t i xs ys b hb ht hi w => ?_⟩
  · rw [hbin] at hs
    obtain ⟨sa, sb, sr, q1, q2, q3, q4⟩ := ho.bins _ _ _ _ (findB_mem hs)
    exact bin_ok q1 q2 q3 q4 t o1 o2 w
  · rw [heqs] at hb
    obtain ⟨xs', ys', q1, q2, q3, q4, q5⟩ := ho.eqs _ _ _ _ (findE_mem hb)
    rw [q1, q2, q5]
    exact (main t i ht hi).2.1 xs' ys' w (q4 i (by rw [← hty]; exact hi)) q3
  rw [hty] at hi
  rw [heq] at ht
  obtain ⟨a1, a2, a3, a4⟩ := hok t ht
  have ha := a4 i hi
  refine ⟨a2, fun xs ys w h1 h2 => ?_, fun xs e w h1 => ?_⟩
  · have := flat_equal h.rows (fun t ht => (hok t ht).1) 8 9992 t i a3 hi xs ys w h1 h2
    simpa [valOfT, ha, Op.equal, Op.maxDepth] using this
  · have := flat_key h.rows 8 9992 t i a3 hi xs e w h1
    simpa [valOfT, ha] using this
/-- the package variables' cells, as they stand in a world -/
def Stands (w : World) (ng : Nat) (glob : Nat → Option (List F)) : Prop := ∀ g cs, glob g = some cs → g < ng ∧ ∀ (i : Nat) c, cs[i]? = some c → ∃ s, c = .s s ∧ w.cell? ⟨g, i, none⟩ = some s.val
theorem globOk_of {w : World} {ng : Nat} (h : Stands w ng E.glob) : GlobOk ⟨w, ng⟩ E := by
  refine ⟨fun g cs hg => ?_⟩
  obtain ⟨h1, h2⟩ := h g cs hg
  have := FRel.ptr (w := w) (st := (· < ng)) cs 0 g 0 (fun i => match cs[i]? with | some (.s s) => s.val | _ => undef) h1 (fun i c hc => ?_) (fun i c hc => ?_)
  · simpa using this
  · obtain ⟨s, rfl, hs⟩ := h2 i c hc
    rw [Nat.zero_add]; simp only [hc]; exact hs
  · obtain ⟨s, rfl, hs⟩ := h2 i c hc
    simp only [hc]; exact .s s
theorem envRun_of {T : Tab TyI} {F : Tab Func} {L : List Nat} (h : SeatOk P T F L) (hty : E.ty = T.get) (heq : E.eqT = fun t => memN t L) {o : Orac} (ho : OracOk T o) (hbin : E.bin = fun op a b => findB op a b o.bins) (heqs : E.eqs = fun t a b => findE t a b o.eqs) (hfn : E.fn = F.get) (hext : E.ext = fun _ => none) {w : World} {ng : Nat} (hg : Stands w ng E.glob)
    (hprim : ∀ f p, E.prim f = some p → ∀ xs x, p xs = some x → PureCalls P ⟨w, ng⟩ f xs x) : EnvRun P ⟨w, ng⟩ E := by
  refine ⟨envOk_of h hty heq ho hbin heqs, globOk_of hg, fun f fn hf => ?_, fun f => by rw [hext], hprim, h.mixed⟩
  rw [hfn] at hf
  have hm := Tab.mem_of_get hf
  have q1 := map_eq_at h.fn hm
  have q2 := List.all_eq_true.1 h.fnOk _ hm
  simp only [fnChk, Bool.and_eq_true, Bool.not_eq_true'] at q1 q2
  refine ⟨q1, q2.1, fun c hc => ?_⟩
  have := q2.2
  rw [hc] at this; exact this

/-! ### known calls -/
/-- known calls: the function, the arguments, the result -/
abbrev Known := List (Nat × List F × F)
def findK (f : Nat) (xs : List F) : Known → Option F
  | [] => none
  | (g, ys, x) :: r => bif Nat.beq f g then (bif F.beqL xs ys then some x else findK f xs r) else findK f xs r
theorem findK_mem {f : Nat} {xs : List F} {l : Known} {x : F} (h : findK f xs l = some x) : (f, xs, x) ∈ l := by
  induction l with
  | nil => simp [findK] at h
  | cons p l ih =>
    obtain ⟨g, ys, y⟩ := p
    simp only [findK] at h
    cases hf : Nat.beq f g with
    | false => rw [hf, cond_false] at h; exact List.mem_cons_of_mem _ (ih h)
    | true =>
      rw [hf, cond_true] at h
      cases hb : F.beqL xs ys with
      | true => rw [hb, cond_true] at h; cases h; rw [F.beqL_eq _ _ hb, Nat.eq_of_beq_eq_true hf]; simp
      | false => rw [hb, cond_false] at h; exact List.mem_cons_of_mem _ (ih h)
def primK (base : Nat → List F → Option F) (l : Known) (f : Nat) : Option (List F → Option F) :=
  some fun xs => match findK f xs l with | some x => some x | none => base f xs
/-- a seat's environment, some calls known -/
def envK (T : Tab TyI) (Fn : Tab Func) (pu : Tab Unit) (L : List Nat) (glob : Nat → Option (List F)) (base : Nat → List F → Option F) (o : Orac) (l : Known) : Env :=
  { ty := T.get, fn := Fn.get, pure := fun f => (pu.get f).isSome, eqT := fun t => memN t L, glob := glob, ext := fun _ => none, prim := primK base l, bin := fun op a b => findB op a b o.bins, eqs := fun t a b => findE t a b o.eqs }
def KnownOk (P : Program) (B : Base) (l : Known) : Prop := ∀ e ∈ l, PureCalls P B e.1 e.2.1 e.2.2
theorem KnownOk.nil : KnownOk P B [] := fun _ h => by cases h
theorem KnownOk.run {T : Tab TyI} {Fn : Tab Func} {pu : Tab Unit} {L : List Nat} {glob : Nat → Option (List F)} {base : Nat → List F → Option F} {l : Known} {w : World} {ng : Nat}
    {o : Orac} (hs : SeatOk P T Fn L) (hg : Stands w ng glob) (ho : OracOk T o) (hb : ∀ f xs x, base f xs = some x → PureCalls P ⟨w, ng⟩ f xs x) (hl : KnownOk P ⟨w, ng⟩ l) {n f : Nat} {xs : List F} {x : F}
    (h : Vm.run (envK T Fn pu L glob base o l) n (.pcall f xs) = some (.pv x)) : PureCalls P ⟨w, ng⟩ f xs x := by
  refine pure_of_run (envRun_of hs rfl rfl ho rfl rfl rfl rfl hg fun f p hp xs x hx => ?_) h
  simp only [envK, primK, Option.some.injEq] at hp
  subst hp
  simp only at hx
  split at hx
  · rename_i y hy
    cases hx
    exact hl _ (findK_mem hy)
  · exact hb f xs x hx
theorem KnownOk.cons {l : Known} (hl : KnownOk P B l) {f : Nat} {xs : List F} {x : F} (h : PureCalls P B f xs x) : KnownOk P B ((f, xs, x) :: l) := by
  intro e he
  rcases List.mem_cons.1 he with rfl | he
  · exact h
  · exact hl e he
end Go.Vm
/- Symbols and what they stand for. -/
set_option linter.unusedVariables false
set_option linter.unusedSimpArgs false
set_option linter.unusedSectionVars false
namespace Go.Vm

/-- a scalar without a symbol -/
def sOfVal : Value → S
  | .bool b => .bool b
  | .int k n => .int k n
  | .string s => .str s
  | _ => .undef
/-- the symbols' worth laid in -/
def S.conc (ρ : Nat → Value) : S → S
  | .sym i => sOfVal (ρ i)
  | s => s
mutual
def F.conc (ρ : Nat → Value) : F → F
  | .s x => .s (x.conc ρ)
  | .agg cs => .agg (F.concL ρ cs)
  | .tup cs => .tup (F.concL ρ cs)
  | .row wd rs => .row wd (F.concLL ρ rs)
  | .ptr cs j => .ptr (F.concL ρ cs) j
def F.concL (ρ : Nat → Value) : List F → List F
  | [] => []
  | x :: r => F.conc ρ x :: F.concL ρ r
def F.concLL (ρ : Nat → Value) : List (List F) → List (List F)
  | [] => []
  | x :: r => F.concL ρ x :: F.concLL ρ r
end
theorem concL_eq (ρ : Nat → Value) (l : List F) : F.concL ρ l = l.map (F.conc ρ) := by
  induction l with
  | nil => rfl
  | cons x l ih => simp [F.concL, ih]
theorem concLL_eq (ρ : Nat → Value) (l : List (List F)) : F.concLL ρ l = l.map fun r => r.map (F.conc ρ) := by
  induction l with
  | nil => rfl
  | cons x l ih => simp [F.concLL, ih, concL_eq]
theorem S.conc_val [V : Valu] (x : S) : (x.conc V.val).val = x.val := by
  cases x with
  | sym i => rcases V.plain i with ⟨k, n, h⟩ | ⟨s, h⟩ | ⟨b, h⟩ <;> simp [S.conc, h, sOfVal, S.val]
  | _ => rfl
/-- no symbol in it -/
def S.bare : S → Bool
  | .sym _ => false
  | _ => true
theorem S.bare_val {V V' : Valu} {x : S} (h : x.bare = true) : @S.val V x = @S.val V' x := by
  cases x <;> simp_all [S.bare, S.val]
theorem S.conc_bare (V : Valu) (x : S) : (x.conc V.val).bare = true := by
  cases x with
  | sym i => rcases V.plain i with ⟨k, n, h⟩ | ⟨s, h⟩ | ⟨b, h⟩ <;> simp [S.conc, h, sOfVal, S.bare]
  | _ => rfl
theorem FRel.conc (V V' : Valu) {w : World} {st : Nat → Prop} {x : F} {v : Value} (h : @FRel V w st x v) : @FRel V' w st (x.conc V.val) v := by
  induction h with
  | s x =>
    have := @FRel.s V' w st (x.conc V.val)
    have e := (S.bare_val (V := V') (V' := V) (S.conc_bare V x)).trans (@S.conc_val V x)
    rw [e] at this
    exact this
  | agg cs vs hl _ ih =>
    rw [F.conc, concL_eq]
    refine @FRel.agg V' w st _ vs (by simpa using hl) fun i c v h1 h2 => ?_
    simp only [List.getElem?_map, Option.map_eq_some_iff] at h1
    obtain ⟨c', h3, rfl⟩ := h1
    exact ih i c' v h3 h2
  | tup cs vs hl _ ih =>
    rw [F.conc, concL_eq]
    refine @FRel.tup V' w st _ vs (by simpa using hl) fun i c v h1 h2 => ?_
    simp only [List.getElem?_map, Option.map_eq_some_iff] at h1
    obtain ⟨c', h3, rfl⟩ := h1
    exact ih i c' v h3 h2
  | row wd rs a cap r o g hc ha hw hg _ ih =>
    rw [F.conc, concLL_eq]
    have := @FRel.row V' w st wd (rs.map fun r => r.map (F.conc V.val)) a cap r o g (by simpa using hc) (fun hn => ha (by simpa using hn)) (fun row hr => by
      obtain ⟨row', h1, rfl⟩ := List.mem_map.1 hr
      simpa using hw row' h1) (fun i j row c h1 h2 => by
      simp only [List.getElem?_map, Option.map_eq_some_iff] at h1
      obtain ⟨row', h3, rfl⟩ := h1
      simp only [List.getElem?_map, Option.map_eq_some_iff] at h2
      obtain ⟨c', h4, rfl⟩ := h2
      exact hg i j row' c' h3 h4) (fun i j row c h1 h2 => by
      simp only [List.getElem?_map, Option.map_eq_some_iff] at h1
      obtain ⟨row', h3, rfl⟩ := h1
      simp only [List.getElem?_map, Option.map_eq_some_iff] at h2
      obtain ⟨c', h4, rfl⟩ := h2
      exact ih i j row' c' h3 h4)
    simpa using this
  | ptr cs j r o g hr hg _ ih =>
    rw [F.conc, concL_eq]
    refine @FRel.ptr V' w st _ j r o g hr (fun i c h1 => ?_) (fun i c h1 => ?_)
    · simp only [List.getElem?_map, Option.map_eq_some_iff] at h1
      obtain ⟨c', h3, rfl⟩ := h1
      exact hg i c' h3
    · simp only [List.getElem?_map, Option.map_eq_some_iff] at h1
      obtain ⟨c', h3, rfl⟩ := h1
      exact ih i c' h3

theorem conc_get {ρ : Nat → Value} {cs : List F} {i : Nat} {c : F} (h : cs[i]? = some c) : (F.concL ρ cs)[i]? = some (c.conc ρ) := by
  rw [concL_eq, List.getElem?_map, h]; rfl
theorem conc_getL {ρ : Nat → Value} {cs : List (List F)} {i : Nat} {c : List F} (h : cs[i]? = some c) : (F.concLL ρ cs)[i]? = some (F.concL ρ c) := by
  rw [concLL_eq, List.getElem?_map, h, concL_eq]; rfl
theorem FRel.unconc (V V' : Valu) {w : World} {st : Nat → Prop} {y : F} {v : Value} (h : @FRel V' w st y v) : ∀ x : F, y = x.conc V.val → @FRel V w st x v := by
  induction h with
  | s z =>
    intro x hx
    cases x with
    | s x =>
      simp only [F.conc, F.s.injEq] at hx
      subst hx
      have e := (S.bare_val (V := V') (V' := V) (S.conc_bare V x)).trans (@S.conc_val V x)
      rw [e]
      exact @FRel.s V w st x
    | _ => simp [F.conc] at hx
  | agg cs vs hl _ ih =>
    intro x hx
    cases x with
    | agg ds =>
      simp only [F.conc, F.agg.injEq] at hx
      subst hx
      exact @FRel.agg V w st ds vs (by rw [concL_eq] at hl; simpa using hl) fun i c v h1 h2 => ih i _ v (conc_get h1) h2 c rfl
    | _ => simp [F.conc] at hx
  | tup cs vs hl _ ih =>
    intro x hx
    cases x with
    | tup ds =>
      simp only [F.conc, F.tup.injEq] at hx
      subst hx
      exact @FRel.tup V w st ds vs (by rw [concL_eq] at hl; simpa using hl) fun i c v h1 h2 => ih i _ v (conc_get h1) h2 c rfl
    | _ => simp [F.conc] at hx
  | row wd rs a cap r o g hc ha hw hg _ ih =>
    intro x hx
    cases x with
    | row wd' ds =>
      simp only [F.conc, F.row.injEq] at hx
      obtain ⟨rfl, rfl⟩ := hx
      have hlen : (F.concLL V.val ds).length = ds.length := by rw [concLL_eq]; simp
      rw [hlen] at hc ⊢
      refine @FRel.row V w st wd ds a cap r o g hc (fun hn => ha (by rw [concLL_eq]; simpa using hn)) (fun row hr => ?_) (fun i j row c h1 h2 => hg i j _ _ (conc_getL h1) (conc_get h2)) (fun i j row c h1 h2 => ih i j _ _ (conc_getL h1) (conc_get h2) c rfl)
      obtain ⟨i, hi, rfl⟩ := List.getElem_of_mem hr
      have h1 := conc_getL (ρ := V.val) (List.getElem?_eq_getElem hi)
      have := hw _ (List.mem_of_getElem? h1)
      rw [concL_eq] at this; simpa using this
    | _ => simp [F.conc] at hx
  | ptr cs j r o g hr hg _ ih =>
    intro x hx
    cases x with
    | ptr ds j' =>
      simp only [F.conc, F.ptr.injEq] at hx
      obtain ⟨rfl, rfl⟩ := hx
      exact @FRel.ptr V w st ds j r o g hr (fun i c h1 => hg i _ (conc_get h1)) (fun i c h1 => ih i _ (conc_get h1) c rfl)
    | _ => simp [F.conc] at hx
/-- a known call, the symbols' worth laid in; and back -/
theorem PureCalls.conc (V V' : Valu) {P : Program} {B : Base} {f : FuncId} {xs : List F} {x : F} (h : @PureCalls V P B f xs x) : @PureCalls V' P B f (F.concL V.val xs) (x.conc V.val) := by
  refine ⟨h.1, fun st w vals hg hlt hl hr => ?_⟩
  have hlen : (F.concL V.val xs).length = xs.length := by rw [concL_eq]; simp
  refine (callsIn_wide (n := 0)).1 (((callsIn_wide (n := 0)).2 (h.2 st w vals hg hlt (by rw [← hlen]; exact hl) fun i x v h1 h2 => FRel.unconc V V' (hr i _ v (conc_get h1) h2) x rfl)).mono ?_)
  rintro e w' ⟨y, he, h1, h2, h3, h4, h5, h6⟩
  exact ⟨y, he, h1, h2, h3, h4, h5, FRel.conc V V' h6⟩
theorem PureCalls.unconc (V V' : Valu) {P : Program} {B : Base} {f : FuncId} {xs : List F} {x : F} (h : @PureCalls V' P B f (F.concL V.val xs) (x.conc V.val)) : @PureCalls V P B f xs x := by
  refine ⟨h.1, fun st w vals hg hlt hl hr => ?_⟩
  have hlen : (F.concL V.val xs).length = xs.length := by rw [concL_eq]; simp
  refine (callsIn_wide (n := 0)).1 (((callsIn_wide (n := 0)).2 (h.2 st w vals hg hlt (by rw [hlen]; exact hl) fun i y v h1 h2 => ?_)).mono ?_)
  · rw [concL_eq, List.getElem?_map, Option.map_eq_some_iff] at h1
    obtain ⟨c, h3, rfl⟩ := h1
    exact FRel.conc V V' (hr i c v h3 h2)
  · rintro e w' ⟨y, he, h1, h2, h3, h4, h5, h6⟩
    exact ⟨y, he, h1, h2, h3, h4, h5, FRel.unconc V V' h6 x rfl⟩
end Go.Vm
