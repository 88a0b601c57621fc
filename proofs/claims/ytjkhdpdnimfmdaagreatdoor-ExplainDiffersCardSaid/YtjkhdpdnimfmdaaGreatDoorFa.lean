/- explain.Format's text of a valid reason: two valid reasons with one text are equal. -/
import Derived.Lib.ItoaLen
import Derived.Test.YtjkhdpdnimfmdaaGreatDoorEnv
import Derived.KernelRfl
set_option linter.unusedVariables false
set_option linter.unusedSimpArgs false
namespace Go.Vm
open Go.Lib (decDigits itoa)
/-- six numbers -/
@[ext] structure Six where
  K : Int
  V : Int
  Sc : Int
  T : Int
  So : Int
  Sq : Int
  deriving DecidableEq
/-- the words of the kinds -/
def wordOf : Nat → List UInt8
  | 0 => [110, 111, 110, 101] | 1 => [111, 114, 100, 101, 114] | 2 => [108, 97, 99, 107, 115] | 3 => [116, 121, 112, 101] | 4 => [99, 111, 110, 100, 105, 116, 105, 111, 110]
  | 5 => [119, 105, 116, 104, 105, 110] | 6 => [119, 104, 101, 114, 101] | _ => [105, 110, 99, 111, 109, 112, 108, 101, 116, 101]
/-- word, blank, name, at -/
def preOf (k v : Nat) : List UInt8 := wordOf k ++ [32, 118, UInt8.ofNat (97 + v), 64]
def scopeB : List UInt8 := [32, 115, 99, 111, 112, 101, 32]
/-- bounds on a reference and a scope -/
structure Six.placed (r : Six) : Prop where
  T : 0 ≤ r.T ∧ r.T ≤ 1099511627776
  So : 0 ≤ r.So ∧ r.So < 8
  Sq : 0 ≤ r.Sq ∧ r.Sq ≤ 1099511627776
  Sc : 0 ≤ r.Sc ∧ r.Sc < 64
/-- scoped kinds -/
def Six.sco (r : Six) : Bool := r.K == 2 || r.K == 5
/-- reasons that have a text -/
structure Six.good (r : Six) : Prop where
  placed : r.placed
  K : 0 ≤ r.K ∧ r.K ≤ 7
  none : r.K = 0 → r = ⟨0, 0, 0, 0, 0, 0⟩
  sc : r.sco = false → r.Sc = 0
  V : r.K ≠ 0 → (0 ≤ r.V ∧ r.V < 16) ∨ (r.K = 3 ∧ r.V = -1)
def numL (r : Six) : List UInt8 := (itoa r.T ++ ([47] ++ itoa r.So)) ++ ([47] ++ itoa r.Sq)
/-- what comes ahead of the numbers -/
def Six.pre (r : Six) : List UInt8 := if r.V = -1 then wordOf r.K.toNat ++ [32] else preOf r.K.toNat r.V.toNat
def okText (r : Six) : List UInt8 :=
  if r.K = 0 then wordOf 0 else if r.sco then (r.pre ++ numL r) ++ (scopeB ++ itoa r.Sc) else r.pre ++ numL r

/-! ### numerals -/
def isDig (b : UInt8) : Bool := 48 ≤ b && b ≤ 57
theorem dig_ofNat {k : Nat} (h : k < 10) : isDig (UInt8.ofNat (48 + k)) = true := by
  have : ∀ k : Fin 10, isDig (UInt8.ofNat (48 + k.val)) = true := by decide
  exact this ⟨k, h⟩
theorem dig_val {k : Nat} (h : k < 10) : (UInt8.ofNat (48 + k)).toNat = 48 + k := by
  have : ∀ k : Fin 10, (UInt8.ofNat (48 + k.val)).toNat = 48 + k.val := by decide
  exact this ⟨k, h⟩
theorem dec_digs (u : Nat) : ∀ b ∈ decDigits u, isDig b = true := by
  induction u using Nat.strongRecOn with
  | _ u ih =>
    intro b hb
    rw [decDigits] at hb
    split at hb
    · rename_i h
      simp only [List.mem_singleton] at hb
      subst hb; exact dig_ofNat h
    · rename_i h
      rcases List.mem_append.1 hb with hb | hb
      · exact ih (u / 10) (by omega) b hb
      · simp only [List.mem_singleton] at hb
        subst hb; exact dig_ofNat (by omega)
def ofDigs (l : List UInt8) : Nat := l.foldl (fun a b => a * 10 + (b.toNat - 48)) 0
theorem ofDigs_dec (u : Nat) : ofDigs (decDigits u) = u := by
  induction u using Nat.strongRecOn with
  | _ u ih =>
    rw [decDigits]
    split
    · rename_i h
      simp only [ofDigs, List.foldl_cons, List.foldl_nil, dig_val h]; omega
    · rename_i h
      have := ih (u / 10) (by omega)
      simp only [ofDigs, List.foldl_append, List.foldl_cons, List.foldl_nil] at this ⊢
      rw [this, dig_val (by omega)]; omega
theorem itoa_pos {k : Int} (h : 0 ≤ k) : itoa k = decDigits k.toNat := by
  unfold itoa; rw [if_neg (by omega)]
theorem itoa_digs {k : Int} (h : 0 ≤ k) : ∀ b ∈ itoa k, isDig b = true := by rw [itoa_pos h]; exact dec_digs _
theorem itoa_inj {a b : Int} (ha : 0 ≤ a) (hb : 0 ≤ b) (h : itoa a = itoa b) : a = b := by
  rw [itoa_pos ha, itoa_pos hb] at h
  have := congrArg ofDigs h
  rw [ofDigs_dec, ofDigs_dec] at this
  omega
/-- where the first byte that p refuses stands, two texts part alike -/
theorem split_at (p : UInt8 → Bool) : ∀ (a b s t : List UInt8), (∀ x ∈ a, p x = true) → (∀ x ∈ b, p x = true) → (∀ x, s.head? = some x → p x = false) → (∀ x, t.head? = some x → p x = false) → a ++ s = b ++ t → a = b ∧ s = t
  | [], [], s, t, _, _, _, _, h => ⟨rfl, h⟩
  | x :: a, [], s, t, ha, _, _, ht, h => by
    simp only [List.cons_append, List.nil_append] at h
    have := ht x (by rw [← h]; rfl)
    rw [ha x (by simp)] at this; cases this
  | [], y :: b, s, t, _, hb, hs, _, h => by
    simp only [List.cons_append, List.nil_append] at h
    have := hs y (by rw [h]; rfl)
    rw [hb y (by simp)] at this; cases this
  | x :: a, y :: b, s, t, ha, hb, hs, ht, h => by
    simp only [List.cons_append, List.cons.injEq] at h
    obtain ⟨rfl, h⟩ := h
    obtain ⟨h1, h2⟩ := split_at p a b s t (fun x hx => ha x (by simp [hx])) (fun x hx => hb x (by simp [hx])) hs ht h
    exact ⟨by rw [h1], h2⟩
theorem itoa_split {a b : Int} {s t : List UInt8} (ha : 0 ≤ a) (hb : 0 ≤ b) (hs : ∀ x, s.head? = some x → isDig x = false) (ht : ∀ x, t.head? = some x → isDig x = false) (h : itoa a ++ s = itoa b ++ t) : a = b ∧ s = t := by
  obtain ⟨h1, h2⟩ := split_at isDig _ _ _ _ (itoa_digs ha) (itoa_digs hb) hs ht h
  exact ⟨itoa_inj ha hb h1, h2⟩
theorem word_blank : ∀ k : Fin 8, ∀ x ∈ wordOf k.val, (x != 32) = true := by decide
theorem word_inj : ∀ j k : Fin 8, wordOf j.val = wordOf k.val → j = k := by decide
/-- the part behind the first blank -/
def Six.tail (r : Six) : List UInt8 := (if r.V = -1 then [] else [118, UInt8.ofNat (97 + r.V.toNat), 64]) ++ (itoa r.T ++ (47 :: (itoa r.So ++ (47 :: (itoa r.Sq ++ (if r.sco then scopeB ++ itoa r.Sc else []))))))
theorem okText_eq {r : Six} (h : r.K ≠ 0) : okText r = wordOf r.K.toNat ++ (32 :: r.tail) := by
  unfold okText Six.tail Six.pre numL preOf
  rw [if_neg h]
  cases r.sco <;> by_cases hv : r.V = -1 <;> simp [hv]
theorem itoa_head {k : Int} (h : 0 ≤ k) (s : List UInt8) : ∃ b l, itoa k ++ s = b :: l ∧ isDig b = true := by
  cases hi : itoa k with
  | nil =>
    have := Lib.decDigits_length k.toNat
    rw [← itoa_pos h, hi] at this
    have h2 := Lib.nDigits_pos k.toNat
    simp at this; omega
  | cons b l => exact ⟨b, l ++ s, rfl, itoa_digs h b (by rw [hi]; simp)⟩
theorem letter_inj : ∀ v w : Fin 16, UInt8.ofNat (97 + v.val) = UInt8.ofNat (97 + w.val) → v = w := by decide
theorem okText_inj {a b : Six} (ha : a.good) (hb : b.good) (h : okText a = okText b) : a = b := by
  have hwn : ∀ c : Six, c.good → c.K ≠ 0 → okText c ≠ wordOf 0 := by
    intro c hc h0 he
    rw [okText_eq h0] at he
    have : (32 : UInt8) ∈ wordOf 0 := by rw [← he]; simp
    exact absurd this (by decide)
  have hok0 : ∀ c : Six, c.K = 0 → okText c = wordOf 0 := fun c hc => by unfold okText; rw [if_pos hc]
  by_cases h0 : a.K = 0
  · by_cases h1 : b.K = 0
    · rw [ha.none h0, hb.none h1]
    · rw [hok0 a h0] at h; exact absurd h.symm (hwn b hb h1)
  by_cases h1 : b.K = 0
  · rw [hok0 b h1] at h; exact absurd h (hwn a ha h0)
  rw [okText_eq h0, okText_eq h1] at h
  have hka := ha.K
  have hkb := hb.K
  obtain ⟨e1, e2⟩ := split_at (· != 32) _ _ _ _ (word_blank ⟨a.K.toNat, by omega⟩) (word_blank ⟨b.K.toNat, by omega⟩) (by simp) (by simp) h
  have hK : a.K = b.K := by
    have := word_inj ⟨a.K.toNat, by omega⟩ ⟨b.K.toNat, by omega⟩ e1
    have := congrArg Fin.val this
    simp only at this
    omega
  simp only [List.cons.injEq, true_and] at e2
  have hsco : a.sco = b.sco := by unfold Six.sco; rw [hK]
  have pa := ha.placed
  have pb := hb.placed
  have nd : ∀ (s : List UInt8) x, (47 :: s).head? = some x → isDig x = false := fun s x hx => by simp at hx; subst hx; decide
  have hnum : ∀ {s t : List UInt8}, itoa a.T ++ (47 :: (itoa a.So ++ (47 :: (itoa a.Sq ++ s)))) = itoa b.T ++ (47 :: (itoa b.So ++ (47 :: (itoa b.Sq ++ t)))) → (∀ x, s.head? = some x → isDig x = false) → (∀ x, t.head? = some x → isDig x = false) → a.T = b.T ∧ a.So = b.So ∧ a.Sq = b.Sq ∧ s = t := by
    intro s t he hs ht
    obtain ⟨q1, q2⟩ := itoa_split pa.T.1 pb.T.1 (nd _) (nd _) he
    simp only [List.cons.injEq, true_and] at q2
    obtain ⟨q3, q4⟩ := itoa_split pa.So.1 pb.So.1 (nd _) (nd _) q2
    simp only [List.cons.injEq, true_and] at q4
    obtain ⟨q5, q6⟩ := itoa_split pa.Sq.1 pb.Sq.1 hs ht q4
    exact ⟨q1, q3, q5, q6⟩
  have hend : ∀ c : Six, ∀ x, (if c.sco = true then scopeB ++ itoa c.Sc else []).head? = some x → isDig x = false := by
    intro c x hx
    cases hc : c.sco with
    | true => rw [hc, if_pos rfl] at hx; simp [scopeB] at hx; subst hx; decide
    | false => rw [hc] at hx; simp at hx
  have hrest : a.V = b.V → itoa a.T ++ (47 :: (itoa a.So ++ (47 :: (itoa a.Sq ++ (if a.sco = true then scopeB ++ itoa a.Sc else []))))) = itoa b.T ++ (47 :: (itoa b.So ++ (47 :: (itoa b.Sq ++ (if b.sco = true then scopeB ++ itoa b.Sc else []))))) → a = b := by
    intro hV he
    obtain ⟨q1, q2, q3, q4⟩ := hnum he (hend a) (hend b)
    have hSc : a.Sc = b.Sc := by
      cases hc : a.sco with
      | true =>
        rw [← hsco, hc, if_pos rfl, if_pos rfl] at q4
        exact itoa_inj pa.Sc.1 pb.Sc.1 (List.append_cancel_left q4)
      | false => rw [ha.sc hc, hb.sc (by rw [← hsco]; exact hc)]
    exact Six.ext hK hV hSc q1 q2 q3
  unfold Six.tail at e2
  rcases ha.V h0 with va | ⟨_, va⟩ <;> rcases hb.V h1 with vb | ⟨_, vb⟩
  · have na : ¬ a.V = -1 := by omega
    have nb : ¬ b.V = -1 := by omega
    rw [if_neg na, if_neg nb] at e2
    simp only [List.cons_append, List.nil_append, List.cons.injEq, true_and] at e2
    refine hrest ?_ e2.2
    have := letter_inj ⟨a.V.toNat, by omega⟩ ⟨b.V.toNat, by omega⟩ e2.1
    have := congrArg Fin.val this
    simp only at this
    omega
  · have na : ¬ a.V = -1 := by omega
    rw [if_neg na, if_pos vb] at e2
    obtain ⟨x, l, hx, hd⟩ := itoa_head pb.T.1 (47 :: (itoa b.So ++ (47 :: (itoa b.Sq ++ (if b.sco = true then scopeB ++ itoa b.Sc else [])))))
    rw [List.nil_append, hx] at e2
    simp only [List.cons_append, List.nil_append, List.cons.injEq] at e2
    rw [← e2.1] at hd; exact absurd hd (by decide)
  · have nb : ¬ b.V = -1 := by omega
    rw [if_pos va, if_neg nb] at e2
    obtain ⟨x, l, hx, hd⟩ := itoa_head pa.T.1 (47 :: (itoa a.So ++ (47 :: (itoa a.Sq ++ (if a.sco = true then scopeB ++ itoa a.Sc else [])))))
    rw [List.nil_append, hx] at e2
    simp only [List.cons_append, List.nil_append, List.cons.injEq] at e2
    rw [e2.1] at hd; exact absurd hd (by decide)
  · rw [if_pos va, if_pos vb] at e2
    exact hrest (by rw [va, vb]) e2
end Go.Vm
/- explain.Format at symbols: its runs. -/
set_option maxRecDepth 100000
set_option linter.unusedVariables false
namespace Go.Vm
noncomputable def y (i : Nat) : F := .s (.sym i)
noncomputable def varsF : F := .row 2 ((List.range 16).map fun i => [.s (.str ⟨⟨[118, UInt8.ofNat (97 + i)]⟩⟩), n 0])
def stS (l : List UInt8) : S := .str ⟨⟨l⟩⟩
def inS (k : Int) : S := .int .i64 k
/-- 0 Time, 1 Source, 2 Seq, 3 Scope; 10 .. their texts -/
noncomputable def knF : Known := [(9, [y 0], y 10), (9, [y 1], y 11), (9, [y 2], y 12), (9, [y 3], y 13)]
def numBins : List (BinOp × S × S × S) := [(.add, stS [47], .sym 11, .sym 21), (.add, .sym 10, .sym 21, .sym 30), (.add, stS [47], .sym 12, .sym 22), (.add, .sym 30, .sym 22, .sym 31)]
noncomputable def envF (o : Orac) (l : Known) : Env := envK tyTab fnTab pureTab [23, 25, 42, 144] glob58 base58 o l
theorem numRun : run (envF ⟨numBins, []⟩ knF) 10000 (.pcall 8 [.row 1 [[y 0], [y 1], [y 2]]]) = some (.pv (y 31)) := by kernel_rfl
/-- the reference lies in its bounds -/
def okBins : List (BinOp × S × S × S) := [(.geq, .sym 0, inS 0, .bool true), (.leq, .sym 0, inS 1099511627776, .bool true), (.geq, .sym 1, inS 0, .bool true), (.lss, .sym 1, inS 8, .bool true), (.geq, .sym 2, inS 0, .bool true), (.leq, .sym 2, inS 1099511627776, .bool true)]
def scBins : List (BinOp × S × S × S) := [(.lss, .sym 3, inS 0, .bool false), (.geq, .sym 3, inS 64, .bool false)]
def outBins (p : List UInt8) (sco : Bool) : List (BinOp × S × S × S) :=
  (.add, stS p, .sym 31, .sym 40) :: (if sco then [(.add, stS scopeB, .sym 13, .sym 23), (.add, .sym 40, .sym 23, .sym 41)] else [])
noncomputable def okRun (k : Nat) (v : Int) (p : List UInt8) : Bool :=
  let sco := k == 2 || k == 5
  match run (envF ⟨okBins ++ scBins ++ outBins p sco, []⟩ ((8, [.row 1 [[y 0], [y 1], [y 2]]], y 31) :: knF)) 10000 (.pcall 4 [varsF, .agg [n k, n v, (if sco then y 3 else n 0), y 0, y 1, y 2]]) with
  | some (.pv x) => F.beq x (.tup [if sco then y 41 else y 40, n 0])
  | _ => false
theorem okAll1 : ((List.range 16).all fun v => okRun 1 v (preOf 1 v)) = true := by kernel_rfl
theorem okAll2 : ((List.range 16).all fun v => okRun 2 v (preOf 2 v)) = true := by kernel_rfl
theorem okAll3 : ((List.range 16).all fun v => okRun 3 v (preOf 3 v)) = true := by kernel_rfl
theorem okAll4 : ((List.range 16).all fun v => okRun 4 v (preOf 4 v)) = true := by kernel_rfl
theorem okAll5 : ((List.range 16).all fun v => okRun 5 v (preOf 5 v)) = true := by kernel_rfl
theorem okAll6 : ((List.range 16).all fun v => okRun 6 v (preOf 6 v)) = true := by kernel_rfl
theorem okAll7 : ((List.range 16).all fun v => okRun 7 v (preOf 7 v)) = true := by kernel_rfl
theorem okType : okRun 3 (-1) (wordOf 3 ++ [32]) = true := by kernel_rfl
end Go.Vm
