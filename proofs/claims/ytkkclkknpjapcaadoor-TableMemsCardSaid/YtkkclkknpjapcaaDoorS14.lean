/- Shared texts, part S14: VintZ, BkP. -/
import Derived.Test.YtkkclkknpjapcaaDoorS13
import Derived.Test.YtkkclkknpjapcaaDoorS05
import Derived.Test.YtkkclkknpjapcaaDoorS03
/-! ### VintZ -/
namespace Go.Proofs.YtkkclkknpjapcaaDoor
open Go.RowKit
set_option linter.unusedVariables false
set_option linter.unusedSimpArgs false

theorem bAt_0 (x : UInt8) (l : List UInt8) : bAt (x :: l) 0 = x.toNat := rfl
theorem bAt_s (x : UInt8) (l : List UInt8) (k : Nat) : bAt (x :: l) (k + 1) = bAt l k := rfl
theorem toNat_low (m : Nat) : (UInt8.ofNat (m % 128 + 128)).toNat = m % 128 + 128 := by rw [UInt8.toNat_ofNat']; omega
theorem toNat_small {m : Nat} (h : m < 256) : (UInt8.ofNat m).toNat = m := by rw [UInt8.toNat_ofNat']; omega
theorem pow128_zero {n : Nat} (h : n < 128 ^ 0) : n = 0 := by simpa using h
theorem pow128_div {n f : Nat} (h : n < 128 ^ (f + 1)) : n / 128 < 128 ^ f := by
  rw [Nat.pow_succ] at h
  exact Nat.div_lt_of_lt_mul (by rw [Nat.mul_comm]; exact h)
theorem pow128_pos {n f : Nat} (h : n < 128 ^ (f + 1)) (hn : ¬ n < 128) : 1 ≤ f := by
  cases f with
  | zero => simp at h; omega
  | succ f => omega
theorem uvarF_lead : ∀ (f n : Nat) (r : List UInt8), 1 ≤ f → n < 128 ^ f → leadU (uvarF f n ++ r) + 1 = (uvarF f n).length := by
  intro f
  induction f with
  | zero => intro n r h; omega
  | succ f ih =>
    intro n r _ hn
    by_cases hs : n < 128
    · rw [uvarF_small hs]
      have : ¬ 128 ≤ (UInt8.ofNat n).toNat := by rw [toNat_small (by omega)]; omega
      show (if 128 ≤ (UInt8.ofNat n).toNat then leadU r + 1 else 0) + 1 = 1
      rw [if_neg this]
    · rw [uvarF_big hs]
      have h1 : 128 ≤ (UInt8.ofNat (n % 128 + 128)).toNat := by rw [toNat_low]; omega
      have h2 := ih (n / 128) r (pow128_pos hn hs) (pow128_div hn)
      simp only [List.cons_append, leadU, if_pos h1, List.length_cons]
      omega
theorem uvarF_val : ∀ (f n : Nat), n < 128 ^ f → valU (uvarF f n) = n := by
  intro f
  induction f with
  | zero => intro n h; rw [pow128_zero h]; rfl
  | succ f ih =>
    intro n hn
    by_cases hs : n < 128
    · rw [uvarF_small hs]
      simp only [valU, toNat_small (show n < 256 by omega)]
      omega
    · rw [uvarF_big hs]
      simp only [valU, toNat_low, ih (n / 128) (pow128_div hn)]
      omega
theorem uvarF_last_byte : ∀ (f n : Nat) (r : List UInt8), 1 ≤ f → n < 128 ^ f → bAt (uvarF f n ++ r) ((uvarF f n).length - 1) = n / 128 ^ ((uvarF f n).length - 1) ∧ 128 ^ ((uvarF f n).length - 1) ≤ max n 1 := by
  intro f
  induction f with
  | zero => intro n r h; omega
  | succ f ih =>
    intro n r _ hn
    by_cases hs : n < 128
    · rw [uvarF_small hs]
      simp only [List.length_singleton, Nat.sub_self, List.singleton_append, bAt_0, toNat_small (show n < 256 by omega)]
      simp; omega
    · rw [uvarF_big hs]
      obtain ⟨h1, h2⟩ := ih (n / 128) r (pow128_pos hn hs) (pow128_div hn)
      have hp := uvarF_pos (f := f) (n := n / 128) (pow128_pos hn hs)
      obtain ⟨l, hl⟩ : ∃ l, (uvarF f (n / 128)).length = l + 1 := ⟨(uvarF f (n / 128)).length - 1, by omega⟩
      rw [hl, Nat.add_sub_cancel] at h1 h2
      simp only [List.length_cons, hl, Nat.add_sub_cancel, List.cons_append, bAt_s, h1]
      refine ⟨by rw [Nat.pow_succ, Nat.div_div_eq_div_mul, Nat.mul_comm], ?_⟩
      rw [Nat.pow_succ]
      have : max (n / 128) 1 = n / 128 := by omega
      rw [this] at h2
      omega
theorem uvar_pos (g : Nat) : 0 < (uvar g).length := uvarF_pos (by omega)
theorem lt_pow10 {g : Nat} (h : g < 18446744073709551616) : g < 128 ^ 10 := Nat.lt_of_lt_of_le h pow128_10
theorem takeU_uvar {g : Nat} (hg : g < 18446744073709551616) (r : List UInt8) : takeU (uvar g ++ r) = (g, (uvar g).length, 0) := by
  have h1 : leadU (uvar g ++ r) + 1 = (uvar g).length := uvarF_lead 10 g r (by omega) (lt_pow10 hg)
  have h2 := uvar_len g
  obtain ⟨h3, h4⟩ : bAt (uvar g ++ r) ((uvar g).length - 1) = g / 128 ^ ((uvar g).length - 1) ∧ 128 ^ ((uvar g).length - 1) ≤ max g 1 := uvarF_last_byte 10 g r (by omega) (lt_pow10 hg)
  rw [show (uvar g).length - 1 = leadU (uvar g ++ r) from by omega] at h3 h4
  unfold takeU
  rw [if_neg (by rw [List.length_append]; omega), if_neg, h1]
  · rw [List.take_left' rfl]
    show (valU (uvarF 10 g), _, _) = _
    rw [uvarF_val 10 g (lt_pow10 hg)]
  · rintro (h | ⟨h, hb⟩ | ⟨h, hb⟩)
    · omega
    · rw [h3, h] at hb
      have e : (128 : Nat) ^ 9 = 9223372036854775808 := by decide
      rw [e] at hb
      omega
    · rw [h3] at hb
      have hp : 128 ≤ 128 ^ leadU (uvar g ++ r) := by
        have := pow128_le (show 1 ≤ leadU (uvar g ++ r) from h)
        simpa using this
      have : 128 ^ leadU (uvar g ++ r) ≤ g := by omega
      have := Nat.div_pos this (by omega)
      omega
theorem leadU_take : ∀ (l : List UInt8) (i : Nat), i ≤ leadU l → leadU (l.take i) = i := by
  intro l
  induction l with
  | nil => intro i h; simp [leadU] at h; subst h; rfl
  | cons x l ih =>
    intro i h
    cases i with
    | zero => rfl
    | succ i =>
      unfold leadU at h
      split at h
      · rename_i hx
        simp only [List.take_succ_cons, leadU, if_pos hx]
        rw [ih i (by omega)]
      · omega
theorem takeU_cut {g i : Nat} (hg : g < 18446744073709551616) (hi : i < (uvar g).length) : takeU ((uvar g).take i) = (0, 0, 5) := by
  have h1 : leadU (uvar g ++ []) + 1 = (uvar g).length := uvarF_lead 10 g [] (by omega) (lt_pow10 hg)
  rw [List.append_nil] at h1
  unfold takeU
  rw [leadU_take _ _ (by omega), if_pos (by simp; omega)]
theorem readU_from : ∀ (l : List UInt8) (a : Nat), l.foldl (fun a x => a * 256 + x.toNat) a = a * 256 ^ l.length + readU l := by
  intro l
  induction l with
  | nil => intro a; simp [readU]
  | cons x l ih =>
    intro a
    unfold readU
    rw [List.foldl_cons, List.foldl_cons, ih, ih (0 * 256 + x.toNat), List.length_cons, Nat.pow_succ, Nat.add_mul, Nat.zero_mul, Nat.zero_add, ← Nat.add_assoc, Nat.mul_assoc, Nat.mul_comm 256]
theorem readU_cons (x : UInt8) (l : List UInt8) : readU (x :: l) = x.toNat * 256 ^ l.length + readU l := by
  have := readU_from l (0 * 256 + x.toNat)
  rw [Nat.zero_mul, Nat.zero_add] at this
  unfold readU at *
  rw [List.foldl_cons, Nat.zero_mul, Nat.zero_add]
  exact this
theorem fixed_read : ∀ (s n : Nat), readU (fixedU n s) = n % 256 ^ s := by
  intro s
  induction s with
  | zero => intro n; simp [fixedU, readU, Nat.mod_one]
  | succ s ih =>
    intro n
    rw [fixedU, readU_cons, fixedU_len, ih, UInt8.toNat_ofNat', show (2 : Nat) ^ 8 = 256 from rfl, Nat.pow_succ, Nat.mod_mul (a := 256 ^ s), Nat.mul_comm (256 ^ s)]
    omega
end Go.Proofs.YtkkclkknpjapcaaDoor
/-! ### BkP -/
namespace Go.Proofs.YtkkclkknpjapcaaDoor
open Go.RowKit
set_option linter.unusedVariables false
set_option linter.unusedSimpArgs false

/-- How many bytes two keys have in common at their front. -/
def cmnB : List UInt8 → List UInt8 → Nat
  | x :: xs, y :: ys => if x = y then cmnB xs ys + 1 else 0
  | _, _ => 0
theorem cmnB_le : ∀ (xs ys : List UInt8), cmnB xs ys ≤ xs.length ∧ cmnB xs ys ≤ ys.length := by
  intro xs
  induction xs with
  | nil => intro ys; simp [cmnB]
  | cons x xs ih =>
    intro ys
    cases ys with
    | nil => simp [cmnB]
    | cons y ys =>
      unfold cmnB
      split
      · have := ih ys; simp only [List.length_cons]; omega
      · simp
theorem cmnB_take : ∀ (xs ys : List UInt8), xs.take (cmnB xs ys) = ys.take (cmnB xs ys) := by
  intro xs
  induction xs with
  | nil => intro ys; simp [cmnB]
  | cons x xs ih =>
    intro ys
    cases ys with
    | nil => simp [cmnB]
    | cons y ys =>
      unfold cmnB
      split
      · rename_i h; rw [List.take_succ_cons, List.take_succ_cons, h, ih ys]
      · simp
theorem cmnB_is : ∀ (xs ys : List UInt8) (k : Nat), k ≤ xs.length → k ≤ ys.length → (∀ j, j < k → bAt xs j = bAt ys j) → (k = xs.length ∨ k = ys.length ∨ bAt xs k ≠ bAt ys k) → cmnB xs ys = k := by
  intro xs
  induction xs with
  | nil => intro ys k h1 h2 h3 h4; simp at h1; subst h1; simp [cmnB]
  | cons x xs ih =>
    intro ys k h1 h2 h3 h4
    cases ys with
    | nil => simp at h2; subst h2; simp [cmnB]
    | cons y ys =>
      cases k with
      | zero =>
        unfold cmnB
        rcases h4 with h4 | h4 | h4
        · simp at h4
        · simp at h4
        · rw [if_neg]
          intro e
          subst e
          exact h4 rfl
      | succ k =>
        have h0 : x = y := UInt8.toNat_inj.1 (h3 0 (by omega))
        unfold cmnB
        rw [if_pos h0, ih ys k (by simpa using h1) (by simpa using h2) (fun j hj => h3 (j + 1) (by omega)) (by
          rcases h4 with h4 | h4 | h4
          · exact .inl (by simpa using h4)
          · exact .inr (.inl (by simpa using h4))
          · exact .inr (.inr h4))]
/-- What an entry takes of the key ahead of it. -/
def shN (es : List EntR) (k : Nat) : Nat := if k % 8 = 0 then 0 else cmnB (eKey (elt noEnt es (k - 1))) (eKey (elt noEnt es k))
theorem shN_le (es : List EntR) (k : Nat) : shN es k ≤ (eKey (elt noEnt es k)).length := by
  unfold shN
  split
  · omega
  · exact (cmnB_le _ _).2
def bkHead (n : Nat) (e : EntR) (L : List UInt8) : List UInt8 := (((L ++ uvar n) ++ uvar ((eKey e).length - n)) ++ (eKey e).drop n) ++ uvar (eSeq e).toNat
def bkTail (e : EntR) (L : List UInt8) : List UInt8 :=
  match eGone e with
  | true => L ++ [1]
  | false => ((L ++ [0]) ++ uvar (eTil e).toNat) ++ uvar (eVal e).length ++ eVal e
/-- The bytes of the first entries. -/
def accK (es : List EntR) : Nat → List UInt8
  | 0 => []
  | k + 1 => bkTail (elt noEnt es k) (bkHead (shN es k) (elt noEnt es k) (accK es k))
/-- Where the entries stand whose keys stand whole. -/
def stK (es : List EntR) : Nat → List Int
  | 0 => []
  | k + 1 => if k % 8 = 0 then stK es k ++ [((accK es k).length : Int)] else stK es k
def fixK (L : List UInt8) (st : List Int) : Nat → List UInt8
  | 0 => L
  | j + 1 => fixK L st j ++ fixB (elt 0 st j).toNat 4
/-- A block's bytes. -/
def encK (es : List EntR) : List UInt8 := fixK (accK es es.length) (stK es es.length) (stK es es.length).length ++ fixB (stK es es.length).length 4
def AllM (es : List EntR) : Prop := ∀ j, j < es.length → mayE (elt noEnt es j) = true
theorem bk_len (n : Nat) (e : EntR) (L : List UInt8) (h : mayE e = true) : (bkTail e (bkHead n e L)).length ≤ L.length + 2700 := by
  obtain ⟨_, h1, h2, _⟩ := mayE_cases h
  have e1 := uvar_len n
  have e2 := uvar_len ((eKey e).length - n)
  have e3 := uvar_len (eSeq e).toNat
  have e4 := uvar_len (eTil e).toNat
  have e5 := uvar_len (eVal e).length
  unfold bkTail bkHead
  split <;> simp only [List.length_append, List.length_singleton, List.length_drop] <;> omega
theorem accK_len {es : List EntR} (h : AllM es) : ∀ k, k ≤ es.length → (accK es k).length ≤ k * 2700 := by
  intro k
  induction k with
  | zero => intro _; simp [accK]
  | succ k ih =>
    intro hk
    have h1 := ih (by omega)
    have h2 := bk_len (shN es k) (elt noEnt es k) (accK es k) (h k (by omega))
    rw [accK]
    omega
theorem stK_len (es : List EntR) : ∀ k, (stK es k).length = (k + 7) / 8 := by
  intro k
  induction k with
  | zero => simp [stK]
  | succ k ih =>
    rw [stK]
    split
    · rw [List.length_append, ih, List.length_singleton]; omega
    · rw [ih]; omega
theorem fix4_len (g : Nat) : (fixB g 4).length = 4 := by
  unfold fixB
  rw [if_neg (by omega), fixedU_len]
  rfl
theorem fixK_len (L : List UInt8) (st : List Int) : ∀ j, (fixK L st j).length = L.length + 4 * j := by
  intro j
  induction j with
  | zero => simp [fixK]
  | succ j ih => rw [fixK, List.length_append, ih, fix4_len]; omega
theorem fixK_pre (L : List UInt8) (st : List Int) : ∀ j, ∃ F, fixK L st j = L ++ F ∧ F.length = 4 * j := by
  intro j
  induction j with
  | zero => exact ⟨[], by simp [fixK], rfl⟩
  | succ j ih =>
    obtain ⟨F, h1, h2⟩ := ih
    exact ⟨F ++ fixB (elt 0 st j).toNat 4, by rw [fixK, h1, List.append_assoc], by rw [List.length_append, h2, fix4_len]; omega⟩
/-! ## Read again -/
/-- A key read: the key, what is left. -/
def keyK (xs last : List UInt8) : Option (List UInt8 × List UInt8) :=
  if (takeU xs).2.2 ≠ 0 then none
  else if last.length < (takeU xs).1 then none
  else if (takeU (xs.drop (takeU xs).2.1)).2.2 ≠ 0 then none
  else if 512 - (takeU xs).1 < (takeU (xs.drop (takeU xs).2.1)).1 then none
  else if ((xs.drop (takeU xs).2.1).drop (takeU (xs.drop (takeU xs).2.1)).2.1).length < (takeU (xs.drop (takeU xs).2.1)).1 then none
  else some (last.take (takeU xs).1 ++ ((xs.drop (takeU xs).2.1).drop (takeU (xs.drop (takeU xs).2.1)).2.1).take (takeU (xs.drop (takeU xs).2.1)).1,
    ((xs.drop (takeU xs).2.1).drop (takeU (xs.drop (takeU xs).2.1)).2.1).drop (takeU (xs.drop (takeU xs).2.1)).1)
/-- What stands behind the flag of an entry that is there. -/
def valK (key : List UInt8) (s : Int) (xs : List UInt8) : Option (EntR × List UInt8) :=
  if (takeU xs).2.2 ≠ 0 then none
  else if (takeB (xs.drop (takeU xs).2.1) 2048).2.2 ≠ 0 then none
  else some (mkEnt key s false (wrap64 (takeU xs).1) (takeB (xs.drop (takeU xs).2.1) 2048).1, (xs.drop (takeU xs).2.1).drop (takeB (xs.drop (takeU xs).2.1) 2048).2.1)
/-- What stands behind an entry's number. -/
def flagK (key : List UInt8) (s : Int) : List UInt8 → Option (EntR × List UInt8)
  | [] => none
  | f :: r => if 1 < f.toNat then none else if f.toNat = 1 then some (mkEnt key s true 0 [], r) else valK key s r
/-- What stands behind an entry's key. -/
def seqK (key xs : List UInt8) : Option (EntR × List UInt8) :=
  if (takeU xs).2.2 ≠ 0 then none else flagK key (wrap64 (takeU xs).1) (xs.drop (takeU xs).2.1)
def entK (xs last : List UInt8) : Option (EntR × List UInt8) :=
  match keyK xs last with
  | none => none
  | some (key, r) => seqK key r
def decL : Nat → List UInt8 → List UInt8 → Option (List EntR)
  | 0, _, _ => none
  | f + 1, xs, last =>
    if xs = [] then some []
    else match entK xs last with
      | none => none
      | some (e, r) => (decL f r (eKey e)).map (e :: ·)
/-- What a block's bytes must meet: how many, each may be, in order. -/
def FitK (es : List EntR) : Prop := 1 ≤ es.length ∧ es.length ≤ 400 ∧ AllM es ∧ Srt es
noncomputable def fitB (es : List EntR) : Bool := decide (1 ≤ es.length) && decide (es.length ≤ 400) && es.all mayE && srtB es
theorem fitB_iff (es : List EntR) : fitB es = true ↔ FitK es := by
  unfold fitB FitK
  simp only [Bool.and_eq_true, decide_eq_true_iff, List.all_eq_true]
  constructor
  · rintro ⟨⟨⟨h1, h2⟩, h3⟩, h4⟩
    refine ⟨h1, h2, fun j hj => h3 _ (elt_mem hj), Classical.byContradiction fun hn => ?_⟩
    rw [srtB_false hn] at h4
    cases h4
  · rintro ⟨h1, h2, h3, h4⟩
    refine ⟨⟨⟨h1, h2⟩, fun x hx => ?_⟩, srtB_true h4⟩
    obtain ⟨j, hj, rfl⟩ := List.getElem_of_mem hx
    have := h3 j hj
    rw [elt_get noEnt hj] at this
    exact this
noncomputable def decF (b : List UInt8) : Option (List EntR) :=
  if b.length < 4 then none
  else if readU (b.drop (b.length - 4)) = 0 ∨ (b.length - 4) / 4 < readU (b.drop (b.length - 4)) then none
  else match decL (b.length + 1) (b.take (b.length - 4 - 4 * readU (b.drop (b.length - 4)))) [] with
    | none => none
    | some es => if fitB es = true ∧ encK es = b then some es else none
theorem decF_some {b : List UInt8} {es : List EntR} (h : decF b = some es) : FitK es ∧ encK es = b := by
  unfold decF at h
  split at h
  · cases h
  · split at h
    · cases h
    · split at h
      · cases h
      · split at h
        · rename_i h2; cases h; exact ⟨(fitB_iff _).1 h2.1, h2.2⟩
        · cases h
theorem takeB_put' (s r : List UInt8) (most : Int) (hs : s.length < 18446744073709551616) (hm : (s.length : Int) ≤ most) : takeB (uvar s.length ++ (s ++ r)) most = (s, (uvar s.length).length + s.length, 0) := by
  unfold takeB
  rw [takeU_uvar hs]
  simp only [ne_eq, not_true_eq_false, if_false]
  rw [if_neg (by omega), if_neg (by simp only [List.length_append]; omega), List.drop_left, List.take_left]
theorem drop_app {α : Type} (a b : List α) : (a ++ b).drop a.length = b := by simp
theorem take_app {α : Type} (a b : List α) : (a ++ b).take a.length = a := by simp
/-- An entry's bytes. -/
def entB (n : Nat) (e : EntR) : List UInt8 := bkTail e (bkHead n e [])
theorem bk_app (n : Nat) (e : EntR) (L : List UInt8) : bkTail e (bkHead n e L) = L ++ entB n e := by
  unfold entB bkTail bkHead
  split <;> simp [List.append_assoc]
theorem keyK_put {n : Nat} {key last r : List UInt8} (hn : n ≤ last.length) (hk : n ≤ key.length) (ht : last.take n = key.take n) (hl : key.length ≤ 512) :
    keyK (uvar n ++ (uvar (key.length - n) ++ (key.drop n ++ r))) last = some (key, r) := by
  have h1 := takeU_uvar (g := n) (by omega) (uvar (key.length - n) ++ (key.drop n ++ r))
  have h2 := takeU_uvar (g := key.length - n) (by omega) (key.drop n ++ r)
  unfold keyK
  rw [h1]
  simp only [drop_app, h2]
  rw [if_neg (by omega), if_neg (by omega), if_neg (by omega), if_neg (by omega), if_neg (by simp)]
  have e1 : (key.drop n ++ r).take (key.length - n) = key.drop n := by rw [← List.length_drop]; exact take_app _ _
  have e2 : (key.drop n ++ r).drop (key.length - n) = r := by rw [← List.length_drop]; exact drop_app _ _
  rw [e1, e2, ht, List.take_append_drop]
theorem mayE_more {e : EntR} (h : mayE e = true) : 0 ≤ eTil e ∧ eTil e ≤ 4611686018427387904 ∧ (eGone e = false ∨ (eTil e = 0 ∧ (eVal e).length = 0)) := by
  unfold mayE mayN at h
  rw [decide_eq_true_iff] at h
  exact ⟨h.2.2.2.2.2.1, h.2.2.2.2.2.2.1, h.2.2.2.2.2.2.2⟩
theorem wrap_nat {z : Int} (h0 : 0 ≤ z) (h1 : z ≤ 4611686018427387904) : wrap64 (z.toNat : Int) = z := by
  unfold wrap64
  omega
theorem entK_put {n : Nat} {e : EntR} {last r : List UInt8} (hm : mayE e = true) (hn : n ≤ last.length) (hk : n ≤ (eKey e).length) (ht : last.take n = (eKey e).take n) : entK (entB n e ++ r) last = some (e, r) := by
  obtain ⟨m1, m2, m3, m4, m5⟩ := mayE_cases hm
  obtain ⟨m6, m7, m8⟩ := mayE_more hm
  obtain ⟨key, s, g, t, v⟩ := e
  change 1 ≤ key.length at m1
  change key.length ≤ 512 at m2
  change v.length ≤ 2048 at m3
  change 1 ≤ s at m4
  change s ≤ _ at m5
  change 0 ≤ t at m6
  change t ≤ _ at m7
  change n ≤ key.length at hk
  change last.take n = key.take n at ht
  have hs := takeU_uvar (g := s.toNat) (by omega)
  have hs2 := wrap_nat (z := s) (by omega) m5
  cases g
  · have e1 : entB n (key, s, false, t, v) ++ r = uvar n ++ (uvar (key.length - n) ++ (key.drop n ++ (uvar s.toNat ++ (0 :: (uvar t.toNat ++ (uvar v.length ++ (v ++ r))))))) := by
      simp [entB, bkTail, bkHead, eKey, eSeq, eGone, eTil, eVal, List.append_assoc]
    rw [e1]
    unfold entK
    rw [keyK_put hn hk ht m2]
    have ht1 := takeU_uvar (g := t.toNat) (by omega) (uvar v.length ++ (v ++ r))
    have hv := takeB_put' v r 2048 (by omega) (by omega)
    have ht2 := wrap_nat (z := t) m6 m7
    simp only [seqK, hs, drop_app, hs2, flagK]
    rw [if_neg (by simp), if_neg (by simp), if_neg (by simp)]
    unfold valK
    simp only [ht1, drop_app, hv, ht2]
    rw [if_neg (by simp), if_neg (by simp), ← List.append_assoc, ← List.length_append, drop_app]
    rfl
  · have h2 : t = 0 ∧ v.length = 0 := by
      rcases m8 with h | h
      · cases h
      · exact h
    obtain ⟨rfl, hv⟩ := h2
    obtain rfl : v = [] := List.eq_nil_of_length_eq_zero hv
    have e1 : entB n (key, s, true, 0, []) ++ r = uvar n ++ (uvar (key.length - n) ++ (key.drop n ++ (uvar s.toNat ++ (1 :: r)))) := by
      simp [entB, bkTail, bkHead, eKey, eSeq, eGone, eTil, eVal, List.append_assoc]
    rw [e1]
    unfold entK
    rw [keyK_put hn hk ht m2]
    simp only [seqK, hs, drop_app, hs2, flagK]
    rw [if_neg (by simp), if_neg (by simp), if_pos (by simp)]
    rfl
/-- The bytes of so many entries from the k-th on. -/
def restB (es : List EntR) (k : Nat) : Nat → List UInt8
  | 0 => []
  | m + 1 => entB (shN es k) (elt noEnt es k) ++ restB es (k + 1) m
theorem accK_rest (es : List EntR) : ∀ m k, accK es (k + m) = accK es k ++ restB es k m := by
  intro m
  induction m with
  | zero => intro k; simp [restB]
  | succ m ih =>
    intro k
    rw [show k + (m + 1) = (k + 1) + m by omega, ih (k + 1), accK, bk_app, restB, List.append_assoc]
def lastK' (es : List EntR) (k : Nat) : List UInt8 := if k = 0 then [] else eKey (elt noEnt es (k - 1))
theorem entB_pos (n : Nat) (e : EntR) : 0 < (entB n e).length := by
  have := uvar_pos n
  unfold entB bkTail bkHead
  split <;> simp only [List.length_append, List.length_singleton, List.length_nil] <;> omega
theorem decL_rest {es : List EntR} (h : AllM es) : ∀ m k f, k + m = es.length → (restB es k m).length < f → decL f (restB es k m) (lastK' es k) = some (es.drop k) := by
  intro m
  induction m with
  | zero =>
    intro k f hk hf
    cases f with
    | zero => omega
    | succ f =>
      rw [restB, decL, if_pos rfl, List.drop_eq_nil_of_le (by omega)]
  | succ m ih =>
    intro k f hk hf
    cases f with
    | zero => omega
    | succ f =>
      have hp := entB_pos (shN es k) (elt noEnt es k)
      rw [restB] at hf ⊢
      rw [List.length_append] at hf
      rw [decL, if_neg (by intro e; have := congrArg List.length e; simp at this; rw [this.1] at hp; simp at hp)]
      have hsh : shN es k ≤ (lastK' es k).length ∧ (lastK' es k).take (shN es k) = (eKey (elt noEnt es k)).take (shN es k) := by
        unfold shN lastK'
        split
        · simp
        · rename_i h8
          rw [if_neg (by intro e; subst e; simp at h8)]
          exact ⟨(cmnB_le _ _).1, cmnB_take _ _⟩
      rw [entK_put (h k (by omega)) hsh.1 (shN_le es k) hsh.2]
      have hl : lastK' es (k + 1) = eKey (elt noEnt es k) := by unfold lastK'; rw [if_neg (by omega)]; rfl
      have hi := ih (k + 1) f (by omega) (by omega)
      rw [hl] at hi
      show (decL f (restB es (k + 1) m) (eKey (elt noEnt es k))).map _ = _
      rw [hi, drop_elt (show k < es.length by omega)]
      rfl
theorem decF_enc {es : List EntR} (h : FitK es) : decF (encK es) = some es := by
  obtain ⟨h1, h2, h3, h4⟩ := h
  obtain ⟨F, hF, hFl⟩ := fixK_pre (accK es es.length) (stK es es.length) (stK es es.length).length
  have hsl := stK_len es es.length
  obtain ⟨c, hc⟩ : ∃ c, (stK es es.length).length = c := ⟨_, rfl⟩
  have hc1 : 1 ≤ c ∧ c ≤ 60 := by omega
  have hb : encK es = (accK es es.length ++ F) ++ fixB c 4 := by unfold encK; rw [hF, hc]
  rw [hc] at hFl
  have hA := accK_rest es es.length 0
  rw [Nat.zero_add, accK, List.nil_append] at hA
  have hlen : (encK es).length = (accK es es.length).length + 4 * c + 4 := by rw [hb]; simp only [List.length_append, fix4_len, hFl]
  have hd : (encK es).drop ((encK es).length - 4) = fixB c 4 := by
    rw [hlen, hb]
    have : (accK es es.length).length + 4 * c + 4 - 4 = (accK es es.length ++ F).length := by rw [List.length_append, hFl]; omega
    rw [this, drop_app]
  have hr : readU (fixB c 4) = c := by
    unfold fixB
    rw [if_neg (by omega)]
    show readU (fixedU c 4) = c
    rw [fixed_read, Nat.mod_eq_of_lt (by omega)]
  have ht : (encK es).take ((encK es).length - 4 - 4 * c) = accK es es.length := by
    rw [hlen, hb, show (accK es es.length).length + 4 * c + 4 - 4 - 4 * c = (accK es es.length).length by omega, List.append_assoc, take_app]
  have hdl := decL_rest h3 es.length 0 ((encK es).length + 1) (by omega) (by rw [← hA]; omega)
  unfold decF
  rw [if_neg (by omega), hd, hr, if_neg (by omega), ht, hA]
  rw [show lastK' es 0 = [] from rfl] at hdl
  rw [hdl]
  show (if fitB (es.drop 0) = true ∧ encK (es.drop 0) = encK es then some (es.drop 0) else none) = some es
  rw [List.drop_zero, if_pos ⟨(fitB_iff es).2 ⟨h1, h2, h3, h4⟩, rfl⟩]
end Go.Proofs.YtkkclkknpjapcaaDoor
