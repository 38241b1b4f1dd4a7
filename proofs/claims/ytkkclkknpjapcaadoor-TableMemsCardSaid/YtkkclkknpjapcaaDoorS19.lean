/- Shared texts, part S19: BlT, Crc, CrcC, CrcM. -/
import Derived.Laws.MakeOwn
import Derived.Test.YtkkclkknpjapcaaDoorProg
import Derived.Handy
import Derived.Test.YtkkclkknpjapcaaDoorS18
import Derived.Test.YtkkclkknpjapcaaDoorS01
/-! ### BlT -/
namespace Go.Proofs.YtkkclkknpjapcaaDoor
open Go.RowKit
set_option linter.unusedVariables false
set_option linter.unusedSimpArgs false

def setBit (b : List UInt8) (p : Nat) : List UInt8 := b.set (p / 8) (UInt8.ofNat (bAt b (p / 8) ||| 2 ^ (p % 8)))
def addUpto (b : List UInt8) (M h : Nat) : Nat → List UInt8
  | 0 => b
  | j + 1 => setBit (addUpto b M h j) (place h M j)
def addKey (M : Nat) (b k : List UInt8) : List UInt8 := addUpto b M (hashN k) 6
def sizeF (n : Nat) : Nat := ((if 64 < 10 * n then 10 * n else 64) + 7) / 8
def fillUpto (xss : List (List UInt8)) (M S : Nat) : Nat → List UInt8
  | 0 => List.replicate S 0
  | k + 1 => addKey M (fillUpto xss M S k) (elt [] xss k)
def filterB (xss : List (List UInt8)) : List UInt8 := fillUpto xss (8 * sizeF xss.length) (sizeF xss.length) xss.length
theorem setBit_len (b : List UInt8) (p : Nat) : (setBit b p).length = b.length := by simp [setBit]
theorem addUpto_len (b : List UInt8) (M h : Nat) : ∀ j, (addUpto b M h j).length = b.length := by
  intro j
  induction j with
  | zero => rfl
  | succ j ih => rw [addUpto, setBit_len, ih]
theorem fillUpto_len (xss : List (List UInt8)) (M S : Nat) : ∀ k, (fillUpto xss M S k).length = S := by
  intro k
  induction k with
  | zero => simp [fillUpto]
  | succ k ih => rw [fillUpto, addKey, addUpto_len, ih]
theorem or_bit {x s : Nat} (hx : x < 256) (hs : s < 8) : bits .or .u8 (x : Int) (2 ^ s) = ((UInt8.ofNat (x ||| 2 ^ s)).toNat : Int) := by
  have hp : 2 ^ s < 256 := Nat.lt_of_le_of_lt (Nat.pow_le_pow_right (by omega) (show s ≤ 7 by omega)) (by decide)
  have h := u8_or_nat x (2 ^ s) hx hp
  rw [Int.natCast_pow] at h
  have hl : x ||| 2 ^ s < 256 := Nat.or_lt_two_pow (n := 8) hx hp
  rw [show ((2 : Nat) : Int) = 2 from rfl] at h
  rw [h, UInt8.toNat_ofNat', Nat.mod_eq_of_lt hl]
theorem or_bit' {x s : Nat} (hx : x < 256) (hs : s < 8) : bits .or .u8 (x : Int) (2 ^ s % 256) = ((UInt8.ofNat (x ||| 2 ^ s)).toNat : Int) := by
  have hp : 2 ^ s < 256 := Nat.lt_of_le_of_lt (Nat.pow_le_pow_right (by omega) (show s ≤ 7 by omega)) (by decide)
  have e : (2 : Int) ^ s % 256 = 2 ^ s := by
    have h1 : ((2 ^ s : Nat) : Int) = (2 : Int) ^ s := by rw [Int.natCast_pow]; rfl
    exact Int.emod_eq_of_lt (by rw [← h1]; exact Int.natCast_nonneg _) (by rw [← h1]; exact Int.ofNat_lt.2 hp)
  rw [e]
  exact or_bit hx hs
theorem OB.zeros (w : World) (base S : Nat) (hb : base ≤ w.heap.size) (hS : S ≤ 9223372036854775807) : OB (w.alloc (.cells (madeCells #[.int .u8 0] S) 5)) base (.slice (some ⟨w.heap.size, 0, none⟩) S S) (List.replicate S 0) := by
  have h := World.ownsRow_lit (base := base) (e := 5) (size := 1) w (madeCells #[.int .u8 0] S) S hb (by simp only [maxLen]; omega) (by rw [size_madeCells]; omega)
  have e : (madeCells #[.int .u8 0] S).toList = bys (List.replicate S 0) := by
    apply List.ext_getElem?
    intro i
    simp [madeCells, bys, List.getElem?_replicate]
    by_cases hi : i < S <;> simp [hi, Nat.mod_one]
  unfold OB
  rw [List.length_replicate, ← e]
  exact h
theorem OB.formN {w : World} {base : Nat} {v : Value} {xs : List UInt8} (h : OB w base v xs) (n : Nat) (hl : xs.length = n) (hn : 0 < n) : ∃ g cap, v = .slice (some ⟨g, 0, none⟩) n cap ∧ base ≤ g ∧ g < w.heap.size ∧ n ≤ cap := by
  subst hl
  exact h.form hn
set_option maxHeartbeats 8000000 in
set_option maxRecDepth 100000 in
theorem build_any (A : Option Addr) (n c : Nat) (xss : List (List UInt8)) (w : World) (h : RBs w A n xss) (hn : n ≤ 100000) :
    Calls Tryd.prog 33 #[.slice A n c] w fun e w' => ∃ v, e = .returned (.tuple #[v, .int .i64 0]) ∧ OB w' w.heap.size v (filterB xss) ∧ Below w.heap.size w w' := by
  have hl := h.1
  obtain ⟨S, hS⟩ : ∃ S, S = sizeF n := ⟨_, rfl⟩
  have hS8 : 8 ≤ S ∧ S ≤ 125001 := by rw [hS]; unfold sizeF; split <;> omega
  have hz : ¬ ((100000 : Int) < (n : Int)) := by omega
  have hF : filterB xss = fillUpto xss (8 * S) S n := by unfold filterB; rw [hl, ← hS]
  rw [hF]
  have hmk : ∀ u : World, (Instr.makeSlice 23 (.int .i64 (S : Int)) (.int .i64 (S : Int))).run Tryd.prog u = .ok (.slice (some ⟨u.heap.size, 0, none⟩) S S) (u.alloc (.cells (madeCells #[.int .u8 0] S) 5)) := fun u => by
    obtain ⟨i, hi, hz0, hz1, hz2⟩ := info_parts u8info
    have h := run_make (P := Tryd.prog) u 23 5 i (.int .u8 0) Tryd.underlying23 hi hz0 .i64 .i64 (S : Int) (S : Int) (by omega) (Int.le_refl _) (by rw [hz2]; omega) (by omega)
    simpa [hz1, Value.cells] using h
  have hSz : ∃ E : Int, E = (S : Int) ∧ ((10 * n ≤ 64 ∧ E = 8) ∨ (64 < 10 * n ∧ E = (10 * (n : Int) + 7) / 8)) := by
    refine ⟨(S : Int), rfl, ?_⟩
    rw [hS]
    unfold sizeF
    by_cases hb : 64 < 10 * n
    · rw [if_pos hb]; exact .inr ⟨hb, by omega⟩
    · rw [if_neg hb]; exact .inl ⟨by omega, by omega⟩
  obtain ⟨E, hE, hcase⟩ := hSz
  rw [← hE] at hmk
  obtain ⟨M, hM⟩ : ∃ M, M = 8 * S := ⟨_, rfl⟩
  rw [← hM]
  have hM0 : 0 < M := by omega
  have hM64 : M < 18446744073709551616 := by omega
  have hS64 := u64_inB S (by omega)
  have hM64i : IntKind.u64.wrap ((S : Int) * 8) = (M : Int) := by rw [IntKind.wrap_u64]; omega
  have H := hid h
  have HM := hid hM
  clear hS hF hE h hl hM
  rcases hcase with ⟨hb, rfl⟩ | ⟨hb, rfl⟩
  all_goals
    have hb' : (64 : Int) < 10 * (n : Int) ↔ 64 < 10 * n := by omega
    go_enter Tryd.func33, Tryd.ntmps33
    go_wp2
    go_loopw [21] (fun i wr => ∃ k : Nat, k ≤ n ∧ i = .int .i64 k ∧ OB wr w.heap.size (.slice (some ⟨w.heap.size, 0, none⟩) S S) (fillUpto xss M S k) ∧ Below w.heap.size w wr) (fun i wr => n - (intOf i).toNat)
    case atStart => exact ⟨0, Nat.zero_le _, rfl, OB.zeros _ _ _ (Nat.le_refl _) (by omega), below_alloc' (Below.refl _ _) _⟩
    case round =>
      obtain ⟨k, hk, rfl, hown, hB⟩ := hrel
      by_cases hlt : k < n
      · obtain ⟨ad, rfl, Aj, nj, cj, hcell, hrb, hle⟩ := H.out.at_ hlt
        have hcell2 := below_cell hB hcell
        obtain ⟨h0, hh0⟩ : ∃ h, h = hashN (elt [] xss k) := ⟨_, rfl⟩
        have HH0 := hid hh0
        clear hh0 hcell
        go_wp2_with (go_at_call 53; (with_reducible refine (places_any Aj nj cj _ M _ (hrb.below hB) hM0 hM64).mono ?_); rintro e w1 ⟨rfl, hb1⟩; rw [← HH0.out])
        have hown1 := hown.below hb1
        have hB1 := below_then hB hb1
        clear hown hB hb1 hcell2
        go_loopw [31] (fun i wr2 => ∃ j : Nat, j ≤ 6 ∧ i = .int .i64 j ∧ OB wr2 w.heap.size (.slice (some ⟨w.heap.size, 0, none⟩) S S) (addUpto (fillUpto xss M S k) M h0 j) ∧ Below w.heap.size w wr2) (fun i wr2 => 6 - (intOf i).toNat)
        case atStart => exact ⟨0, by omega, rfl, hown1, hB1⟩
        case round =>
          clear hown1 hB1
          obtain ⟨j, hj, rfl, hown2, hB2⟩ := hrel
          by_cases hlt6 : j < 6
          · have hpl := place_lt (h := h0) j hM0
            have hix := run_index6 (h := h0) (m := M) hlt6 wr
            obtain ⟨P, hP⟩ : ∃ P, P = place h0 M j := ⟨_, rfl⟩
            rw [← hP] at hix hpl
            have HPP := hid hP
            clear hP
            have hP8 : P / 8 < S := by have := HM.out; omega
            have k0 := hown2.cell (j := P / 8) hP8
            have f0 := hown2.frozen (P / 8)
            have hor := or_bit' (bAt_lt (addUpto (fillUpto xss M S k) M h0 j) (P / 8)) (show P % 8 < 8 by omega)
            have HO := hid hor
            clear hor
            go_wp2
            go_roundw
            case rel => exact ⟨j + 1, by omega, by go_num, by rw [addUpto, ← HPP.out]; exact hown2.set (P / 8) _ HO.out, hB2.setCell (Nat.le_refl _) _⟩
            case measure => simp [intOf]; omega
          · obtain rfl : j = 6 := by omega
            go_wp2
            go_roundw
            case rel => exact ⟨k + 1, by omega, by go_num, by rw [HH0.out] at hown2; exact hown2, hB2⟩
            case measure => simp [intOf]; omega
      · obtain rfl : k = n := by omega
        go_wp2
        go_ret2
        exact ⟨_, rfl, hown, hB⟩
end Go.Proofs.YtkkclkknpjapcaaDoor
/-! ### Crc -/
namespace Go.Proofs.YtkkclkknpjapcaaDoor
set_option linter.unusedVariables false
set_option linter.unusedSimpArgs false

/-- One bit of the sum. -/
def crcR (s : Nat) : Nat := if s % 2 = 1 then (s / 2) ^^^ 2197175160 else s / 2
def crcRs : Nat → Nat → Nat
  | 0, s => s
  | n + 1, s => crcRs n (crcR s)
/-- One byte. -/
def crcStep (s x : Nat) : Nat := crcRs 8 (s ^^^ x)
def crcFold (s : Nat) (l : List UInt8) : Nat := l.foldl (fun s x => crcStep s x.toNat) s
def crcInv (s : Nat) : Nat := 4294967295 - s
def crcMore (s : Nat) (l : List UInt8) : Nat := crcInv (crcFold (crcInv s) l)

theorem crcR_lt {s : Nat} (h : s < 4294967296) : crcR s < 4294967296 := by
  unfold crcR
  split
  · exact Nat.xor_lt_two_pow (n := 32) (by omega) (by omega)
  · omega
theorem crcRs_lt (n : Nat) : ∀ {s : Nat}, s < 4294967296 → crcRs n s < 4294967296 := by
  induction n with
  | zero => intro s h; exact h
  | succ n ih => intro s h; exact ih (crcR_lt h)
theorem crcStep_lt {s x : Nat} (hs : s < 4294967296) (hx : x < 256) : crcStep s x < 4294967296 := crcRs_lt 8 (Nat.xor_lt_two_pow (n := 32) (by omega) (by omega))
theorem crcFold_lt (l : List UInt8) : ∀ {s : Nat}, s < 4294967296 → crcFold s l < 4294967296 := by
  induction l with
  | nil => intro s h; exact h
  | cons x l ih => intro s h; exact ih (crcStep_lt h x.toNat_lt)
theorem crcInv_lt (s : Nat) : crcInv s < 4294967296 := by unfold crcInv; omega
theorem crcInv_inv {s : Nat} (h : s < 4294967296) : crcInv (crcInv s) = s := by unfold crcInv; omega
theorem crcMore_lt (s : Nat) (l : List UInt8) : crcMore s l < 4294967296 := crcInv_lt _
theorem crcFold_append (s : Nat) (a b : List UInt8) : crcFold s (a ++ b) = crcFold (crcFold s a) b := by simp [crcFold, List.foldl_append]
theorem crcFold_snoc (s : Nat) (a : List UInt8) (x : UInt8) : crcFold s (a ++ [x]) = crcStep (crcFold s a) x.toNat := by simp [crcFold, List.foldl_append]
theorem crcMore_append (s : Nat) (a b : List UInt8) : crcMore s (a ++ b) = crcMore (crcMore s a) b := by
  unfold crcMore
  rw [crcFold_append, crcInv_inv (crcFold_lt a (crcInv_lt s))]
theorem crcMore_nil {s : Nat} (h : s < 4294967296) : crcMore s [] = s := crcInv_inv h

/-! ## Linear: over exclusive or -/
theorem xor_self4 (a b c d : Nat) : (a ^^^ b) ^^^ (c ^^^ d) = (a ^^^ c) ^^^ (b ^^^ d) := by
  rw [Nat.xor_assoc, Nat.xor_assoc, ← Nat.xor_assoc b c d, ← Nat.xor_assoc c b d, Nat.xor_comm b c]
theorem xor_half (a b : Nat) : (a ^^^ b) / 2 = a / 2 ^^^ b / 2 := by
  apply Nat.eq_of_testBit_eq
  intro i
  simp [Nat.testBit_div_two, Nat.testBit_xor]
theorem xor_mod2 (a b : Nat) : (a ^^^ b) % 2 = (a % 2 + b % 2) % 2 := by
  have h := @Nat.xor_mod_two_eq_one a b
  have h2 := Nat.mod_two_eq_zero_or_one (a ^^^ b)
  omega
theorem crcR_xor (a b : Nat) : crcR (a ^^^ b) = crcR a ^^^ crcR b := by
  unfold crcR
  rw [xor_half, xor_mod2]
  rcases Nat.mod_two_eq_zero_or_one a with ha | ha <;> rcases Nat.mod_two_eq_zero_or_one b with hb | hb <;> simp only [ha, hb]
  · simp
  · simp [Nat.xor_assoc]
  · simp only [Nat.reduceAdd, Nat.reduceMod, ↓reduceIte, Nat.zero_ne_one]
    rw [Nat.xor_assoc, Nat.xor_assoc, Nat.xor_comm (b / 2)]
  · simp only [Nat.reduceAdd, Nat.reduceMod, ↓reduceIte, Nat.zero_ne_one]
    rw [xor_self4, Nat.xor_self, Nat.xor_zero]
theorem crcRs_xor (n : Nat) : ∀ a b : Nat, crcRs n (a ^^^ b) = crcRs n a ^^^ crcRs n b := by
  induction n with
  | zero => intro a b; rfl
  | succ n ih => intro a b; show crcRs n _ = crcRs n _ ^^^ crcRs n _; rw [crcR_xor, ih]
theorem crcR_zero {s : Nat} (h : s < 4294967296) (h0 : crcR s = 0) : s = 0 := by
  unfold crcR at h0
  split at h0
  · exfalso
    have h1 : s / 2 = 2197175160 := by
      have := congrArg (· ^^^ 2197175160) h0
      simpa [Nat.xor_assoc] using this
    omega
  · omega
theorem crcRs_zero (n : Nat) : ∀ {s : Nat}, s < 4294967296 → crcRs n s = 0 → s = 0 := by
  induction n with
  | zero => intro s _ h; exact h
  | succ n ih => intro s hs h; exact crcR_zero hs (ih (crcR_lt hs) h)
theorem crcRs_of_zero (n : Nat) : crcRs n 0 = 0 := by
  induction n with
  | zero => rfl
  | succ n ih => exact ih
/-- Low bits that are 0 are shifted out. -/
theorem crcRs_shift (n : Nat) : ∀ y : Nat, crcRs n (y * 2 ^ n) = y := by
  induction n with
  | zero => intro y; show y * 1 = y; omega
  | succ n ih =>
    intro y
    show crcRs n (crcR (y * 2 ^ (n + 1))) = y
    have e : y * 2 ^ (n + 1) = (y * 2 ^ n) * 2 := by rw [Nat.pow_succ, Nat.mul_assoc]
    have : crcR (y * 2 ^ (n + 1)) = y * 2 ^ n := by
      unfold crcR
      rw [e, if_neg (by omega)]
      omega
    rw [this, ih]
theorem crcStep_xor (a b x y : Nat) : crcStep (a ^^^ b) (x ^^^ y) = crcStep a x ^^^ crcStep b y := by
  unfold crcStep
  rw [xor_self4, crcRs_xor]
theorem crcStep_zero {s : Nat} (h : s < 4294967296) (h0 : crcStep s 0 = 0) : s = 0 := by
  unfold crcStep at h0
  rw [Nat.xor_zero] at h0
  exact crcRs_zero 8 h h0
/-- The difference of two sums of bytes of one length. -/
def crcDiff (d : Nat) : List (UInt8 × UInt8) → Nat
  | [] => d
  | p :: l => crcDiff (crcStep d (p.1.toNat ^^^ p.2.toNat)) l
theorem crcFold_diff : ∀ (l : List (UInt8 × UInt8)) (s t : Nat), crcFold s (l.map (·.1)) ^^^ crcFold t (l.map (·.2)) = crcDiff (s ^^^ t) l := by
  intro l
  induction l with
  | nil => intro s t; rfl
  | cons p l ih =>
    intro s t
    show crcFold (crcStep s p.1.toNat) _ ^^^ crcFold (crcStep t p.2.toNat) _ = crcDiff (crcStep (s ^^^ t) (p.1.toNat ^^^ p.2.toNat)) l
    rw [ih, crcStep_xor]
theorem xor_eq_zero {a b : Nat} : a ^^^ b = 0 ↔ a = b := by
  constructor
  · intro h
    have := congrArg (· ^^^ b) h
    simpa [Nat.xor_assoc] using this
  · rintro rfl
    simp
theorem crcDiff_same : ∀ (l : List (UInt8 × UInt8)) {d : Nat}, (∀ p ∈ l, p.1 = p.2) → d < 4294967296 → (crcDiff d l = 0 ↔ d = 0) := by
  intro l
  induction l with
  | nil => intro d _ _; exact Iff.rfl
  | cons p l ih =>
    intro d h hd
    have hp : p.1.toNat ^^^ p.2.toNat = 0 := by rw [h p (by simp)]; simp
    show crcDiff (crcStep d (p.1.toNat ^^^ p.2.toNat)) l = 0 ↔ d = 0
    rw [hp, ih (fun q hq => h q (by simp [hq])) (crcStep_lt hd (by omega))]
    constructor
    · exact crcStep_zero hd
    · rintro rfl
      exact crcRs_of_zero 8
/-- Up to four bytes that follow one another, out of no difference: one number that has been shifted. -/
theorem crc_burst (x0 x1 x2 x3 : Nat) (h0 : x0 < 256) (h1 : x1 < 256) (h2 : x2 < 256) (h3 : x3 < 256) :
    crcStep (crcStep (crcStep (crcStep 0 x0) x1) x2) x3 = 0 ↔ x0 = 0 ∧ x1 = 0 ∧ x2 = 0 ∧ x3 = 0 := by
  have key : ∀ (d x : Nat), crcStep d x = crcRs 8 (d ^^^ x) := fun _ _ => rfl
  have push : ∀ x, x = crcRs 8 (x * 256) := fun x => (crcRs_shift 8 x).symm
  have e2 : crcStep (crcStep 0 x0) x1 = crcRs 8 (crcRs 8 (x0 ^^^ x1 * 256)) := by
    rw [key, key, Nat.zero_xor]
    conv => lhs; rw [push x1]
    rw [← crcRs_xor]
  have e3 : crcStep (crcRs 8 (crcRs 8 (x0 ^^^ x1 * 256))) x2 = crcRs 8 (crcRs 8 (crcRs 8 (x0 ^^^ x1 * 256 ^^^ x2 * 65536))) := by
    rw [key]
    conv => lhs; rw [push x2, push (x2 * 256)]
    rw [← crcRs_xor, ← crcRs_xor, Nat.mul_assoc]
  have e4 : crcStep (crcRs 8 (crcRs 8 (crcRs 8 (x0 ^^^ x1 * 256 ^^^ x2 * 65536)))) x3 = crcRs 8 (crcRs 8 (crcRs 8 (crcRs 8 (x0 ^^^ x1 * 256 ^^^ x2 * 65536 ^^^ x3 * 16777216)))) := by
    rw [key]
    conv => lhs; rw [push x3, push (x3 * 256), push (x3 * 256 * 256)]
    rw [← crcRs_xor, ← crcRs_xor, ← crcRs_xor, Nat.mul_assoc, Nat.mul_assoc]
  rw [e2, e3, e4]
  have join : x0 ^^^ x1 * 256 ^^^ x2 * 65536 ^^^ x3 * 16777216 = x0 + x1 * 256 + x2 * 65536 + x3 * 16777216 := by
    have j : ∀ (a b k : Nat), a < 2 ^ k → a ^^^ b * 2 ^ k = a + b * 2 ^ k := by
      intro a b k ha
      have hor : a ||| b * 2 ^ k = a + b * 2 ^ k := by
        rw [Nat.or_comm, Nat.mul_comm, Nat.add_comm]
        exact (Nat.two_pow_add_eq_or_of_lt ha b).symm
      rw [← hor]
      apply Nat.eq_of_testBit_eq
      intro i
      rw [Nat.testBit_xor, Nat.testBit_or]
      by_cases hi : i < k
      · rw [Nat.testBit_mul_two_pow, decide_eq_false (by omega)]
        simp
      · rw [Nat.testBit_lt_two_pow (x := a) (i := i) (Nat.lt_of_lt_of_le ha (Nat.pow_le_pow_right (by omega) (by omega)))]
        simp
    rw [j x0 x1 8 (by omega)]
    rw [j (x0 + x1 * 2 ^ 8) x2 16 (by omega)]
    rw [j (x0 + x1 * 2 ^ 8 + x2 * 2 ^ 16) x3 24 (by omega)]
  rw [join]
  constructor
  · intro h
    have hlt : x0 + x1 * 256 + x2 * 65536 + x3 * 16777216 < 4294967296 := by omega
    have := crcRs_zero 8 hlt (crcRs_zero 8 (crcRs_lt 8 hlt) (crcRs_zero 8 (crcRs_lt 8 (crcRs_lt 8 hlt)) (crcRs_zero 8 (crcRs_lt 8 (crcRs_lt 8 (crcRs_lt 8 hlt))) h)))
    omega
  · rintro ⟨rfl, rfl, rfl, rfl⟩
    simp [crcRs_of_zero]
/-- Bytes that are unlike others in at most four places side by side have another sum. -/
theorem crc_tells {s : Nat} (hs : s < 4294967296) (pre : List UInt8) (mid : List (UInt8 × UInt8)) (post : List UInt8) (hm : mid.length ≤ 4) :
    crcMore s (pre ++ mid.map (·.1) ++ post) = crcMore s (pre ++ mid.map (·.2) ++ post) ↔ mid.map (·.1) = mid.map (·.2) := by
  refine ⟨fun h => ?_, fun h => by rw [h]⟩
  have h1 : crcFold (crcInv s) (pre ++ mid.map (·.1) ++ post) = crcFold (crcInv s) (pre ++ mid.map (·.2) ++ post) := by
    have a := crcFold_lt (pre ++ mid.map (·.1) ++ post) (crcInv_lt s)
    have b := crcFold_lt (pre ++ mid.map (·.2) ++ post) (crcInv_lt s)
    unfold crcMore at h
    have := congrArg crcInv h
    rwa [crcInv_inv a, crcInv_inv b] at this
  rw [crcFold_append, crcFold_append, crcFold_append, crcFold_append] at h1
  generalize crcFold (crcInv s) pre = t at h1
  have h2 := xor_eq_zero.2 h1
  have hpost : post = (post.map fun x => (x, x)).map (·.1) := by simp [Function.comp_def]
  have hpost2 : post = (post.map fun x => (x, x)).map (·.2) := by simp [Function.comp_def]
  have hlt : ∀ (l : List (UInt8 × UInt8)) {d : Nat}, d < 4294967296 → crcDiff d l < 4294967296 := by
    intro l
    induction l with
    | nil => intro d h; exact h
    | cons p l ih =>
      intro d h
      exact ih (crcStep_lt h (Nat.xor_lt_two_pow (n := 8) p.1.toNat_lt p.2.toNat_lt))
  have h3 : crcDiff (crcFold t (mid.map (·.1)) ^^^ crcFold t (mid.map (·.2))) (post.map fun x => (x, x)) = 0 := by
    rw [← crcFold_diff]
    rw [← hpost, ← hpost2]
    exact h2
  rw [crcFold_diff, Nat.xor_self] at h3
  have h4 := (crcDiff_same _ (by intro p hp; simp only [List.mem_map] at hp; obtain ⟨x, _, rfl⟩ := hp; rfl) (hlt mid (by omega))).1 h3
  have hx : ∀ p : UInt8 × UInt8, p.1.toNat ^^^ p.2.toNat < 256 := fun p => Nat.xor_lt_two_pow (n := 8) p.1.toNat_lt p.2.toNat_lt
  have hz : ∀ p : UInt8 × UInt8, p.1.toNat ^^^ p.2.toNat = 0 → p.1 = p.2 := fun p h => UInt8.toNat_inj.1 (xor_eq_zero.1 h)
  have fill : ∀ d, d < 4294967296 → (d = 0 ↔ crcStep d 0 = 0) := fun d hd => ⟨by rintro rfl; exact crcRs_of_zero 8, crcStep_zero hd⟩
  have s1 : ∀ {d : Nat} (p : UInt8 × UInt8), d < 4294967296 → crcStep d (p.1.toNat ^^^ p.2.toNat) < 4294967296 := fun p h => crcStep_lt h (hx p)
  match mid, hm, h4 with
  | [], _, _ => rfl
  | [a], _, h =>
    have h : crcStep 0 (a.1.toNat ^^^ a.2.toNat) = 0 := h
    have l1 := s1 a (d := 0) (by omega)
    rw [fill _ l1, fill _ (crcStep_lt l1 (by omega)), fill _ (crcStep_lt (crcStep_lt l1 (by omega)) (by omega))] at h
    have := (crc_burst _ 0 0 0 (hx a) (by omega) (by omega) (by omega)).1 h
    simp [hz a this.1]
  | [a, b], _, h =>
    have h : crcStep (crcStep 0 (a.1.toNat ^^^ a.2.toNat)) (b.1.toNat ^^^ b.2.toNat) = 0 := h
    have l2 := s1 b (s1 a (d := 0) (by omega))
    rw [fill _ l2, fill _ (crcStep_lt l2 (by omega))] at h
    have := (crc_burst _ _ 0 0 (hx a) (hx b) (by omega) (by omega)).1 h
    simp [hz a this.1, hz b this.2.1]
  | [a, b, c], _, h =>
    have h : crcStep (crcStep (crcStep 0 (a.1.toNat ^^^ a.2.toNat)) (b.1.toNat ^^^ b.2.toNat)) (c.1.toNat ^^^ c.2.toNat) = 0 := h
    have l3 := s1 c (s1 b (s1 a (d := 0) (by omega)))
    rw [fill _ l3] at h
    have := (crc_burst _ _ _ 0 (hx a) (hx b) (hx c) (by omega)).1 h
    simp [hz a this.1, hz b this.2.1, hz c this.2.2.1]
  | [a, b, c, d], _, h =>
    have := (crc_burst _ _ _ _ (hx a) (hx b) (hx c) (hx d)).1 h
    simp [hz a this.1, hz b this.2.1, hz c this.2.2.1, hz d this.2.2.2]
  | _ :: _ :: _ :: _ :: _ :: l, h, _ => simp at h
/-! ## Masks -/
def crcMask (s : Nat) : Nat := (s / 32768 + (s % 32768) * 131072 + 2726488792) % 4294967296
def crcUnmask (s : Nat) : Nat := ((s + 1568478504) % 4294967296 % 131072) * 32768 + (s + 1568478504) % 4294967296 / 131072
theorem crcMask_lt (s : Nat) : crcMask s < 4294967296 := Nat.mod_lt _ (by omega)
theorem crcUnmask_lt (s : Nat) : crcUnmask s < 4294967296 := by unfold crcUnmask; omega
theorem unplus {v : Nat} (h : v < 4294967296) : ((v + 2726488792) % 4294967296 + 1568478504) % 4294967296 = v := by omega
theorem plusun {v : Nat} (h : v < 4294967296) : ((v + 1568478504) % 4294967296 + 2726488792) % 4294967296 = v := by omega
theorem crcUnmask_mask {s : Nat} (h : s < 4294967296) : crcUnmask (crcMask s) = s := by
  unfold crcUnmask crcMask
  have hq : s / 32768 < 131072 := by omega
  rw [unplus (v := s / 32768 + s % 32768 * 131072) (by omega), Nat.add_mul_mod_self_right, Nat.add_mul_div_right _ _ (by omega), Nat.mod_eq_of_lt hq, Nat.div_eq_of_lt hq]
  omega
theorem crcMask_unmask {s : Nat} (h : s < 4294967296) : crcMask (crcUnmask s) = s := by
  unfold crcUnmask crcMask
  generalize hv : (s + 1568478504) % 4294967296 = v
  have hv' : v < 4294967296 := by omega
  have hr : v / 131072 < 32768 := by omega
  rw [Nat.add_comm (v % 131072 * 32768), Nat.add_mul_mod_self_right, Nat.add_mul_div_right _ _ (by omega), Nat.mod_eq_of_lt hr, Nat.div_eq_of_lt hr]
  rw [show 0 + v % 131072 + v / 131072 * 131072 = v from by omega, ← hv]
  exact plusun h
theorem or_low (a b k : Nat) (ha : a < 2 ^ k) : b * 2 ^ k ||| a = b * 2 ^ k + a := by
  rw [Nat.mul_comm]
  exact (Nat.two_pow_add_eq_or_of_lt ha b).symm
end Go.Proofs.YtkkclkknpjapcaaDoor
/-! ### CrcC -/
namespace Go.Proofs.YtkkclkknpjapcaaDoor
open Go.RowKit
set_option linter.unusedVariables false
set_option linter.unusedSimpArgs false

theorem crcR_odd {s : Nat} (h : s % 2 = 1) : crcR s = (s / 2) ^^^ 2197175160 := by unfold crcR; rw [if_pos h]
theorem crcR_even {s : Nat} (h : ¬ s % 2 = 1) : crcR s = s / 2 := by unfold crcR; rw [if_neg h]
theorem and1_odd {t : Nat} (ht : t < 4294967296) (h : t % 2 = 1) : bits .and .u32 (t : Int) 1 = 1 := by
  have e := u32_and_nat t 1 ht (by omega)
  rw [Nat.and_one_is_mod, h] at e
  exact e
theorem and1_even {t : Nat} (ht : t < 4294967296) (h : ¬ t % 2 = 1) : bits .and .u32 (t : Int) 1 = 0 := by
  have e := u32_and_nat t 1 ht (by omega)
  rw [Nat.and_one_is_mod, show t % 2 = 0 from by omega] at e
  exact e
theorem xor_poly {t : Nat} (ht : t < 4294967296) (h : t % 2 = 1) : bits .xor .u32 ((t : Int) / 2) 2197175160 = (crcR t : Int) := by
  rw [crcR_odd h]
  exact u32_xor_nat (t / 2) 2197175160 (by omega) (by omega)
theorem shr_one {t : Nat} (h : ¬ t % 2 = 1) : (t : Int) / 2 = (crcR t : Int) := by rw [crcR_even h]; omega
theorem ret_u32 {a b : Int} (h : a = b) : Ending.returned (.int .u32 a) = .returned (.int .u32 b) := by rw [h]

set_option maxRecDepth 100000 in
theorem step_any (s x : Nat) (hs : s < 4294967296) (hx : x < 256) (w : World) :
    Calls Tryd.prog 66 #[.int .u32 (s : Int), .int .u8 (x : Int)] w fun e w' => e = .returned (.int .u32 (crcStep s x : Nat)) ∧ w = w' := by
  have hx1 : s ^^^ x < 4294967296 := Nat.xor_lt_two_pow (n := 32) (by omega) (by omega)
  have e1 := u32_xor_nat s x hs (by omega)
  go_enter Tryd.func66, Tryd.ntmps66
  go_wp2
  refine wp_scope_ghost 0 (fun m a' w' => w' = w ∧ ∃ (n t : Nat) (u6 u7 u8 u9 u10 u11 u12 u13 u14 u15 u16 u17 u18 u19 u20 u21 u22 u23 : Value), a' = { tmps := #[.int .u32 t, .int .u8 x, undef, undef, .int .u32 0, .int .i64 n, u6, u7, u8, u9, u10, u11, u12, u13, u14, u15, u16, u17, u18, u19, u20, u21, u22, u23], defers := [] } ∧ crcRs n t = crcStep s x ∧ t < 4294967296 ∧ 1 ≤ n ∧ n ≤ 8 ∧ m = n) rfl ?_ ?_
  · rintro m a' w' ⟨rfl, n, t, u6, u7, u8, u9, u10, u11, u12, u13, u14, u15, u16, u17, u18, u19, u20, u21, u22, u23, rfl, hr, ht, hn, hn8, rfl⟩
    have hlt := crcR_lt ht
    obtain ⟨k, rfl⟩ : ∃ k, m = k + 1 := ⟨m - 1, by omega⟩
    have HR := hid hr
    clear hr
    by_cases ho : t % 2 = 1
    · have e2 := and1_odd ht ho
      have e3 := xor_poly ht ho
      by_cases h1 : k = 0
      · subst h1
        go_wp2
        simp only [Exit.jump]
        go_ret
        exact ⟨ret_u32 (by rw [← HR.out]; rfl), rfl⟩
      · go_wp2
        refine wp_goto_k (Jumped.mk k (by omega) ⟨rfl, k, crcR t, _, _, _, _, _, _, _, _, _, _, _, _, _, _, _, _, _, _, rfl, HR.out, hlt, by omega, by omega, rfl⟩)
    · have e2 := and1_even ht ho
      have e3 := shr_one ho
      by_cases h1 : k = 0
      · subst h1
        go_wp2
        simp only [Exit.jump]
        go_ret
        exact ⟨ret_u32 (by rw [← HR.out]; rfl), rfl⟩
      · go_wp2
        refine wp_goto_k (Jumped.mk k (by omega) ⟨rfl, k, crcR t, _, _, _, _, _, _, _, _, _, _, _, _, _, _, _, _, _, _, rfl, HR.out, hlt, by omega, by omega, rfl⟩)
  · intro hpass
    go_wp2
    refine wp_label_k (by assumption) (hpass 8 _ _ ?_)
    exact ⟨rfl, 8, s ^^^ x, _, _, _, _, _, _, _, _, _, _, _, _, _, _, _, _, _, _, rfl, rfl, hx1, by omega, by omega, rfl⟩

theorem inv_u32 (s : Nat) (h : s < 4294967296) : bits .xor .u32 4294967295 (s : Int) = (crcInv s : Int) := by
  have e := u32_xor_nat 4294967295 s (by omega) h
  have : 4294967295 ^^^ s = crcInv s := by
    rw [show crcInv s = 2 ^ 32 - (s + 1) from by unfold crcInv; omega, show (4294967295 : Nat) = 2 ^ 32 - 1 from rfl]
    apply Nat.eq_of_testBit_eq
    intro i
    rw [Nat.testBit_xor, Nat.testBit_two_pow_sub_one, Nat.testBit_two_pow_sub_succ h]
    by_cases hi : i < 32
    · simp [hi]
    · simp only [hi, decide_false, Bool.false_and, Bool.false_xor]
      have h2 : 2 ^ 32 ≤ 2 ^ i := Nat.pow_le_pow_right (by decide) (Nat.le_of_not_lt hi)
      exact Nat.testBit_lt_two_pow (Nat.lt_of_lt_of_le h h2)
  rw [this] at e
  exact e
theorem u32_signed : IntKind.u32.signed = false := rfl
theorem u32_max : IntKind.u32.max = 4294967295 := rfl
theorem more_any (s : Nat) (hs : s < 4294967296) (A : Option Addr) (n c : Nat) (xs : List UInt8) (w : World) (h : RB w A n xs) :
    Calls Tryd.prog 63 #[.int .u32 (s : Int), .slice A n c] w fun e w' => e = .returned (.int .u32 (crcMore s xs : Nat)) ∧ w = w' := by
  have hl := h.len
  have hm := h.max
  have i0 := inv_u32 s hs
  have hi := crcInv_lt s
  have q1 := u32_signed
  have q2 := u32_max
  go_enter Tryd.func63, Tryd.ntmps63
  go_wp2
  go_loop [0, 11] (fun t i => ∃ k : Nat, k ≤ n ∧ i = .int .i64 k ∧ t = .int .u32 (crcFold (crcInv s) (xs.take k) : Nat)) (fun _ i => n - (intOf i).toNat)
  case atStart => exact ⟨0, Nat.zero_le _, rfl, rfl⟩
  case round =>
    obtain ⟨k, hk, rfl, rfl⟩ := hrel
    have hf := crcFold_lt (xs.take k) hi
    by_cases hlt : k < n
    · obtain ⟨ad, rfl, hc⟩ := h.at_ hlt
      have hb := bAt_lt xs k
      go_wp2_with (go_at_call 66; refine (step_any _ _ hf hb _).mono ?_; rintro e w' ⟨rfl, rfl⟩)
      go_round
      case rel =>
        refine ⟨k + 1, by omega, by go_num, ?_⟩
        rw [List.take_succ_eq_append_getElem (by omega), crcFold_snoc, bAt_get (by omega)]
      case measure => simp [intOf]; omega
    · have i1 := inv_u32 _ hf
      go_wp2
      go_ret
      refine ⟨ret_u32 ?_, rfl⟩
      unfold crcMore
      rw [List.take_of_length_le (by omega)]

theorem sum_any (A : Option Addr) (n c : Nat) (xs : List UInt8) (w : World) (h : RB w A n xs) :
    Calls Tryd.prog 52 #[.slice A n c] w fun e w' => e = .returned (.int .u32 (crcMore 0 xs : Nat)) ∧ w = w' := by
  go_enter Tryd.func52, Tryd.ntmps52
  go_wp2_with (go_at_call 63; refine (more_any 0 (by omega) _ _ _ xs _ h).mono ?_; rintro e w' ⟨rfl, rfl⟩)
  go_ret
  exact ⟨rfl, rfl⟩
end Go.Proofs.YtkkclkknpjapcaaDoor
/-! ### CrcM -/
namespace Go.Proofs.YtkkclkknpjapcaaDoor
open Go.RowKit
set_option linter.unusedVariables false
set_option linter.unusedSimpArgs false

theorem mask_or {s : Nat} (h : s < 4294967296) : bits .or .u32 ((s : Int) / 32768) ((s : Int) * 131072 % 4294967296) = ((s / 32768 + (s % 32768) * 131072 : Nat) : Int) := by
  have e := u32_or_nat (s / 32768) (s * 131072 % 4294967296) (by omega) (by omega)
  rw [show s * 131072 % 4294967296 = (s % 32768) * 2 ^ 17 from by omega, Nat.or_comm, or_low _ _ _ (by omega)] at e
  rw [show (s : Int) * 131072 % 4294967296 = (((s % 32768) * 2 ^ 17 : Nat) : Int) from by omega]
  rw [show ((s : Int) / 32768) = ((s / 32768 : Nat) : Int) from by omega, e]
  omega
theorem unmask_or {y : Nat} (h : y < 4294967296) : bits .or .u32 ((y : Int) * 32768 % 4294967296) ((y : Int) / 131072) = (((y % 131072) * 32768 + y / 131072 : Nat) : Int) := by
  have e := u32_or_nat (y * 32768 % 4294967296) (y / 131072) (by omega) (by omega)
  rw [show y * 32768 % 4294967296 = (y % 131072) * 2 ^ 15 from by omega, or_low _ _ _ (by omega)] at e
  rw [show (y : Int) * 32768 % 4294967296 = (((y % 131072) * 2 ^ 15 : Nat) : Int) from by omega]
  rw [show ((y : Int) / 131072) = ((y / 131072 : Nat) : Int) from by omega, e]
theorem rot_count_m15 : bits .and .u64 (IntKind.u64.wrap (-15)) 31 = 17 := by decide +kernel
theorem rot_count_15 : bits .and .u64 15 31 = 15 := by decide +kernel
theorem bits_or_comm (k : IntKind) (a b : Int) : bits .or k a b = bits .or k b a := by
  show k.wrap ((BitVec.ofInt k.bits a ||| BitVec.ofInt k.bits b).toNat : Int) = k.wrap ((BitVec.ofInt k.bits b ||| BitVec.ofInt k.bits a).toNat : Int)
  rw [BitVec.or_comm]
theorem rot_m15 (s : Nat) (hs : s < 4294967296) (w : World) :
    Calls Tryd.prog 62 #[.int .u32 (s : Int), .int .i64 (-15)] w fun e w' => e = .returned (.int .u32 ((s / 32768 + (s % 32768) * 131072 : Nat) : Int)) ∧ w = w' := by
  have e := mask_or hs
  have e1 : bits .or .u32 ((s : Int) * 131072 % 4294967296) ((s : Int) / 32768) = ((s / 32768 + (s % 32768) * 131072 : Nat) : Int) := by
    rw [← e, bits_or_comm]
  have k := rot_count_m15
  go_enter Tryd.func62, Tryd.ntmps62
  go_wp2
  go_ret
  exact ⟨ret_u32 rfl, rfl⟩
theorem rot_15 (s : Nat) (hs : s < 4294967296) (w : World) :
    Calls Tryd.prog 62 #[.int .u32 (s : Int), .int .i64 15] w fun e w' => e = .returned (.int .u32 (((s % 131072) * 32768 + s / 131072 : Nat) : Int)) ∧ w = w' := by
  have e := unmask_or hs
  have k := rot_count_15
  go_enter Tryd.func62, Tryd.ntmps62
  go_wp2
  go_ret
  exact ⟨ret_u32 rfl, rfl⟩
theorem mask_any (s : Nat) (hs : s < 4294967296) (w : World) :
    Calls Tryd.prog 51 #[.int .u32 (s : Int)] w fun e w' => e = .returned (.int .u32 (crcMask s : Nat)) ∧ w = w' := by
  go_enter Tryd.func51, Tryd.ntmps51
  go_wp2_with (go_at_call 62; refine (rot_m15 s hs _).mono ?_; rintro e w' ⟨rfl, rfl⟩)
  go_ret
  refine ⟨ret_u32 ?_, rfl⟩
  unfold crcMask
  omega
end Go.Proofs.YtkkclkknpjapcaaDoor
