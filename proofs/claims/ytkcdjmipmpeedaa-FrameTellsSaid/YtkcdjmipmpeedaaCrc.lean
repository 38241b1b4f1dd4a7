/- The sums of layer 3 as plain functions on numbers and lists, and what a change of bytes does to them. No program in sight. -/
namespace Go.Proofs.Ytkcdjmipmpeedaa
set_option linter.unusedVariables false
set_option linter.unusedSimpArgs false

/-- One bit of the sum. -/
def crcR (s : Nat) : Nat := if s % 2 = 1 then (s / 2) ^^^ 2197175160 else s / 2
def crcRs : Nat → Nat → Nat
  | 0, s => s
  | n + 1, s => crcRs n (crcR s)
/-- One byte. -/
def crcStep (s x : Nat) : Nat := crcRs 8 (s ^^^ x)
def crcFold (s : Nat) (l : List UInt8) : Nat := l.foldl (fun s x => crcStep s x.toNat) s
def crcInv (s : Nat) : Nat := 4294967295 - s
def crcMore (s : Nat) (l : List UInt8) : Nat := crcInv (crcFold (crcInv s) l)

theorem crcR_lt {s : Nat} (h : s < 4294967296) : crcR s < 4294967296 := by
  unfold crcR
  split
  · exact Nat.xor_lt_two_pow (n := 32) (by omega) (by omega)
  · omega
theorem crcRs_lt (n : Nat) : ∀ {s : Nat}, s < 4294967296 → crcRs n s < 4294967296 := by
  induction n with
  | zero => intro s h; exact h
  | succ n ih => intro s h; exact ih (crcR_lt h)
theorem crcStep_lt {s x : Nat} (hs : s < 4294967296) (hx : x < 256) : crcStep s x < 4294967296 := crcRs_lt 8 (Nat.xor_lt_two_pow (n := 32) (by omega) (by omega))
theorem crcFold_lt (l : List UInt8) : ∀ {s : Nat}, s < 4294967296 → crcFold s l < 4294967296 := by
  induction l with
  | nil => intro s h; exact h
  | cons x l ih => intro s h; exact ih (crcStep_lt h x.toNat_lt)
theorem crcInv_lt (s : Nat) : crcInv s < 4294967296 := by unfold crcInv; omega
theorem crcInv_inv {s : Nat} (h : s < 4294967296) : crcInv (crcInv s) = s := by unfold crcInv; omega
theorem crcMore_lt (s : Nat) (l : List UInt8) : crcMore s l < 4294967296 := crcInv_lt _
theorem crcFold_append (s : Nat) (a b : List UInt8) : crcFold s (a ++ b) = crcFold (crcFold s a) b := by simp [crcFold, List.foldl_append]
theorem crcFold_snoc (s : Nat) (a : List UInt8) (x : UInt8) : crcFold s (a ++ [x]) = crcStep (crcFold s a) x.toNat := by simp [crcFold, List.foldl_append]
theorem crcMore_append (s : Nat) (a b : List UInt8) : crcMore s (a ++ b) = crcMore (crcMore s a) b := by
  unfold crcMore
  rw [crcFold_append, crcInv_inv (crcFold_lt a (crcInv_lt s))]
theorem crcMore_nil {s : Nat} (h : s < 4294967296) : crcMore s [] = s := crcInv_inv h

/-! ## Linear: over exclusive or -/
theorem xor_self4 (a b c d : Nat) : (a ^^^ b) ^^^ (c ^^^ d) = (a ^^^ c) ^^^ (b ^^^ d) := by
  rw [Nat.xor_assoc, Nat.xor_assoc, ← Nat.xor_assoc b c d, ← Nat.xor_assoc c b d, Nat.xor_comm b c]
theorem xor_half (a b : Nat) : (a ^^^ b) / 2 = a / 2 ^^^ b / 2 := by
  apply Nat.eq_of_testBit_eq
  intro i
  simp [Nat.testBit_div_two, Nat.testBit_xor]
theorem xor_mod2 (a b : Nat) : (a ^^^ b) % 2 = (a % 2 + b % 2) % 2 := by
  have h := @Nat.xor_mod_two_eq_one a b
  have h2 := Nat.mod_two_eq_zero_or_one (a ^^^ b)
  omega
theorem crcR_xor (a b : Nat) : crcR (a ^^^ b) = crcR a ^^^ crcR b := by
  unfold crcR
  rw [xor_half, xor_mod2]
  rcases Nat.mod_two_eq_zero_or_one a with ha | ha <;> rcases Nat.mod_two_eq_zero_or_one b with hb | hb <;> simp only [ha, hb]
  · simp
  · simp [Nat.xor_assoc]
  · simp only [Nat.reduceAdd, Nat.reduceMod, ↓reduceIte, Nat.zero_ne_one]
    rw [Nat.xor_assoc, Nat.xor_assoc, Nat.xor_comm (b / 2)]
  · simp only [Nat.reduceAdd, Nat.reduceMod, ↓reduceIte, Nat.zero_ne_one]
    rw [xor_self4, Nat.xor_self, Nat.xor_zero]
theorem crcRs_xor (n : Nat) : ∀ a b : Nat, crcRs n (a ^^^ b) = crcRs n a ^^^ crcRs n b := by
  induction n with
  | zero => intro a b; rfl
  | succ n ih => intro a b; show crcRs n _ = crcRs n _ ^^^ crcRs n _; rw [crcR_xor, ih]
theorem crcR_zero {s : Nat} (h : s < 4294967296) (h0 : crcR s = 0) : s = 0 := by
  unfold crcR at h0
  split at h0
  · exfalso
    have h1 : s / 2 = 2197175160 := by
      have := congrArg (· ^^^ 2197175160) h0
      simpa [Nat.xor_assoc] using this
    omega
  · omega
theorem crcRs_zero (n : Nat) : ∀ {s : Nat}, s < 4294967296 → crcRs n s = 0 → s = 0 := by
  induction n with
  | zero => intro s _ h; exact h
  | succ n ih => intro s hs h; exact crcR_zero hs (ih (crcR_lt hs) h)
theorem crcRs_of_zero (n : Nat) : crcRs n 0 = 0 := by
  induction n with
  | zero => rfl
  | succ n ih => exact ih
/-- Low bits that are 0 are shifted out. -/
theorem crcRs_shift (n : Nat) : ∀ y : Nat, crcRs n (y * 2 ^ n) = y := by
  induction n with
  | zero => intro y; show y * 1 = y; omega
  | succ n ih =>
    intro y
    show crcRs n (crcR (y * 2 ^ (n + 1))) = y
    have e : y * 2 ^ (n + 1) = (y * 2 ^ n) * 2 := by rw [Nat.pow_succ, Nat.mul_assoc]
    have : crcR (y * 2 ^ (n + 1)) = y * 2 ^ n := by
      unfold crcR
      rw [e, if_neg (by omega)]
      omega
    rw [this, ih]
theorem crcStep_xor (a b x y : Nat) : crcStep (a ^^^ b) (x ^^^ y) = crcStep a x ^^^ crcStep b y := by
  unfold crcStep
  rw [xor_self4, crcRs_xor]
theorem crcStep_zero {s : Nat} (h : s < 4294967296) (h0 : crcStep s 0 = 0) : s = 0 := by
  unfold crcStep at h0
  rw [Nat.xor_zero] at h0
  exact crcRs_zero 8 h h0
/-- The difference of two sums of bytes of one length. -/
def crcDiff (d : Nat) : List (UInt8 × UInt8) → Nat
  | [] => d
  | p :: l => crcDiff (crcStep d (p.1.toNat ^^^ p.2.toNat)) l
theorem crcFold_diff : ∀ (l : List (UInt8 × UInt8)) (s t : Nat), crcFold s (l.map (·.1)) ^^^ crcFold t (l.map (·.2)) = crcDiff (s ^^^ t) l := by
  intro l
  induction l with
  | nil => intro s t; rfl
  | cons p l ih =>
    intro s t
    show crcFold (crcStep s p.1.toNat) _ ^^^ crcFold (crcStep t p.2.toNat) _ = crcDiff (crcStep (s ^^^ t) (p.1.toNat ^^^ p.2.toNat)) l
    rw [ih, crcStep_xor]
theorem xor_eq_zero {a b : Nat} : a ^^^ b = 0 ↔ a = b := by
  constructor
  · intro h
    have := congrArg (· ^^^ b) h
    simpa [Nat.xor_assoc] using this
  · rintro rfl
    simp
theorem crcDiff_same : ∀ (l : List (UInt8 × UInt8)) {d : Nat}, (∀ p ∈ l, p.1 = p.2) → d < 4294967296 → (crcDiff d l = 0 ↔ d = 0) := by
  intro l
  induction l with
  | nil => intro d _ _; exact Iff.rfl
  | cons p l ih =>
    intro d h hd
    have hp : p.1.toNat ^^^ p.2.toNat = 0 := by rw [h p (by simp)]; simp
    show crcDiff (crcStep d (p.1.toNat ^^^ p.2.toNat)) l = 0 ↔ d = 0
    rw [hp, ih (fun q hq => h q (by simp [hq])) (crcStep_lt hd (by omega))]
    constructor
    · exact crcStep_zero hd
    · rintro rfl
      exact crcRs_of_zero 8
/-- Up to four bytes that follow one another, out of no difference: one number that has been shifted. -/
theorem crc_burst (x0 x1 x2 x3 : Nat) (h0 : x0 < 256) (h1 : x1 < 256) (h2 : x2 < 256) (h3 : x3 < 256) :
    crcStep (crcStep (crcStep (crcStep 0 x0) x1) x2) x3 = 0 ↔ x0 = 0 ∧ x1 = 0 ∧ x2 = 0 ∧ x3 = 0 := by
  have key : ∀ (d x : Nat), crcStep d x = crcRs 8 (d ^^^ x) := fun _ _ => rfl
  have push : ∀ x, x = crcRs 8 (x * 256) := fun x => (crcRs_shift 8 x).symm
  have e2 : crcStep (crcStep 0 x0) x1 = crcRs 8 (crcRs 8 (x0 ^^^ x1 * 256)) := by
    rw [key, key, Nat.zero_xor]
    conv => lhs; rw [push x1]
    rw [← crcRs_xor]
  have e3 : crcStep (crcRs 8 (crcRs 8 (x0 ^^^ x1 * 256))) x2 = crcRs 8 (crcRs 8 (crcRs 8 (x0 ^^^ x1 * 256 ^^^ x2 * 65536))) := by
    rw [key]
    conv => lhs; rw [push x2, push (x2 * 256)]
    rw [← crcRs_xor, ← crcRs_xor, Nat.mul_assoc]
  have e4 : crcStep (crcRs 8 (crcRs 8 (crcRs 8 (x0 ^^^ x1 * 256 ^^^ x2 * 65536)))) x3 = crcRs 8 (crcRs 8 (crcRs 8 (crcRs 8 (x0 ^^^ x1 * 256 ^^^ x2 * 65536 ^^^ x3 * 16777216)))) := by
    rw [key]
    conv => lhs; rw [push x3, push (x3 * 256), push (x3 * 256 * 256)]
    rw [← crcRs_xor, ← crcRs_xor, ← crcRs_xor, Nat.mul_assoc, Nat.mul_assoc]
  rw [e2, e3, e4]
  have join : x0 ^^^ x1 * 256 ^^^ x2 * 65536 ^^^ x3 * 16777216 = x0 + x1 * 256 + x2 * 65536 + x3 * 16777216 := by
    have j : ∀ (a b k : Nat), a < 2 ^ k → a ^^^ b * 2 ^ k = a + b * 2 ^ k := by
      intro a b k ha
      have hor : a ||| b * 2 ^ k = a + b * 2 ^ k := by
        rw [Nat.or_comm, Nat.mul_comm, Nat.add_comm]
        exact (Nat.two_pow_add_eq_or_of_lt ha b).symm
      rw [← hor]
      apply Nat.eq_of_testBit_eq
      intro i
      rw [Nat.testBit_xor, Nat.testBit_or]
      by_cases hi : i < k
      · rw [Nat.testBit_mul_two_pow, decide_eq_false (by omega)]
        simp
      · rw [Nat.testBit_lt_two_pow (x := a) (i := i) (Nat.lt_of_lt_of_le ha (Nat.pow_le_pow_right (by omega) (by omega)))]
        simp
    rw [j x0 x1 8 (by omega)]
    rw [j (x0 + x1 * 2 ^ 8) x2 16 (by omega)]
    rw [j (x0 + x1 * 2 ^ 8 + x2 * 2 ^ 16) x3 24 (by omega)]
  rw [join]
  constructor
  · intro h
    have hlt : x0 + x1 * 256 + x2 * 65536 + x3 * 16777216 < 4294967296 := by omega
    have := crcRs_zero 8 hlt (crcRs_zero 8 (crcRs_lt 8 hlt) (crcRs_zero 8 (crcRs_lt 8 (crcRs_lt 8 hlt)) (crcRs_zero 8 (crcRs_lt 8 (crcRs_lt 8 (crcRs_lt 8 hlt))) h)))
    omega
  · rintro ⟨rfl, rfl, rfl, rfl⟩
    simp [crcRs_of_zero]
/-- Bytes that are unlike others in at most four places side by side have another sum. -/
theorem crc_tells {s : Nat} (hs : s < 4294967296) (pre : List UInt8) (mid : List (UInt8 × UInt8)) (post : List UInt8) (hm : mid.length ≤ 4) :
    crcMore s (pre ++ mid.map (·.1) ++ post) = crcMore s (pre ++ mid.map (·.2) ++ post) ↔ mid.map (·.1) = mid.map (·.2) := by
  refine ⟨fun h => ?_, fun h => by rw [h]⟩
  have h1 : crcFold (crcInv s) (pre ++ mid.map (·.1) ++ post) = crcFold (crcInv s) (pre ++ mid.map (·.2) ++ post) := by
    have a := crcFold_lt (pre ++ mid.map (·.1) ++ post) (crcInv_lt s)
    have b := crcFold_lt (pre ++ mid.map (·.2) ++ post) (crcInv_lt s)
    unfold crcMore at h
    have := congrArg crcInv h
    rwa [crcInv_inv a, crcInv_inv b] at this
  rw [crcFold_append, crcFold_append, crcFold_append, crcFold_append] at h1
  generalize crcFold (crcInv s) pre = t at h1
  have h2 := xor_eq_zero.2 h1
  have hpost : post = (post.map fun x => (x, x)).map (·.1) := by simp [Function.comp_def]
  have hpost2 : post = (post.map fun x => (x, x)).map (·.2) := by simp [Function.comp_def]
  have hlt : ∀ (l : List (UInt8 × UInt8)) {d : Nat}, d < 4294967296 → crcDiff d l < 4294967296 := by
    intro l
    induction l with
    | nil => intro d h; exact h
    | cons p l ih =>
      intro d h
      exact ih (crcStep_lt h (Nat.xor_lt_two_pow (n := 8) p.1.toNat_lt p.2.toNat_lt))
  have h3 : crcDiff (crcFold t (mid.map (·.1)) ^^^ crcFold t (mid.map (·.2))) (post.map fun x => (x, x)) = 0 := by
    rw [← crcFold_diff]
    rw [← hpost, ← hpost2]
    exact h2
  rw [crcFold_diff, Nat.xor_self] at h3
  have h4 := (crcDiff_same _ (by intro p hp; simp only [List.mem_map] at hp; obtain ⟨x, _, rfl⟩ := hp; rfl) (hlt mid (by omega))).1 h3
  have hx : ∀ p : UInt8 × UInt8, p.1.toNat ^^^ p.2.toNat < 256 := fun p => Nat.xor_lt_two_pow (n := 8) p.1.toNat_lt p.2.toNat_lt
  have hz : ∀ p : UInt8 × UInt8, p.1.toNat ^^^ p.2.toNat = 0 → p.1 = p.2 := fun p h => UInt8.toNat_inj.1 (xor_eq_zero.1 h)
  have fill : ∀ d, d < 4294967296 → (d = 0 ↔ crcStep d 0 = 0) := fun d hd => ⟨by rintro rfl; exact crcRs_of_zero 8, crcStep_zero hd⟩
  have s1 : ∀ {d : Nat} (p : UInt8 × UInt8), d < 4294967296 → crcStep d (p.1.toNat ^^^ p.2.toNat) < 4294967296 := fun p h => crcStep_lt h (hx p)
  match mid, hm, h4 with
  | [], _, _ => rfl
  | [a], _, h =>
    have h : crcStep 0 (a.1.toNat ^^^ a.2.toNat) = 0 := h
    have l1 := s1 a (d := 0) (by omega)
    rw [fill _ l1, fill _ (crcStep_lt l1 (by omega)), fill _ (crcStep_lt (crcStep_lt l1 (by omega)) (by omega))] at h
    have := (crc_burst _ 0 0 0 (hx a) (by omega) (by omega) (by omega)).1 h
    simp [hz a this.1]
  | [a, b], _, h =>
    have h : crcStep (crcStep 0 (a.1.toNat ^^^ a.2.toNat)) (b.1.toNat ^^^ b.2.toNat) = 0 := h
    have l2 := s1 b (s1 a (d := 0) (by omega))
    rw [fill _ l2, fill _ (crcStep_lt l2 (by omega))] at h
    have := (crc_burst _ _ 0 0 (hx a) (hx b) (by omega) (by omega)).1 h
    simp [hz a this.1, hz b this.2.1]
  | [a, b, c], _, h =>
    have h : crcStep (crcStep (crcStep 0 (a.1.toNat ^^^ a.2.toNat)) (b.1.toNat ^^^ b.2.toNat)) (c.1.toNat ^^^ c.2.toNat) = 0 := h
    have l3 := s1 c (s1 b (s1 a (d := 0) (by omega)))
    rw [fill _ l3] at h
    have := (crc_burst _ _ _ 0 (hx a) (hx b) (hx c) (by omega)).1 h
    simp [hz a this.1, hz b this.2.1, hz c this.2.2.1]
  | [a, b, c, d], _, h =>
    have := (crc_burst _ _ _ _ (hx a) (hx b) (hx c) (hx d)).1 h
    simp [hz a this.1, hz b this.2.1, hz c this.2.2.1, hz d this.2.2.2]
  | _ :: _ :: _ :: _ :: _ :: l, h, _ => simp at h
/-! ## Masks -/
def crcMask (s : Nat) : Nat := (s / 32768 + (s % 32768) * 131072 + 2726488792) % 4294967296
def crcUnmask (s : Nat) : Nat := ((s + 1568478504) % 4294967296 % 131072) * 32768 + (s + 1568478504) % 4294967296 / 131072
theorem crcMask_lt (s : Nat) : crcMask s < 4294967296 := Nat.mod_lt _ (by omega)
theorem crcUnmask_lt (s : Nat) : crcUnmask s < 4294967296 := by unfold crcUnmask; omega
theorem unplus {v : Nat} (h : v < 4294967296) : ((v + 2726488792) % 4294967296 + 1568478504) % 4294967296 = v := by omega
theorem plusun {v : Nat} (h : v < 4294967296) : ((v + 1568478504) % 4294967296 + 2726488792) % 4294967296 = v := by omega
theorem crcUnmask_mask {s : Nat} (h : s < 4294967296) : crcUnmask (crcMask s) = s := by
  unfold crcUnmask crcMask
  have hq : s / 32768 < 131072 := by omega
  rw [unplus (v := s / 32768 + s % 32768 * 131072) (by omega), Nat.add_mul_mod_self_right, Nat.add_mul_div_right _ _ (by omega), Nat.mod_eq_of_lt hq, Nat.div_eq_of_lt hq]
  omega
theorem crcMask_unmask {s : Nat} (h : s < 4294967296) : crcMask (crcUnmask s) = s := by
  unfold crcUnmask crcMask
  generalize hv : (s + 1568478504) % 4294967296 = v
  have hv' : v < 4294967296 := by omega
  have hr : v / 131072 < 32768 := by omega
  rw [Nat.add_comm (v % 131072 * 32768), Nat.add_mul_mod_self_right, Nat.add_mul_div_right _ _ (by omega), Nat.mod_eq_of_lt hr, Nat.div_eq_of_lt hr]
  rw [show 0 + v % 131072 + v / 131072 * 131072 = v from by omega, ← hv]
  exact plusun h
theorem or_low (a b k : Nat) (ha : a < 2 ^ k) : b * 2 ^ k ||| a = b * 2 ^ k + a := by
  rw [Nat.mul_comm]
  exact (Nat.two_pow_add_eq_or_of_lt ha b).symm
end Go.Proofs.Ytkcdjmipmpeedaa
