/- Shared texts, part S07: BkF, Bl, BlP, BlQ, BlR, BlS, BlT, Crc. -/
import Derived.Laws.Rows
import Derived.Laws.Tables
import Derived.Laws.MakeOwn
import Derived.Test.YtkkclkknpjapcaaS06
import Derived.Test.YtkkclkknpjapcaaS01
import Derived.Test.YtkkclkknpjapcaaS04
import Derived.Test.YtkkclkknpjapcaaS02
import Derived.Test.YtkkclkknpjapcaaS03
/-! ### BkF -/
namespace Go.Proofs.Ytkkclkknpjapcaa
open Go.RowKit
set_option linter.unusedVariables false
set_option linter.unusedSimpArgs false

/-- What Encode answers. -/
def BkC (es : List EntR) (E : Nat) : Prop :=
  ((es.length = 0 ∨ 400 < es.length) ∧ E = 13) ∨ ((1 ≤ es.length ∧ es.length ≤ 400) ∧ ¬ AllM es ∧ E = 1) ∨ ((1 ≤ es.length ∧ es.length ≤ 400) ∧ AllM es ∧ ¬ Srt es ∧ E = 11) ∨ (FitK es ∧ E = 0)
theorem BkC.unique {es : List EntR} {a b : Nat} (h : BkC es a) (k : BkC es b) : a = b := by
  rcases h with ⟨h1, rfl⟩ | ⟨h1, h2, rfl⟩ | ⟨h1, h2, h3, rfl⟩ | ⟨⟨h0, h1, h2, h3⟩, rfl⟩ <;> rcases k with ⟨k1, rfl⟩ | ⟨k1, k2, rfl⟩ | ⟨k1, k2, k3, rfl⟩ | ⟨⟨k0, k1, k2, k3⟩, rfl⟩ <;> first | rfl | omega | (exact absurd h2 k2) | (exact absurd k2 h2) | (exact absurd k3 h3) | (exact absurd h3 k3)
theorem BkC.bad {es : List EntR} (h : ¬ FitK es) {E : Nat} (hE : BkC es E) : E ≠ 0 := by
  rcases hE with ⟨h1, rfl⟩ | ⟨h1, h2, rfl⟩ | ⟨h1, h2, h3, rfl⟩ | ⟨h1, rfl⟩
  · omega
  · omega
  · omega
  · exact absurd h1 h
theorem bk_cases (es : List EntR) : (es.length = 0 ∨ 400 < es.length) ∨ ((1 ≤ es.length ∧ es.length ≤ 400) ∧ ¬ AllM es) ∨ ((1 ≤ es.length ∧ es.length ≤ 400) ∧ AllM es ∧ ¬ Srt es) ∨ FitK es := by
  by_cases h1 : es.length = 0 ∨ 400 < es.length
  · exact .inl h1
  · by_cases h2 : AllM es
    · by_cases h3 : Srt es
      · exact .inr (.inr (.inr ⟨by omega, by omega, h2, h3⟩))
      · exact .inr (.inr (.inl ⟨by omega, h2, h3⟩))
    · exact .inr (.inl ⟨by omega, h2⟩)
def EncBad (w w' : World) (E : Int) (r : Ending) : Prop := r = .returned (.tuple #[.slice none 0 0, .int .i64 E]) ∧ Below w.heap.size w w'
set_option maxHeartbeats 8000000 in
theorem encode_none (A : Option Addr) (n c : Nat) (es : List EntR) (w : World) (h : REnts w A n es) (hn : n = 0 ∨ 400 < n) :
    Calls Try.prog 35 #[.slice A n c] w fun r w' => EncBad w w' 13 r := by
  clear h
  rcases hn with rfl | hn
  · go_enter Try.func35, Try.ntmps35
    go_wp2
    go_ret2
    exact ⟨rfl, Below.refl _ _⟩
  · have hn0 : ((n : Int) == 0) = false := by rw [beq_eq_false_iff_ne]; omega
    have hn4 : decide ((400 : Int) < (n : Int)) = true := decide_eq_true (by omega)
    go_enter Try.func35, Try.ntmps35
    go_wp2
    go_ret2
    exact ⟨rfl, Below.refl _ _⟩
set_option maxHeartbeats 16000000 in
set_option maxRecDepth 100000 in
theorem encode_bad (A : Option Addr) (n c : Nat) (es : List EntR) (w : World) (h : REnts w A n es) (hn : 1 ≤ n ∧ n ≤ 400) (E : Nat) (hE : (¬ AllM es ∧ E = 1) ∨ (AllM es ∧ ¬ Srt es ∧ E = 11)) :
    Calls Try.prog 35 #[.slice A n c] w fun r w' => EncBad w w' E r := by
  have hl := h.1
  have hmax := h.2.1
  have hn0 : ((n : Int) == 0) = false := by rw [beq_eq_false_iff_ne]; omega
  have hn4 : decide ((400 : Int) < (n : Int)) = false := decide_eq_false (by omega)
  have H := hid h
  have HE := hid hE
  have HAll : Hid ((∀ j, j < n → mayE (elt noEnt es j) = true) → AllM es) := hid (fun hh j hj => hh j (by omega))
  have HNot : Hid (∀ k, k < n → mayE (elt noEnt es k) = false → ¬ AllM es) := hid (fun k hk hf ha => by rw [ha k (by omega)] at hf; cases hf)
  clear h hl hE hn
  go_enter Try.func35, Try.ntmps35
  go_wp2
  go_loopw [23] (fun i wr => ∃ k : Nat, k ≤ n ∧ i = .int .i64 k ∧ (∀ j, j < k → mayE (elt noEnt es j) = true) ∧ Below w.heap.size w wr) (fun i wr => n - (intOf i).toNat)
  case atStart => exact ⟨0, Nat.zero_le _, rfl, fun j hj => absurd hj (by omega), Below.refl _ _⟩
  case round =>
    obtain ⟨k, hk, rfl, hall, hB⟩ := hrel
    have HA := hid hall
    clear hall
    by_cases hlt : k < n
    · obtain ⟨ad, rfl, hen⟩ := H.out.at_ hlt
      obtain ⟨Ak, nk, ck, Av, nv, cv, a0, a1, a2, a3, a4, a5, a6, a7, a8⟩ := hen.below hB
      have hkl := a5.max
      have hvl := a6.max
      have e5 := a5.1
      have e6 := a6.1
      have HNk := hid (HNot.out k hlt)
      have HA2 : Hid (mayE (elt noEnt es k) = true → ∀ j, j < k + 1 → mayE (elt noEnt es j) = true) := by
        intro h j hj
        rcases Nat.lt_succ_iff_lt_or_eq.1 hj with h1 | h1
        · exact HA.out j h1
        · rw [h1]; exact h
      obtain ⟨M, hM⟩ : ∃ M, mayE (elt noEnt es k) = M := ⟨_, rfl⟩
      rw [hM] at HNk HA2
      generalize elt noEnt es k = x at *
      have hmN : mayN nk (eSeq x) (eGone x) (eTil x) nv = M := by rw [← e5, ← e6]; exact hM
      have HmN := hid hmN
      clear hen a5 a6 hM hmN e5 e6
      cases M
      · have HE1 : Hid (E = 1) := hid (HE.out.elim (fun h => h.2) (fun h => absurd h.1 (HNk.out rfl)))
        go_wp2_with (go_at_call 67; (with_reducible refine (bkmay_any Ak nk ck (eSeq x) (eGone x) (eTil x) Av nv cv _ hkl hvl).mono ?_); rintro r w1 ⟨rfl, hb1⟩; rw [HmN.out])
        go_ret2
        rw [HE1.out]
        exact ⟨rfl, below_then (below_alloc' hB _) hb1⟩
      · go_wp2_with (go_at_call 67; (with_reducible refine (bkmay_any Ak nk ck (eSeq x) (eGone x) (eTil x) Av nv cv _ hkl hvl).mono ?_); rintro r w1 ⟨rfl, hb1⟩; rw [HmN.out])
        go_roundw
        case rel => exact ⟨k + 1, by omega, by go_num, HA2.out (by first | rfl | trivial), below_then (below_alloc' hB _) hb1⟩
        case measure => simp [intOf]; omega
    · obtain rfl : k = n := by omega
      obtain ⟨hs, hE11⟩ : ¬ Srt es ∧ E = 11 := by
        rcases HE.out with h | h
        · exact absurd (HAll.out HA.out) h.1
        · exact h.2
      have HSr := hid (srtB_false hs)
      have HE1 := hid hE11
      clear hs hE11
      go_wp2_with (go_at_call 66; (with_reducible refine (bkordered_any A k c es _ (H.out.below hB)).mono ?_); rintro r w1 ⟨rfl, hb1⟩; rw [HSr.out]; have hB1 := below_then hB hb1)
      go_ret2
      rw [HE1.out]
      exact ⟨rfl, hB1⟩
/-- All that Encode answers. -/
def EncC (w w' : World) (es : List EntR) (r : Ending) : Prop := ∃ (E : Nat) (v : Value), r = .returned (.tuple #[v, .int .i64 (E : Int)]) ∧ BkC es E ∧ OB w' w.heap.size v (if E = 0 then encK es else []) ∧ Below w.heap.size w w'
theorem encode_any (A : Option Addr) (n c : Nat) (es : List EntR) (w : World) (h : REnts w A n es) :
    Calls Try.prog 35 #[.slice A n c] w fun r w' => EncC w w' es r := by
  have hl := h.1
  rcases bk_cases es with hc | ⟨h1, h2⟩ | ⟨h1, h2, h3⟩ | hc
  · refine (encode_none A n c es w h (by omega)).mono ?_
    rintro r w' ⟨rfl, hb⟩
    exact ⟨13, _, rfl, .inl ⟨hc, rfl⟩, OB.nil _ _, hb⟩
  · refine (encode_bad A n c es w h (by omega) 1 (.inl ⟨h2, rfl⟩)).mono ?_
    rintro r w' ⟨rfl, hb⟩
    exact ⟨1, _, rfl, .inr (.inl ⟨h1, h2, rfl⟩), OB.nil _ _, hb⟩
  · refine (encode_bad A n c es w h (by omega) 11 (.inr ⟨h2, h3, rfl⟩)).mono ?_
    rintro r w' ⟨rfl, hb⟩
    exact ⟨11, _, rfl, .inr (.inr (.inl ⟨h1, h2, h3, rfl⟩)), OB.nil _ _, hb⟩
  · refine (encode_fit A n c es w h hc).mono ?_
    rintro r w' ⟨v, rfl, ho, hb⟩
    exact ⟨0, v, rfl, .inr (.inr (.inr ⟨hc, rfl⟩)), ho, hb⟩
end Go.Proofs.Ytkkclkknpjapcaa
/-! ### Bl -/
namespace Go.Proofs.Ytkkclkknpjapcaa
open Go.RowKit
set_option linter.unusedVariables false
set_option linter.unusedSimpArgs false

def hStep (h x : Nat) : Nat := (h ^^^ x) * 1099511628211 % 18446744073709551616
def hashN (xs : List UInt8) : Nat := xs.foldl (fun h x => hStep h x.toNat) 14695981039346656037
theorem hStep_lt (h x : Nat) : hStep h x < 18446744073709551616 := by unfold hStep; exact Nat.mod_lt _ (by decide)
theorem foldH_lt (l : List UInt8) : ∀ a : Nat, a < 18446744073709551616 → l.foldl (fun h x => hStep h x.toNat) a < 18446744073709551616 := by
  induction l with
  | nil => intro a h; exact h
  | cons x l ih => intro a _; rw [List.foldl_cons]; exact ih _ (hStep_lt _ _)
theorem hashN_lt (xs : List UInt8) : hashN xs < 18446744073709551616 := by
  unfold hashN
  exact foldH_lt xs _ (by decide)
theorem hashN_snoc (xs : List UInt8) (x : UInt8) : hashN (xs ++ [x]) = hStep (hashN xs) x.toNat := by
  unfold hashN
  rw [List.foldl_append, List.foldl_cons, List.foldl_nil]
theorem u64_in (a : Nat) (h : a < 18446744073709551616) : IntKind.u64.wrap (a : Int) = a := by rw [IntKind.wrap_u64]; omega
theorem ofInt_u64 (a : Nat) (h : a < 18446744073709551616) : (BitVec.ofInt 64 (a : Int)).toNat = a := by
  rw [BitVec.toNat_ofInt]
  omega
theorem u64_xor_nat (a b : Nat) (ha : a < 18446744073709551616) (hb : b < 18446744073709551616) : bits .xor .u64 (a : Int) (b : Int) = ((a ^^^ b : Nat) : Int) := by
  have hx : a ^^^ b < 2 ^ 64 := Nat.xor_lt_two_pow (by omega) (by omega)
  show IntKind.u64.wrap ((BitVec.ofInt 64 (a : Int) ^^^ BitVec.ofInt 64 (b : Int)).toNat : Int) = _
  rw [BitVec.toNat_xor, ofInt_u64 a (by omega), ofInt_u64 b (by omega)]
  exact u64_in _ (by omega)
theorem ret_u64 {a b : Int} (h : a = b) : Ending.returned (.int .u64 a) = .returned (.int .u64 b) := by rw [h]
theorem h_step {h x : Nat} (hh : h < 18446744073709551616) (hx : x < 256) : ∃ y : Nat, bits .xor .u64 (h : Int) (x : Int) = (y : Int) ∧ IntKind.u64.wrap ((y : Int) * 1099511628211) = (hStep h x : Int) := by
  refine ⟨h ^^^ x, u64_xor_nat h x hh (by omega), ?_⟩
  rw [IntKind.wrap_u64]
  unfold hStep
  omega

theorem hash_any (A : Option Addr) (n c : Nat) (xs : List UInt8) (w : World) (h : RB w A n xs) :
    Calls Try.prog 87 #[.slice A n c] w fun e w' => e = .returned (.int .u64 (hashN xs : Nat)) ∧ w = w' := by
  have hl := h.len
  have hm := h.max
  go_enter Try.func87, Try.ntmps87
  go_wp2
  go_loop [3, 8] (fun t i => ∃ k : Nat, k ≤ n ∧ i = .int .i64 k ∧ t = .int .u64 (hashN (xs.take k) : Nat)) (fun _ i => n - (intOf i).toNat)
  case atStart => exact ⟨0, Nat.zero_le _, rfl, rfl⟩
  case round =>
    obtain ⟨k, hk, rfl, rfl⟩ := hrel
    have hf := hashN_lt (xs.take k)
    by_cases hlt : k < n
    · obtain ⟨ad, rfl, hc⟩ := h.at_ hlt
      have hb := bAt_lt xs k
      obtain ⟨y, hx, hm2⟩ := h_step hf hb
      have hb8 := u64_in (bAt xs k) (by omega)
      have HS := hid (show hStep (hashN (xs.take k)) (bAt xs k) = hashN (xs.take (k + 1)) by rw [List.take_succ_eq_append_getElem (by omega), hashN_snoc, bAt_get (by omega)])
      rw [HS.out] at hm2
      go_wp2
      go_round
      case rel => exact ⟨k + 1, by omega, by go_num, rfl⟩
      case measure => simp [intOf]; omega
    · go_wp2
      go_ret
      refine ⟨ret_u64 ?_, rfl⟩
      rw [List.take_of_length_le (by omega)]
theorem refhash_any (A : Option Addr) (n c : Nat) (xs : List UInt8) (w : World) (h : RB w A n xs) :
    Calls Try.prog 84 #[.slice A n c] w fun e w' => e = .returned (.int .u64 (hashN xs : Nat)) ∧ w = w' := by
  have hl := h.len
  have hm := h.max
  go_enter Try.func84, Try.ntmps84
  go_wp2
  go_loop [3, 8] (fun t i => ∃ k : Nat, k ≤ n ∧ i = .int .i64 k ∧ t = .int .u64 (hashN (xs.take k) : Nat)) (fun _ i => n - (intOf i).toNat)
  case atStart => exact ⟨0, Nat.zero_le _, rfl, rfl⟩
  case round =>
    obtain ⟨k, hk, rfl, rfl⟩ := hrel
    have hf := hashN_lt (xs.take k)
    by_cases hlt : k < n
    · obtain ⟨ad, rfl, hc⟩ := h.at_ hlt
      have hb := bAt_lt xs k
      obtain ⟨y, hx, hm2⟩ := h_step hf hb
      have hb8 := u64_in (bAt xs k) (by omega)
      have HS := hid (show hStep (hashN (xs.take k)) (bAt xs k) = hashN (xs.take (k + 1)) by rw [List.take_succ_eq_append_getElem (by omega), hashN_snoc, bAt_get (by omega)])
      rw [HS.out] at hm2
      go_wp2
      go_round
      case rel => exact ⟨k + 1, by omega, by go_num, rfl⟩
      case measure => simp [intOf]; omega
    · go_wp2
      go_ret
      refine ⟨ret_u64 ?_, rfl⟩
      rw [List.take_of_length_le (by omega)]
theorem known_hash : hashN [] = 14695981039346656037 := rfl
end Go.Proofs.Ytkkclkknpjapcaa
/-! ### BlP -/
namespace Go.Proofs.Ytkkclkknpjapcaa
open Go.RowKit
set_option linter.unusedVariables false
set_option linter.unusedSimpArgs false

def stepN (h : Nat) : Nat := h / 8589934592 * 2 + 1
def hAt (h j : Nat) : Nat := (h + j * stepN h) % 18446744073709551616
def place (h m j : Nat) : Nat := hAt h j % m
def cells6 (h m j : Nat) : Array Value := Array.ofFn (n := 6) fun i => .int .u64 ((if i.val < j then place h m i.val else 0 : Nat) : Int)
theorem hAt_next {h j : Nat} (hh : h < 18446744073709551616) : IntKind.u64.wrap ((hAt h j : Int) + (stepN h : Int)) = (hAt h (j + 1) : Int) := by
  rw [IntKind.wrap_u64]
  unfold hAt
  rw [Nat.add_mul, Nat.one_mul]
  generalize stepN h = s
  generalize j * s = t
  omega
theorem hAt_zero {h : Nat} (hh : h < 18446744073709551616) : hAt h 0 = h := by
  unfold hAt
  rw [Nat.zero_mul, Nat.add_zero, Nat.mod_eq_of_lt hh]
theorem hAt_lt (h j : Nat) : hAt h j < 18446744073709551616 := by unfold hAt; exact Nat.mod_lt _ (by decide)
theorem cells6_next {h m j : Nat} : (cells6 h m j).setIfInBounds j (.int .u64 (place h m j : Nat)) = cells6 h m (j + 1) := by
  apply Array.ext_getElem?
  intro i
  unfold cells6
  rw [Array.getElem?_setIfInBounds]
  simp only [Array.size_ofFn, Array.getElem?_ofFn]
  by_cases hij : j = i
  · subst hij
    by_cases h6 : j < 6 <;> simp [h6]
  · rw [if_neg hij]
    by_cases h6 : i < 6
    · simp only [h6, ↓reduceDIte]
      by_cases h7 : i < j
      · rw [if_pos h7, if_pos (by omega)]
      · rw [if_neg h7, if_neg (by omega)]
    · simp [h6]
theorem cells6_size (h m j : Nat) : (cells6 h m j).size = 6 := by simp [cells6]
theorem cells6_next' {h m j : Nat} : (cells6 h m j).setIfInBounds j (.int .u64 ((hAt h j : Int) % (m : Int))) = cells6 h m (j + 1) := cells6_next
theorem cells6_get {h m j i : Nat} (hi : i < 6) : (cells6 h m j)[i]? = some (.int .u64 ((if i < j then place h m i else 0 : Nat) : Int)) := by
  unfold cells6
  rw [Array.getElem?_ofFn]
  simp [hi]
theorem cells6_one (h m j : Nat) : (cells6 h m j).all (·.oneCell') = true := by
  rw [Array.all_eq_true]
  intro i hi
  have e := cells6_get (h := h) (m := m) (j := j) (i := i) (by rw [← cells6_size h m j]; exact hi)
  rw [Array.getElem?_eq_getElem hi] at e
  rw [Option.some.inj e]
  rfl
theorem stepN_int (H : Nat) : ((stepN H : Nat) : Int) = (H : Int) / 8589934592 * 2 + 1 := by
  unfold stepN
  rw [Int.natCast_add, Int.natCast_mul, Int.natCast_ediv]
  rfl
theorem cells6_zero (h m : Nat) : cells6 h m 0 = #[.int .u64 0, .int .u64 0, .int .u64 0, .int .u64 0, .int .u64 0, .int .u64 0] := by unfold cells6; rfl
theorem below_setRow {B : Nat} {a w : World} (h : Below B a w) {g : Nat} (hg : B ≤ g) (cs : Array Value) : Below B a (w.setRow g cs) :=
  h.trans ⟨rfl, rfl, rfl, by simp, fun k hk => by
    unfold World.setRow
    simp only [Array.getElem?_modify]
    rw [if_neg (by omega)]⟩
theorem arr6 : (Try.prog.info? 99).map (·.size) = some 6 := by kernel_rfl
set_option maxHeartbeats 8000000 in
set_option maxRecDepth 100000 in
theorem places_any (A : Option Addr) (n c : Nat) (xs : List UInt8) (m : Nat) (w : World) (h : RB w A n xs) (hm0 : 0 < m) (hm : m < 18446744073709551616) :
    Calls Try.prog 71 #[.slice A n c, .int .u64 (m : Int)] w fun e w' => e = .returned (.agg (cells6 (hashN xs) m 6)) ∧ Below w.heap.size w w' := by
  have hh := hashN_lt xs
  obtain ⟨H, hH⟩ : ∃ H, H = hashN xs := ⟨_, rfl⟩
  rw [← hH] at hh ⊢
  have HH := hid hH
  clear hH
  go_enter Try.func71, Try.ntmps71
  go_wp2
  refine wp_scope_ghost 0 (fun k a' w' => ∃ (j : Nat) (x6 x7 u9 u10 u11 u12 u13 u14 u15 u16 u17 u18 u19 u20 u21 u22 u23 u24 u25 u26 u27 : Value), a' = { tmps := #[.slice A n c, .int .u64 m, undef, undef, .pointer (some ⟨w.heap.size, 0, none⟩), .pointer (some ⟨w.heap.size + 1, 0, none⟩), x6, x7, .int .i64 (j : Nat), u9, u10, u11, u12, u13, u14, u15, u16, u17, u18, u19, u20, u21, u22, u23, u24, u25, u26, u27], defers := [] } ∧ x6 = .int .u64 (hAt H j : Nat) ∧ x7 = .int .u64 (stepN H : Nat) ∧ j < 6 ∧ k = 6 - j ∧ Below w.heap.size w w' ∧ w'.heap[w.heap.size]? = some (.cells (cells6 H m 0) 99 (0, 0)) ∧ w'.heap[w.heap.size + 1]? = some (.cells (cells6 H m j) 99 (0, 0))) rfl ?_ ?_
  · rintro k a' w' ⟨j, x6, x7, u9, u10, u11, u12, u13, u14, u15, u16, u17, u18, u19, u20, u21, u22, u23, u24, u25, u26, u27, rfl, rfl, rfl, hj, rfl, hB, hr0, hr1⟩
    have k0 : w'.cell? ⟨w.heap.size + 1, j, none⟩ = some (.int .u64 ((if j < j then place H m j else 0 : Nat) : Int)) := by
      rw [cell_of_row _ _ _ _ _ _ hr1]
      exact cells6_get hj
    have f0 := frozen_of_row w' (w.heap.size + 1) j _ _ hr1
    have hn := hAt_next (j := j) hh
    have hs1 := heap_setCell_same w' (w.heap.size + 1) j _ _ (.int .u64 ((hAt H j : Int) % (m : Int))) hr1
    rw [cells6_next'] at hs1
    have hs0 := (heap_setCell_other w' ⟨w.heap.size + 1, j, none⟩ w.heap.size (.int .u64 ((hAt H j : Int) % (m : Int))) (by simp)).trans hr0
    have hB2 := hB.setCell (p := ⟨w.heap.size + 1, j, none⟩) (by simp) (.int .u64 ((hAt H j : Int) % (m : Int)))
    obtain ⟨W2, hW2⟩ : ∃ W, W = w'.setCell ⟨w.heap.size + 1, j, none⟩ (.int .u64 ((hAt H j : Int) % (m : Int))) := ⟨_, rfl⟩
    rw [← hW2] at hs1 hs0 hB2
    have HW2 := hid hW2
    have HS1 := hid hs1
    have HS0 := hid hs0
    clear hW2 hs1 hs0 hr0 hr1
    by_cases hl : j + 1 < 6
    · go_wp2
      rw [← HW2.out]
      refine wp_goto_k (Jumped.mk (6 - (j + 1)) (by omega) ⟨j + 1, _, _, _, _, _, _, _, _, _, _, _, _, _, _, _, _, _, _, _, _, _, rfl, rfl, rfl, hl, rfl, hB2, HS0.out, HS1.out⟩)
    · have hj6 : j + 1 = 6 := by omega
      have HJ := hid hj6
      clear hj6
      go_wp2_with (first
        | (rw [← HW2.out]; refine wpList_load_row rfl 99 (.tmp 5) rfl (w.heap.size + 1) rfl 99 (cells6 H m (j + 1)) (0, 0) _ HS1.out Try.underlying99 rfl (by rw [cells6_size]; exact arr6) ?_)
        | (refine wpList_store_row rfl 99 (.tmp 4) (.tmp 27) rfl w.heap.size (cells6 H m (j + 1)) rfl rfl 99 (cells6 H m 0) HS0.out (by rw [cells6_size]; exact arr6) (by rw [cells6_size, cells6_size]) (cells6_one _ _ _) ?_))
      simp only [Exit.jump]
      refine bodyPost_ret (v := .agg (cells6 H m (j + 1))) (results_cell_row rfl _ _ w.heap.size 99 _ (0, 0) _ rfl (setRow_heap _ _ _ _ _ _ HS0.out) Try.underlying99 rfl (by rw [cells6_size]; exact arr6)) rfl ⟨by rw [HJ.out], below_setRow hB2 (Nat.le_refl _) _⟩
  · intro hpass
    go_wp2_with (go_at_call 87; (with_reducible refine (hash_any A n c xs _ ((h.alloc _).alloc _)).mono ?_); rintro e w' ⟨rfl, rfl⟩; rw [← HH.out])
    refine wp_label_k (by assumption) (hpass 6 _ _ ?_)
    refine ⟨0, _, _, _, _, _, _, _, _, _, _, _, _, _, _, _, _, _, _, _, _, _, rfl, ?_, ?_, by omega, rfl, ((Below.refl _ _).alloc (Nat.le_refl _) _).alloc (by simp) _, ?_, ?_⟩
    · rw [hAt_zero hh]
    · rw [stepN_int]
    · rw [cells6_zero]; exact heap_alloc2_old _ _ _
    · rw [cells6_zero]; exact heap_alloc2_new _ _ _
end Go.Proofs.Ytkkclkknpjapcaa
/-! ### BlQ -/
namespace Go.Proofs.Ytkkclkknpjapcaa
open Go.RowKit
set_option linter.unusedVariables false
set_option linter.unusedSimpArgs false

def probesI (h m k : Nat) : List Int := (List.range k).map fun i => (place h m i : Int)
theorem probesI_next (h m k : Nat) : probesI h m k ++ [(place h m k : Int)] = probesI h m (k + 1) := by
  unfold probesI
  rw [List.range_succ, List.map_append]
  rfl
theorem probesI_len (h m k : Nat) : (probesI h m k).length = k := by simp [probesI]
theorem probesI_at {h m k j : Nat} (hj : j < k) : elt 0 (probesI h m k) j = (place h m j : Int) := by
  unfold elt probesI
  simp [hj]
theorem place_lt {h m : Nat} (j : Nat) (hm : 0 < m) : place h m j < m := Nat.mod_lt _ hm
theorem run_index6 {h m k : Nat} (hk : k < 6) (w : World) : (Instr.index 99 (.agg (cells6 h m 6)) (.int .i64 (k : Int))).run Try.prog w = .ok (.int .u64 (place h m k : Int)) w := by
  have hp := cells6_get (h := h) (m := m) (j := 6) hk
  rw [if_pos hk] at hp
  have hu := run_underlying Try.underlying99 w
  have hu2 := run_underlying Try.underlying64 w
  unfold Instr.index
  simp [Sem.run_bind, asIntOf, hu, hk]
  unfold part
  simp [Sem.run_bind, isAgg, hu2, hp]
def probesL (xs : List UInt8) (z : Int) : List Int := if z < 1 then [] else probesI (hashN xs) z.toNat 6

theorem or1_even {y : Nat} (h : y % 2 = 0) (hy : y < 18446744073709551616) : bits .or .u64 (y : Int) 1 = ((y + 1 : Nat) : Int) := by
  have e : bits .or .u64 (y : Int) ((1 : Nat) : Int) = ((y ||| 1 : Nat) : Int) := by
    have hx : y ||| 1 < 2 ^ 64 := Nat.or_lt_two_pow (by omega) (by omega)
    show IntKind.u64.wrap ((BitVec.ofInt 64 (y : Int) ||| BitVec.ofInt 64 ((1 : Nat) : Int)).toNat : Int) = _
    rw [BitVec.toNat_or, ofInt_u64 y (by omega), ofInt_u64 1 (by omega)]
    exact u64_in _ (by omega)
  have e2 : y ||| 1 = y + 1 := by
    have := Nat.two_pow_add_eq_or_of_lt (i := 1) (b := 1) (by omega) (y / 2)
    rw [show 2 ^ 1 * (y / 2) = y from by omega] at this
    exact this.symm
  rw [e2] at e
  exact e
set_option maxHeartbeats 4000000 in
theorem refprobes_any (A : Option Addr) (n c : Nat) (xs : List UInt8) (z : Int) (w : World) (h : RB w A n xs) (hz : -9223372036854775808 ≤ z ∧ z ≤ 9223372036854775807) :
    Calls Try.prog 64 #[.slice A n c, .int .i64 z] w fun e w' => ∃ v, e = .returned v ∧ OI w' w.heap.size v (probesL xs z) ∧ Below w.heap.size w w' := by
  by_cases h1 : z < 1
  · have e1 : probesL xs z = [] := by unfold probesL; rw [if_pos h1]
    rw [e1]
    go_enter Try.func64, Try.ntmps64
    go_wp2
    go_ret
    exact ⟨_, rfl, OI.nil _ _, Below.refl _ _⟩
  · obtain ⟨m, rfl⟩ : ∃ m : Nat, z = m := ⟨z.toNat, by omega⟩
    have e1 : probesL xs m = probesI (hashN xs) m 6 := by unfold probesL; rw [if_neg h1]; rfl
    have hm0 : 0 < m := by omega
    have hm64 := u64_in m (by omega)
    have hm9 : (m : Int) ≤ 9223372036854775807 := by omega
    rw [e1]
    have hh := hashN_lt xs
    obtain ⟨H, hH⟩ : ∃ H, H = hashN xs := ⟨_, rfl⟩
    rw [← hH] at hh ⊢
    have HH := hid hH
    clear hH e1 h1 hz
    obtain ⟨Y, hY, hY2⟩ : ∃ Y : Nat, (H : Int) / 8589934592 * 2 = (Y : Int) ∧ Y + 1 = stepN H := ⟨H / 8589934592 * 2, by rw [Int.natCast_mul, Int.natCast_ediv]; rfl, rfl⟩
    have hYor := or1_even (y := Y) (by unfold stepN at hY2; omega) (by unfold stepN at hY2; omega)
    rw [hY2] at hYor
    clear hY2
    go_enter Try.func64, Try.ntmps64
    go_wp2_with (go_at_call 84; (with_reducible refine (refhash_any A n c xs _ h).mono ?_); rintro e w1 ⟨rfl, rfl⟩; rw [← HH.out])
    go_loopw [6, 12] (fun b i wr => ∃ k : Nat, k ≤ 6 ∧ i = .int .u64 k ∧ OI wr w.heap.size b (probesI H m k) ∧ Below w.heap.size w wr) (fun b i wr => 6 - (intOf i).toNat)
    case atStart => exact ⟨0, by omega, rfl, OI.nil _ _, Below.refl _ _⟩
    case round =>
      obtain ⟨k, hk, rfl, hown, hB⟩ := hrel
      by_cases hlt : k < 6
      · have hpl := place_lt (h := H) k hm0
        have hpe : (IntKind.u64.wrap ((H : Int) + IntKind.u64.wrap ((k : Int) * (stepN H : Int)))).tmod (m : Int) = (place H m k : Int) := by
          rw [Int.tmod_eq_emod_of_nonneg (by rw [IntKind.wrap_u64]; omega)]
          unfold place
          rw [Int.natCast_emod, IntKind.wrap_u64, IntKind.wrap_u64]
          unfold hAt
          rw [← Int.natCast_mul]
          generalize k * stepN H = t
          congr 1
          omega
        obtain ⟨P, hP⟩ : ∃ P, P = place H m k := ⟨_, rfl⟩
        rw [← hP] at hpe hpl
        have hP63 : IntKind.i64.wrap (P : Int) = P := IntWalk.i64_in _ (by omega)
        have HPP := hid hP
        clear hP
        go_wp2_with (at_builtin; refine wpI_append1 w wr w.heap.size rfl (.tmp 15) (.tmp 28) rfl _ (probesI H m k) rfl (by exact hown) P 1 _ rfl rfl (by rw [probesI_len]; omega) hB hB.size ?_; intro v1 w1 hown1 hB1)
        go_roundw
        case rel => exact ⟨k + 1, by omega, by go_num, by rw [HPP.out, probesI_next] at hown1; exact hown1, hB1⟩
        case measure => simp [intOf]; omega
      · obtain rfl : k = 6 := by omega
        go_wp2
        go_ret
        exact ⟨_, rfl, hown, hB⟩
end Go.Proofs.Ytkkclkknpjapcaa
/-! ### BlR -/
namespace Go.Proofs.Ytkkclkknpjapcaa
open Go.RowKit
set_option linter.unusedVariables false
set_option linter.unusedSimpArgs false

end Go.Proofs.Ytkkclkknpjapcaa
/-! ### BlS -/
namespace Go.Proofs.Ytkkclkknpjapcaa
open Go.RowKit
set_option linter.unusedVariables false
set_option linter.unusedSimpArgs false

def bitAt (bs : List UInt8) (p : Nat) : Nat := bAt bs (p / 8) / 2 ^ (p % 8) % 2
def hasB (bs xs : List UInt8) : Bool := if bs.length = 0 ∨ 1048576 < bs.length then true else (List.range 6).all fun j => bitAt bs (place (hashN xs) (8 * bs.length) j) == 1
theorem and1_u8 {m : Nat} (hm : m < 256) : bits .and .u8 (m : Int) 1 = ((m % 2 : Nat) : Int) := by
  have h := u8_and_nat m 1 hm (by omega)
  rw [show ((1 : Nat) : Int) = 1 from rfl, Nat.and_one_is_mod] at h
  exact h

theorem and_bit (bs : List UInt8) (p : Nat) : bits .and .u8 ((bAt bs (p / 8) : Int) / 2 ^ (p % 8)) 1 = (bitAt bs p : Int) := by
  have hb := bAt_lt bs (p / 8)
  have h := and1_u8 (m := bAt bs (p / 8) / 2 ^ (p % 8)) (Nat.lt_of_le_of_lt (Nat.div_le_self _ _) hb)
  rw [Int.natCast_ediv, Int.natCast_pow] at h
  exact h
theorem bitAt_two (bs : List UInt8) (p : Nat) : bitAt bs p = 0 ∨ bitAt bs p = 1 := by unfold bitAt; omega
set_option maxHeartbeats 8000000 in
set_option maxRecDepth 100000 in
theorem has_any (A : Option Addr) (n c : Nat) (bs : List UInt8) (A' : Option Addr) (m c' : Nat) (xs : List UInt8) (w : World) (h : RB w A n bs) (h' : RB w A' m xs) :
    Calls Try.prog 63 #[.slice A n c, .slice A' m c'] w fun e w' => e = .returned (.bool (hasB bs xs)) ∧ Below w.heap.size w w' := by
  have hl := h.1
  have HL := hid hl
  have hmx := h.2.1
  by_cases h0 : n = 0 ∨ 1048576 < n
  · have e1 : hasB bs xs = true := by unfold hasB; rw [hl, if_pos h0]
    rw [e1]
    clear hl
    rcases h0 with h0 | h0
    all_goals
      go_enter Try.func63, Try.ntmps63
      go_wp2
      go_ret
      exact ⟨rfl, Below.refl _ _⟩
  · have hn0 : ¬ n = 0 := fun e => h0 (.inl e)
    have hn1 : n ≤ 1048576 := by omega
    have hz0 : ((n : Int) == 0) = false := by rw [beq_eq_false_iff_ne]; omega
    have hz1 : ¬ ((1048576 : Int) < (n : Int)) := by omega
    obtain ⟨B, hB1⟩ : ∃ B : Bool, B = hasB bs xs := ⟨_, rfl⟩
    have hB2 : B = (List.range 6).all fun j => bitAt bs (place (hashN xs) (8 * n) j) == 1 := by rw [hB1]; unfold hasB; rw [hl, if_neg h0]
    rw [← hB1]
    clear hB1 h0 hl
    have HBB := hid hB2
    clear hB2
    have hn64 := u64_in n (by omega)
    have hm64 : IntKind.u64.wrap ((n : Int) * 8) = ((8 * n : Nat) : Int) := by rw [IntKind.wrap_u64]; omega
    obtain ⟨M, hM⟩ : ∃ M, M = 8 * n := ⟨_, rfl⟩
    rw [← hM] at hm64
    have HM := hid hM
    have hM0 : 0 < M := by omega
    have hM64 : M < 18446744073709551616 := by omega
    obtain ⟨H, hH⟩ : ∃ H, H = hashN xs := ⟨_, rfl⟩
    have HH := hid hH
    clear hH hM
    go_enter Try.func63, Try.ntmps63
    go_wp2_with (go_at_call 71; (with_reducible refine (places_any A' m c' xs M _ h' hM0 hM64).mono ?_); rintro e w1 ⟨rfl, hb1⟩; rw [← HH.out])
    have h1 := h.below hb1
    go_loop [21] (fun i => ∃ k : Nat, k ≤ 6 ∧ i = .int .i64 k ∧ ∀ j, j < k → bitAt bs (place H M j) = 1) (fun i => 6 - (intOf i).toNat)
    case atStart => exact ⟨0, by omega, rfl, fun j hj => absurd hj (by omega)⟩
    case round =>
      obtain ⟨k, hk, rfl, hall⟩ := hrel
      have HA := hid hall
      clear hall
      by_cases hlt : k < 6
      · have hix := run_index6 (h := H) (m := M) hlt w1
        have hpl := place_lt (h := H) k hM0
        obtain ⟨P, hP⟩ : ∃ P, P = place H M k := ⟨_, rfl⟩
        rw [← hP] at hix hpl
        have HPP := hid hP
        clear hP
        have hP8 : P / 8 < n := by have := HM.out; omega
        obtain ⟨ad, rfl, hcell⟩ := h1.at_ hP8
        have hbit := and_bit bs P
        rcases bitAt_two bs P with ht | ht
        · rw [ht] at hbit
          have hBt : B = false := by
            rw [HBB.out, List.all_eq_false]
            refine ⟨k, by simpa using hlt, ?_⟩
            rw [← HM.out, ← HH.out, ← HPP.out, ht]
            decide
          subst hBt
          go_wp2
          go_ret
          exact ⟨rfl, hb1⟩
        · rw [ht] at hbit
          go_wp2
          go_round
          case rel =>
            refine ⟨k + 1, by omega, by go_num, fun j hj => ?_⟩
            by_cases hjk : j < k
            · exact HA.out j hjk
            · obtain rfl : j = k := by omega
              rw [← HPP.out]
              exact ht
          case measure => simp [intOf]; omega
      · obtain rfl : k = 6 := by omega
        have hBt : B = true := by
          rw [HBB.out]
          rw [List.all_eq_true]
          intro j hj
          have := HA.out j (by simpa using hj)
          rw [HM.out, HH.out] at this
          simpa using this
        subst hBt
        go_wp2
        go_ret
        exact ⟨rfl, hb1⟩
set_option maxHeartbeats 8000000 in
set_option maxRecDepth 100000 in
theorem refhas_any (A : Option Addr) (n c : Nat) (bs : List UInt8) (A' : Option Addr) (m c' : Nat) (xs : List UInt8) (w : World) (h : RB w A n bs) (h' : RB w A' m xs) :
    Calls Try.prog 29 #[.slice A n c, .slice A' m c'] w fun e w' => e = .returned (.bool (hasB bs xs)) ∧ Below w.heap.size w w' := by
  have hl := h.1
  have HL := hid hl
  have hmx := h.2.1
  by_cases h0 : n = 0 ∨ 1048576 < n
  · have e1 : hasB bs xs = true := by unfold hasB; rw [hl, if_pos h0]
    rw [e1]
    clear hl
    rcases h0 with h0 | h0
    all_goals
      go_enter Try.func29, Try.ntmps29
      go_wp2
      go_ret
      exact ⟨rfl, Below.refl _ _⟩
  · have hn0 : ¬ n = 0 := fun e => h0 (.inl e)
    have hn1 : n ≤ 1048576 := by omega
    have hz0 : ((n : Int) == 0) = false := by rw [beq_eq_false_iff_ne]; omega
    have hz1 : ¬ ((1048576 : Int) < (n : Int)) := by omega
    obtain ⟨B, hB1⟩ : ∃ B : Bool, B = hasB bs xs := ⟨_, rfl⟩
    have hB2 : B = (List.range 6).all fun j => bitAt bs (place (hashN xs) (8 * n) j) == 1 := by rw [hB1]; unfold hasB; rw [hl, if_neg h0]
    rw [← hB1]
    clear hB1 h0 hl
    have HBB := hid hB2
    clear hB2
    obtain ⟨M, hM⟩ : ∃ M, M = 8 * n := ⟨_, rfl⟩
    have hm8 : (8 : Int) * (n : Int) = (M : Int) := by omega
    have hm64 : IntKind.i64.wrap (M : Int) = (M : Int) := IntWalk.i64_in _ (by omega)
    have HM := hid hM
    have hM0 : 0 < M := by omega
    have hM64 : M < 18446744073709551616 := by omega
    have hMi : -9223372036854775808 ≤ (M : Int) ∧ (M : Int) ≤ 9223372036854775807 := by omega
    obtain ⟨H, hH⟩ : ∃ H, H = hashN xs := ⟨_, rfl⟩
    have HPL : Hid (probesL xs (M : Int) = probesI H M 6) := by unfold probesL; rw [if_neg (by omega), hH]; rfl
    have HH := hid hH
    clear hH hM
    go_enter Try.func29, Try.ntmps29
    go_wp2_with (go_at_call 64; (with_reducible refine (refprobes_any A' m c' xs (M : Int) _ h' hMi).mono ?_); rintro e w1 ⟨v1, rfl, hown1, hb1⟩; rw [HPL.out] at hown1; obtain ⟨g1, d1, rfl, _, _, _⟩ := hown1.form 6 (probesI_len _ _ _) (by omega))
    have h1 := h.below hb1
    go_loop [21] (fun i => ∃ k : Nat, k ≤ 6 ∧ i = .int .i64 k ∧ ∀ j, j < k → bitAt bs (place H M j) = 1) (fun i => 6 - (intOf i).toNat)
    case atStart => exact ⟨0, by omega, rfl, fun j hj => absurd hj (by omega)⟩
    case round =>
      obtain ⟨k, hk, rfl, hall⟩ := hrel
      have HA := hid hall
      clear hall
      by_cases hlt : k < 6
      · have hcl := hown1.cell (probesI_len _ _ _) hlt
        rw [probesI_at hlt] at hcl
        have hpl := place_lt (h := H) k hM0
        obtain ⟨P, hP⟩ : ∃ P, P = place H M k := ⟨_, rfl⟩
        rw [← hP] at hcl hpl
        have HPP := hid hP
        clear hP
        have hP8 : P / 8 < n := by have := HM.out; omega
        have hP9 : (P : Int) ≤ 8388608 := by omega
        obtain ⟨ad, rfl, hcell⟩ := h1.at_ hP8
        have hbit := and_bit bs P
        have hmod64 : IntKind.u64.wrap ((P : Int) % 8) = (P : Int) % 8 := by rw [IntKind.wrap_u64]; omega
        rcases bitAt_two bs P with ht | ht
        · rw [ht] at hbit
          have hBt : B = false := by
            rw [HBB.out, List.all_eq_false]
            refine ⟨k, by simpa using hlt, ?_⟩
            rw [← HM.out, ← HH.out, ← HPP.out, ht]
            decide
          subst hBt
          go_wp2
          go_ret
          exact ⟨rfl, hb1⟩
        · rw [ht] at hbit
          go_wp2
          go_round
          case rel =>
            refine ⟨k + 1, by omega, by go_num, fun j hj => ?_⟩
            by_cases hjk : j < k
            · exact HA.out j hjk
            · obtain rfl : j = k := by omega
              rw [← HPP.out]
              exact ht
          case measure => simp [intOf]; omega
      · obtain rfl : k = 6 := by omega
        have hBt : B = true := by
          rw [HBB.out]
          rw [List.all_eq_true]
          intro j hj
          have := HA.out j (by simpa using hj)
          rw [HM.out, HH.out] at this
          simpa using this
        subst hBt
        go_wp2
        go_ret
        exact ⟨rfl, hb1⟩
end Go.Proofs.Ytkkclkknpjapcaa
/-! ### BlT -/
namespace Go.Proofs.Ytkkclkknpjapcaa
open Go.RowKit
set_option linter.unusedVariables false
set_option linter.unusedSimpArgs false

def setBit (b : List UInt8) (p : Nat) : List UInt8 := b.set (p / 8) (UInt8.ofNat (bAt b (p / 8) ||| 2 ^ (p % 8)))
def addUpto (b : List UInt8) (M h : Nat) : Nat → List UInt8
  | 0 => b
  | j + 1 => setBit (addUpto b M h j) (place h M j)
def addKey (M : Nat) (b k : List UInt8) : List UInt8 := addUpto b M (hashN k) 6
def sizeF (n : Nat) : Nat := ((if 64 < 10 * n then 10 * n else 64) + 7) / 8
def fillUpto (xss : List (List UInt8)) (M S : Nat) : Nat → List UInt8
  | 0 => List.replicate S 0
  | k + 1 => addKey M (fillUpto xss M S k) (elt [] xss k)
def filterB (xss : List (List UInt8)) : List UInt8 := fillUpto xss (8 * sizeF xss.length) (sizeF xss.length) xss.length
theorem setBit_len (b : List UInt8) (p : Nat) : (setBit b p).length = b.length := by simp [setBit]
theorem addUpto_len (b : List UInt8) (M h : Nat) : ∀ j, (addUpto b M h j).length = b.length := by
  intro j
  induction j with
  | zero => rfl
  | succ j ih => rw [addUpto, setBit_len, ih]
theorem fillUpto_len (xss : List (List UInt8)) (M S : Nat) : ∀ k, (fillUpto xss M S k).length = S := by
  intro k
  induction k with
  | zero => simp [fillUpto]
  | succ k ih => rw [fillUpto, addKey, addUpto_len, ih]
theorem or_bit {x s : Nat} (hx : x < 256) (hs : s < 8) : bits .or .u8 (x : Int) (2 ^ s) = ((UInt8.ofNat (x ||| 2 ^ s)).toNat : Int) := by
  have hp : 2 ^ s < 256 := Nat.lt_of_le_of_lt (Nat.pow_le_pow_right (by omega) (show s ≤ 7 by omega)) (by decide)
  have h := u8_or_nat x (2 ^ s) hx hp
  rw [Int.natCast_pow] at h
  have hl : x ||| 2 ^ s < 256 := Nat.or_lt_two_pow (n := 8) hx hp
  rw [show ((2 : Nat) : Int) = 2 from rfl] at h
  rw [h, UInt8.toNat_ofNat', Nat.mod_eq_of_lt hl]
theorem or_bit' {x s : Nat} (hx : x < 256) (hs : s < 8) : bits .or .u8 (x : Int) (2 ^ s % 256) = ((UInt8.ofNat (x ||| 2 ^ s)).toNat : Int) := by
  have hp : 2 ^ s < 256 := Nat.lt_of_le_of_lt (Nat.pow_le_pow_right (by omega) (show s ≤ 7 by omega)) (by decide)
  have e : (2 : Int) ^ s % 256 = 2 ^ s := by
    have h1 : ((2 ^ s : Nat) : Int) = (2 : Int) ^ s := by rw [Int.natCast_pow]; rfl
    exact Int.emod_eq_of_lt (by rw [← h1]; exact Int.natCast_nonneg _) (by rw [← h1]; exact Int.ofNat_lt.2 hp)
  rw [e]
  exact or_bit hx hs
theorem OB.zeros (w : World) (base S : Nat) (hb : base ≤ w.heap.size) (hS : S ≤ 9223372036854775807) : OB (w.alloc (.cells (madeCells #[.int .u8 0] S) 5)) base (.slice (some ⟨w.heap.size, 0, none⟩) S S) (List.replicate S 0) := by
  have h := World.ownsRow_lit (base := base) (e := 5) (size := 1) w (madeCells #[.int .u8 0] S) S hb (by simp only [maxLen]; omega) (by rw [size_madeCells]; omega)
  have e : (madeCells #[.int .u8 0] S).toList = bys (List.replicate S 0) := by
    apply List.ext_getElem?
    intro i
    simp [madeCells, bys, List.getElem?_replicate]
    by_cases hi : i < S <;> simp [hi, Nat.mod_one]
  unfold OB
  rw [List.length_replicate, ← e]
  exact h
theorem OB.formN {w : World} {base : Nat} {v : Value} {xs : List UInt8} (h : OB w base v xs) (n : Nat) (hl : xs.length = n) (hn : 0 < n) : ∃ g cap, v = .slice (some ⟨g, 0, none⟩) n cap ∧ base ≤ g ∧ g < w.heap.size ∧ n ≤ cap := by
  subst hl
  exact h.form hn
set_option maxHeartbeats 8000000 in
set_option maxRecDepth 100000 in
theorem build_any (A : Option Addr) (n c : Nat) (xss : List (List UInt8)) (w : World) (h : RBs w A n xss) (hn : n ≤ 100000) :
    Calls Try.prog 39 #[.slice A n c] w fun e w' => ∃ v, e = .returned (.tuple #[v, .int .i64 0]) ∧ OB w' w.heap.size v (filterB xss) ∧ Below w.heap.size w w' := by
  have hl := h.1
  obtain ⟨S, hS⟩ : ∃ S, S = sizeF n := ⟨_, rfl⟩
  have hS8 : 8 ≤ S ∧ S ≤ 125001 := by rw [hS]; unfold sizeF; split <;> omega
  have hz : ¬ ((100000 : Int) < (n : Int)) := by omega
  have hF : filterB xss = fillUpto xss (8 * S) S n := by unfold filterB; rw [hl, ← hS]
  rw [hF]
  have hmk : ∀ u : World, (Instr.makeSlice 25 (.int .i64 (S : Int)) (.int .i64 (S : Int))).run Try.prog u = .ok (.slice (some ⟨u.heap.size, 0, none⟩) S S) (u.alloc (.cells (madeCells #[.int .u8 0] S) 5)) := fun u => by
    obtain ⟨i, hi, hz0, hz1, hz2⟩ := info_parts u8info
    have h := run_make (P := Try.prog) u 25 5 i (.int .u8 0) Try.underlying25 hi hz0 .i64 .i64 (S : Int) (S : Int) (by omega) (Int.le_refl _) (by rw [hz2]; omega) (by omega)
    simpa [hz1, Value.cells] using h
  have hSz : ∃ E : Int, E = (S : Int) ∧ ((10 * n ≤ 64 ∧ E = 8) ∨ (64 < 10 * n ∧ E = (10 * (n : Int) + 7) / 8)) := by
    refine ⟨(S : Int), rfl, ?_⟩
    rw [hS]
    unfold sizeF
    by_cases hb : 64 < 10 * n
    · rw [if_pos hb]; exact .inr ⟨hb, by omega⟩
    · rw [if_neg hb]; exact .inl ⟨by omega, by omega⟩
  obtain ⟨E, hE, hcase⟩ := hSz
  rw [← hE] at hmk
  obtain ⟨M, hM⟩ : ∃ M, M = 8 * S := ⟨_, rfl⟩
  rw [← hM]
  have hM0 : 0 < M := by omega
  have hM64 : M < 18446744073709551616 := by omega
  have hS64 := u64_in S (by omega)
  have hM64i : IntKind.u64.wrap ((S : Int) * 8) = (M : Int) := by rw [IntKind.wrap_u64]; omega
  have H := hid h
  have HM := hid hM
  clear hS hF hE h hl hM
  rcases hcase with ⟨hb, rfl⟩ | ⟨hb, rfl⟩
  all_goals
    have hb' : (64 : Int) < 10 * (n : Int) ↔ 64 < 10 * n := by omega
    go_enter Try.func39, Try.ntmps39
    go_wp2
    go_loopw [21] (fun i wr => ∃ k : Nat, k ≤ n ∧ i = .int .i64 k ∧ OB wr w.heap.size (.slice (some ⟨w.heap.size, 0, none⟩) S S) (fillUpto xss M S k) ∧ Below w.heap.size w wr) (fun i wr => n - (intOf i).toNat)
    case atStart => exact ⟨0, Nat.zero_le _, rfl, OB.zeros _ _ _ (Nat.le_refl _) (by omega), below_alloc' (Below.refl _ _) _⟩
    case round =>
      obtain ⟨k, hk, rfl, hown, hB⟩ := hrel
      by_cases hlt : k < n
      · obtain ⟨ad, rfl, Aj, nj, cj, hcell, hrb, hle⟩ := H.out.at_ hlt
        have hcell2 := below_cell hB hcell
        obtain ⟨h0, hh0⟩ : ∃ h, h = hashN (elt [] xss k) := ⟨_, rfl⟩
        have HH0 := hid hh0
        clear hh0 hcell
        go_wp2_with (go_at_call 71; (with_reducible refine (places_any Aj nj cj _ M _ (hrb.below hB) hM0 hM64).mono ?_); rintro e w1 ⟨rfl, hb1⟩; rw [← HH0.out])
        have hown1 := hown.below hb1
        have hB1 := below_then hB hb1
        clear hown hB hb1 hcell2
        go_loopw [31] (fun i wr2 => ∃ j : Nat, j ≤ 6 ∧ i = .int .i64 j ∧ OB wr2 w.heap.size (.slice (some ⟨w.heap.size, 0, none⟩) S S) (addUpto (fillUpto xss M S k) M h0 j) ∧ Below w.heap.size w wr2) (fun i wr2 => 6 - (intOf i).toNat)
        case atStart => exact ⟨0, by omega, rfl, hown1, hB1⟩
        case round =>
          clear hown1 hB1
          obtain ⟨j, hj, rfl, hown2, hB2⟩ := hrel
          by_cases hlt6 : j < 6
          · have hpl := place_lt (h := h0) j hM0
            have hix := run_index6 (h := h0) (m := M) hlt6 wr
            obtain ⟨P, hP⟩ : ∃ P, P = place h0 M j := ⟨_, rfl⟩
            rw [← hP] at hix hpl
            have HPP := hid hP
            clear hP
            have hP8 : P / 8 < S := by have := HM.out; omega
            have k0 := hown2.cell (j := P / 8) hP8
            have f0 := hown2.frozen (P / 8)
            have hor := or_bit' (bAt_lt (addUpto (fillUpto xss M S k) M h0 j) (P / 8)) (show P % 8 < 8 by omega)
            have HO := hid hor
            clear hor
            go_wp2
            go_roundw
            case rel => exact ⟨j + 1, by omega, by go_num, by rw [addUpto, ← HPP.out]; exact hown2.set (P / 8) _ HO.out, hB2.setCell (Nat.le_refl _) _⟩
            case measure => simp [intOf]; omega
          · obtain rfl : j = 6 := by omega
            go_wp2
            go_roundw
            case rel => exact ⟨k + 1, by omega, by go_num, by rw [HH0.out] at hown2; exact hown2, hB2⟩
            case measure => simp [intOf]; omega
      · obtain rfl : k = n := by omega
        go_wp2
        go_ret2
        exact ⟨_, rfl, hown, hB⟩
end Go.Proofs.Ytkkclkknpjapcaa
/-! ### Crc -/
namespace Go.Proofs.Ytkkclkknpjapcaa
set_option linter.unusedVariables false
set_option linter.unusedSimpArgs false

/-- One bit of the sum. -/
def crcR (s : Nat) : Nat := if s % 2 = 1 then (s / 2) ^^^ 2197175160 else s / 2
def crcRs : Nat → Nat → Nat
  | 0, s => s
  | n + 1, s => crcRs n (crcR s)
/-- One byte. -/
def crcStep (s x : Nat) : Nat := crcRs 8 (s ^^^ x)
def crcFold (s : Nat) (l : List UInt8) : Nat := l.foldl (fun s x => crcStep s x.toNat) s
def crcInv (s : Nat) : Nat := 4294967295 - s
def crcMore (s : Nat) (l : List UInt8) : Nat := crcInv (crcFold (crcInv s) l)

theorem crcR_lt {s : Nat} (h : s < 4294967296) : crcR s < 4294967296 := by
  unfold crcR
  split
  · exact Nat.xor_lt_two_pow (n := 32) (by omega) (by omega)
  · omega
theorem crcRs_lt (n : Nat) : ∀ {s : Nat}, s < 4294967296 → crcRs n s < 4294967296 := by
  induction n with
  | zero => intro s h; exact h
  | succ n ih => intro s h; exact ih (crcR_lt h)
theorem crcStep_lt {s x : Nat} (hs : s < 4294967296) (hx : x < 256) : crcStep s x < 4294967296 := crcRs_lt 8 (Nat.xor_lt_two_pow (n := 32) (by omega) (by omega))
theorem crcFold_lt (l : List UInt8) : ∀ {s : Nat}, s < 4294967296 → crcFold s l < 4294967296 := by
  induction l with
  | nil => intro s h; exact h
  | cons x l ih => intro s h; exact ih (crcStep_lt h x.toNat_lt)
theorem crcInv_lt (s : Nat) : crcInv s < 4294967296 := by unfold crcInv; omega
theorem crcInv_inv {s : Nat} (h : s < 4294967296) : crcInv (crcInv s) = s := by unfold crcInv; omega
theorem crcMore_lt (s : Nat) (l : List UInt8) : crcMore s l < 4294967296 := crcInv_lt _
theorem crcFold_append (s : Nat) (a b : List UInt8) : crcFold s (a ++ b) = crcFold (crcFold s a) b := by simp [crcFold, List.foldl_append]
theorem crcFold_snoc (s : Nat) (a : List UInt8) (x : UInt8) : crcFold s (a ++ [x]) = crcStep (crcFold s a) x.toNat := by simp [crcFold, List.foldl_append]
theorem crcMore_append (s : Nat) (a b : List UInt8) : crcMore s (a ++ b) = crcMore (crcMore s a) b := by
  unfold crcMore
  rw [crcFold_append, crcInv_inv (crcFold_lt a (crcInv_lt s))]
theorem crcMore_nil {s : Nat} (h : s < 4294967296) : crcMore s [] = s := crcInv_inv h

/-! ## Linear: over exclusive or -/
theorem xor_self4 (a b c d : Nat) : (a ^^^ b) ^^^ (c ^^^ d) = (a ^^^ c) ^^^ (b ^^^ d) := by
  rw [Nat.xor_assoc, Nat.xor_assoc, ← Nat.xor_assoc b c d, ← Nat.xor_assoc c b d, Nat.xor_comm b c]
theorem xor_half (a b : Nat) : (a ^^^ b) / 2 = a / 2 ^^^ b / 2 := by
  apply Nat.eq_of_testBit_eq
  intro i
  simp [Nat.testBit_div_two, Nat.testBit_xor]
theorem xor_mod2 (a b : Nat) : (a ^^^ b) % 2 = (a % 2 + b % 2) % 2 := by
  have h := @Nat.xor_mod_two_eq_one a b
  have h2 := Nat.mod_two_eq_zero_or_one (a ^^^ b)
  omega
theorem crcR_xor (a b : Nat) : crcR (a ^^^ b) = crcR a ^^^ crcR b := by
  unfold crcR
  rw [xor_half, xor_mod2]
  rcases Nat.mod_two_eq_zero_or_one a with ha | ha <;> rcases Nat.mod_two_eq_zero_or_one b with hb | hb <;> simp only [ha, hb]
  · simp
  · simp [Nat.xor_assoc]
  · simp only [Nat.reduceAdd, Nat.reduceMod, ↓reduceIte, Nat.zero_ne_one]
    rw [Nat.xor_assoc, Nat.xor_assoc, Nat.xor_comm (b / 2)]
  · simp only [Nat.reduceAdd, Nat.reduceMod, ↓reduceIte, Nat.zero_ne_one]
    rw [xor_self4, Nat.xor_self, Nat.xor_zero]
theorem crcRs_xor (n : Nat) : ∀ a b : Nat, crcRs n (a ^^^ b) = crcRs n a ^^^ crcRs n b := by
  induction n with
  | zero => intro a b; rfl
  | succ n ih => intro a b; show crcRs n _ = crcRs n _ ^^^ crcRs n _; rw [crcR_xor, ih]
theorem crcR_zero {s : Nat} (h : s < 4294967296) (h0 : crcR s = 0) : s = 0 := by
  unfold crcR at h0
  split at h0
  · exfalso
    have h1 : s / 2 = 2197175160 := by
      have := congrArg (· ^^^ 2197175160) h0
      simpa [Nat.xor_assoc] using this
    omega
  · omega
theorem crcRs_zero (n : Nat) : ∀ {s : Nat}, s < 4294967296 → crcRs n s = 0 → s = 0 := by
  induction n with
  | zero => intro s _ h; exact h
  | succ n ih => intro s hs h; exact crcR_zero hs (ih (crcR_lt hs) h)
theorem crcRs_of_zero (n : Nat) : crcRs n 0 = 0 := by
  induction n with
  | zero => rfl
  | succ n ih => exact ih
/-- Low bits that are 0 are shifted out. -/
theorem crcRs_shift (n : Nat) : ∀ y : Nat, crcRs n (y * 2 ^ n) = y := by
  induction n with
  | zero => intro y; show y * 1 = y; omega
  | succ n ih =>
    intro y
    show crcRs n (crcR (y * 2 ^ (n + 1))) = y
    have e : y * 2 ^ (n + 1) = (y * 2 ^ n) * 2 := by rw [Nat.pow_succ, Nat.mul_assoc]
    have : crcR (y * 2 ^ (n + 1)) = y * 2 ^ n := by
      unfold crcR
      rw [e, if_neg (by omega)]
      omega
    rw [this, ih]
theorem crcStep_xor (a b x y : Nat) : crcStep (a ^^^ b) (x ^^^ y) = crcStep a x ^^^ crcStep b y := by
  unfold crcStep
  rw [xor_self4, crcRs_xor]
theorem crcStep_zero {s : Nat} (h : s < 4294967296) (h0 : crcStep s 0 = 0) : s = 0 := by
  unfold crcStep at h0
  rw [Nat.xor_zero] at h0
  exact crcRs_zero 8 h h0
/-- The difference of two sums of bytes of one length. -/
def crcDiff (d : Nat) : List (UInt8 × UInt8) → Nat
  | [] => d
  | p :: l => crcDiff (crcStep d (p.1.toNat ^^^ p.2.toNat)) l
theorem crcFold_diff : ∀ (l : List (UInt8 × UInt8)) (s t : Nat), crcFold s (l.map (·.1)) ^^^ crcFold t (l.map (·.2)) = crcDiff (s ^^^ t) l := by
  intro l
  induction l with
  | nil => intro s t; rfl
  | cons p l ih =>
    intro s t
    show crcFold (crcStep s p.1.toNat) _ ^^^ crcFold (crcStep t p.2.toNat) _ = crcDiff (crcStep (s ^^^ t) (p.1.toNat ^^^ p.2.toNat)) l
    rw [ih, crcStep_xor]
theorem xor_eq_zero {a b : Nat} : a ^^^ b = 0 ↔ a = b := by
  constructor
  · intro h
    have := congrArg (· ^^^ b) h
    simpa [Nat.xor_assoc] using this
  · rintro rfl
    simp
theorem crcDiff_same : ∀ (l : List (UInt8 × UInt8)) {d : Nat}, (∀ p ∈ l, p.1 = p.2) → d < 4294967296 → (crcDiff d l = 0 ↔ d = 0) := by
  intro l
  induction l with
  | nil => intro d _ _; exact Iff.rfl
  | cons p l ih =>
    intro d h hd
    have hp : p.1.toNat ^^^ p.2.toNat = 0 := by rw [h p (by simp)]; simp
    show crcDiff (crcStep d (p.1.toNat ^^^ p.2.toNat)) l = 0 ↔ d = 0
    rw [hp, ih (fun q hq => h q (by simp [hq])) (crcStep_lt hd (by omega))]
    constructor
    · exact crcStep_zero hd
    · rintro rfl
      exact crcRs_of_zero 8
/-- Up to four bytes that follow one another, out of no difference: one number that has been shifted. -/
theorem crc_burst (x0 x1 x2 x3 : Nat) (h0 : x0 < 256) (h1 : x1 < 256) (h2 : x2 < 256) (h3 : x3 < 256) :
    crcStep (crcStep (crcStep (crcStep 0 x0) x1) x2) x3 = 0 ↔ x0 = 0 ∧ x1 = 0 ∧ x2 = 0 ∧ x3 = 0 := by
  have key : ∀ (d x : Nat), crcStep d x = crcRs 8 (d ^^^ x) := fun _ _ => rfl
  have push : ∀ x, x = crcRs 8 (x * 256) := fun x => (crcRs_shift 8 x).symm
  have e2 : crcStep (crcStep 0 x0) x1 = crcRs 8 (crcRs 8 (x0 ^^^ x1 * 256)) := by
    rw [key, key, Nat.zero_xor]
    conv => lhs; rw [push x1]
    rw [← crcRs_xor]
  have e3 : crcStep (crcRs 8 (crcRs 8 (x0 ^^^ x1 * 256))) x2 = crcRs 8 (crcRs 8 (crcRs 8 (x0 ^^^ x1 * 256 ^^^ x2 * 65536))) := by
    rw [key]
    conv => lhs; rw [push x2, push (x2 * 256)]
    rw [← crcRs_xor, ← crcRs_xor, Nat.mul_assoc]
  have e4 : crcStep (crcRs 8 (crcRs 8 (crcRs 8 (x0 ^^^ x1 * 256 ^^^ x2 * 65536)))) x3 = crcRs 8 (crcRs 8 (crcRs 8 (crcRs 8 (x0 ^^^ x1 * 256 ^^^ x2 * 65536 ^^^ x3 * 16777216)))) := by
    rw [key]
    conv => lhs; rw [push x3, push (x3 * 256), push (x3 * 256 * 256)]
    rw [← crcRs_xor, ← crcRs_xor, ← crcRs_xor, Nat.mul_assoc, Nat.mul_assoc]
  rw [e2, e3, e4]
  have join : x0 ^^^ x1 * 256 ^^^ x2 * 65536 ^^^ x3 * 16777216 = x0 + x1 * 256 + x2 * 65536 + x3 * 16777216 := by
    have j : ∀ (a b k : Nat), a < 2 ^ k → a ^^^ b * 2 ^ k = a + b * 2 ^ k := by
      intro a b k ha
      have hor : a ||| b * 2 ^ k = a + b * 2 ^ k := by
        rw [Nat.or_comm, Nat.mul_comm, Nat.add_comm]
        exact (Nat.two_pow_add_eq_or_of_lt ha b).symm
      rw [← hor]
      apply Nat.eq_of_testBit_eq
      intro i
      rw [Nat.testBit_xor, Nat.testBit_or]
      by_cases hi : i < k
      · rw [Nat.testBit_mul_two_pow, decide_eq_false (by omega)]
        simp
      · rw [Nat.testBit_lt_two_pow (x := a) (i := i) (Nat.lt_of_lt_of_le ha (Nat.pow_le_pow_right (by omega) (by omega)))]
        simp
    rw [j x0 x1 8 (by omega)]
    rw [j (x0 + x1 * 2 ^ 8) x2 16 (by omega)]
    rw [j (x0 + x1 * 2 ^ 8 + x2 * 2 ^ 16) x3 24 (by omega)]
  rw [join]
  constructor
  · intro h
    have hlt : x0 + x1 * 256 + x2 * 65536 + x3 * 16777216 < 4294967296 := by omega
    have := crcRs_zero 8 hlt (crcRs_zero 8 (crcRs_lt 8 hlt) (crcRs_zero 8 (crcRs_lt 8 (crcRs_lt 8 hlt)) (crcRs_zero 8 (crcRs_lt 8 (crcRs_lt 8 (crcRs_lt 8 hlt))) h)))
    omega
  · rintro ⟨rfl, rfl, rfl, rfl⟩
    simp [crcRs_of_zero]
/-- Bytes that are unlike others in at most four places side by side have another sum. -/
theorem crc_tells {s : Nat} (hs : s < 4294967296) (pre : List UInt8) (mid : List (UInt8 × UInt8)) (post : List UInt8) (hm : mid.length ≤ 4) :
    crcMore s (pre ++ mid.map (·.1) ++ post) = crcMore s (pre ++ mid.map (·.2) ++ post) ↔ mid.map (·.1) = mid.map (·.2) := by
  refine ⟨fun h => ?_, fun h => by rw [h]⟩
  have h1 : crcFold (crcInv s) (pre ++ mid.map (·.1) ++ post) = crcFold (crcInv s) (pre ++ mid.map (·.2) ++ post) := by
    have a := crcFold_lt (pre ++ mid.map (·.1) ++ post) (crcInv_lt s)
    have b := crcFold_lt (pre ++ mid.map (·.2) ++ post) (crcInv_lt s)
    unfold crcMore at h
    have := congrArg crcInv h
    rwa [crcInv_inv a, crcInv_inv b] at this
  rw [crcFold_append, crcFold_append, crcFold_append, crcFold_append] at h1
  generalize crcFold (crcInv s) pre = t at h1
  have h2 := xor_eq_zero.2 h1
  have hpost : post = (post.map fun x => (x, x)).map (·.1) := by simp [Function.comp_def]
  have hpost2 : post = (post.map fun x => (x, x)).map (·.2) := by simp [Function.comp_def]
  have hlt : ∀ (l : List (UInt8 × UInt8)) {d : Nat}, d < 4294967296 → crcDiff d l < 4294967296 := by
    intro l
    induction l with
    | nil => intro d h; exact h
    | cons p l ih =>
      intro d h
      exact ih (crcStep_lt h (Nat.xor_lt_two_pow (n := 8) p.1.toNat_lt p.2.toNat_lt))
  have h3 : crcDiff (crcFold t (mid.map (·.1)) ^^^ crcFold t (mid.map (·.2))) (post.map fun x => (x, x)) = 0 := by
    rw [← crcFold_diff]
    rw [← hpost, ← hpost2]
    exact h2
  rw [crcFold_diff, Nat.xor_self] at h3
  have h4 := (crcDiff_same _ (by intro p hp; simp only [List.mem_map] at hp; obtain ⟨x, _, rfl⟩ := hp; rfl) (hlt mid (by omega))).1 h3
  have hx : ∀ p : UInt8 × UInt8, p.1.toNat ^^^ p.2.toNat < 256 := fun p => Nat.xor_lt_two_pow (n := 8) p.1.toNat_lt p.2.toNat_lt
  have hz : ∀ p : UInt8 × UInt8, p.1.toNat ^^^ p.2.toNat = 0 → p.1 = p.2 := fun p h => UInt8.toNat_inj.1 (xor_eq_zero.1 h)
  have fill : ∀ d, d < 4294967296 → (d = 0 ↔ crcStep d 0 = 0) := fun d hd => ⟨by rintro rfl; exact crcRs_of_zero 8, crcStep_zero hd⟩
  have s1 : ∀ {d : Nat} (p : UInt8 × UInt8), d < 4294967296 → crcStep d (p.1.toNat ^^^ p.2.toNat) < 4294967296 := fun p h => crcStep_lt h (hx p)
  match mid, hm, h4 with
  | [], _, _ => rfl
  | [a], _, h =>
    have h : crcStep 0 (a.1.toNat ^^^ a.2.toNat) = 0 := h
    have l1 := s1 a (d := 0) (by omega)
    rw [fill _ l1, fill _ (crcStep_lt l1 (by omega)), fill _ (crcStep_lt (crcStep_lt l1 (by omega)) (by omega))] at h
    have := (crc_burst _ 0 0 0 (hx a) (by omega) (by omega) (by omega)).1 h
    simp [hz a this.1]
  | [a, b], _, h =>
    have h : crcStep (crcStep 0 (a.1.toNat ^^^ a.2.toNat)) (b.1.toNat ^^^ b.2.toNat) = 0 := h
    have l2 := s1 b (s1 a (d := 0) (by omega))
    rw [fill _ l2, fill _ (crcStep_lt l2 (by omega))] at h
    have := (crc_burst _ _ 0 0 (hx a) (hx b) (by omega) (by omega)).1 h
    simp [hz a this.1, hz b this.2.1]
  | [a, b, c], _, h =>
    have h : crcStep (crcStep (crcStep 0 (a.1.toNat ^^^ a.2.toNat)) (b.1.toNat ^^^ b.2.toNat)) (c.1.toNat ^^^ c.2.toNat) = 0 := h
    have l3 := s1 c (s1 b (s1 a (d := 0) (by omega)))
    rw [fill _ l3] at h
    have := (crc_burst _ _ _ 0 (hx a) (hx b) (hx c) (by omega)).1 h
    simp [hz a this.1, hz b this.2.1, hz c this.2.2.1]
  | [a, b, c, d], _, h =>
    have := (crc_burst _ _ _ _ (hx a) (hx b) (hx c) (hx d)).1 h
    simp [hz a this.1, hz b this.2.1, hz c this.2.2.1, hz d this.2.2.2]
  | _ :: _ :: _ :: _ :: _ :: l, h, _ => simp at h
/-! ## Masks -/
def crcMask (s : Nat) : Nat := (s / 32768 + (s % 32768) * 131072 + 2726488792) % 4294967296
def crcUnmask (s : Nat) : Nat := ((s + 1568478504) % 4294967296 % 131072) * 32768 + (s + 1568478504) % 4294967296 / 131072
theorem crcMask_lt (s : Nat) : crcMask s < 4294967296 := Nat.mod_lt _ (by omega)
theorem crcUnmask_lt (s : Nat) : crcUnmask s < 4294967296 := by unfold crcUnmask; omega
theorem unplus {v : Nat} (h : v < 4294967296) : ((v + 2726488792) % 4294967296 + 1568478504) % 4294967296 = v := by omega
theorem plusun {v : Nat} (h : v < 4294967296) : ((v + 1568478504) % 4294967296 + 2726488792) % 4294967296 = v := by omega
theorem crcUnmask_mask {s : Nat} (h : s < 4294967296) : crcUnmask (crcMask s) = s := by
  unfold crcUnmask crcMask
  have hq : s / 32768 < 131072 := by omega
  rw [unplus (v := s / 32768 + s % 32768 * 131072) (by omega), Nat.add_mul_mod_self_right, Nat.add_mul_div_right _ _ (by omega), Nat.mod_eq_of_lt hq, Nat.div_eq_of_lt hq]
  omega
theorem crcMask_unmask {s : Nat} (h : s < 4294967296) : crcMask (crcUnmask s) = s := by
  unfold crcUnmask crcMask
  generalize hv : (s + 1568478504) % 4294967296 = v
  have hv' : v < 4294967296 := by omega
  have hr : v / 131072 < 32768 := by omega
  rw [Nat.add_comm (v % 131072 * 32768), Nat.add_mul_mod_self_right, Nat.add_mul_div_right _ _ (by omega), Nat.mod_eq_of_lt hr, Nat.div_eq_of_lt hr]
  rw [show 0 + v % 131072 + v / 131072 * 131072 = v from by omega, ← hv]
  exact plusun h
theorem or_low (a b k : Nat) (ha : a < 2 ^ k) : b * 2 ^ k ||| a = b * 2 ^ k + a := by
  rw [Nat.mul_comm]
  exact (Nat.two_pow_add_eq_or_of_lt ha b).symm
end Go.Proofs.Ytkkclkknpjapcaa
