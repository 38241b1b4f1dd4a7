/- Shared texts, part S18: BkF, Bl, BlP, BlQ, BlR, BlS. -/
import Derived.Laws.Rows
import Derived.Laws.Tables
import Derived.Test.YtkkclkknpjapcaaDoorS17
import Derived.Test.YtkkclkknpjapcaaDoorS02
import Derived.Test.YtkkclkknpjapcaaDoorS15
import Derived.Test.YtkkclkknpjapcaaDoorS03
import Derived.Test.YtkkclkknpjapcaaDoorS04
/-! ### BkF -/
namespace Go.Proofs.YtkkclkknpjapcaaDoor
open Go.RowKit
set_option linter.unusedVariables false
set_option linter.unusedSimpArgs false

/-- What Encode answers. -/
def BkC (es : List EntR) (E : Nat) : Prop :=
  ((es.length = 0 ∨ 400 < es.length) ∧ E = 13) ∨ ((1 ≤ es.length ∧ es.length ≤ 400) ∧ ¬ AllM es ∧ E = 1) ∨ ((1 ≤ es.length ∧ es.length ≤ 400) ∧ AllM es ∧ ¬ Srt es ∧ E = 11) ∨ (FitK es ∧ E = 0)
theorem BkC.unique {es : List EntR} {a b : Nat} (h : BkC es a) (k : BkC es b) : a = b := by
  rcases h with ⟨h1, rfl⟩ | ⟨h1, h2, rfl⟩ | ⟨h1, h2, h3, rfl⟩ | ⟨⟨h0, h1, h2, h3⟩, rfl⟩ <;> rcases k with ⟨k1, rfl⟩ | ⟨k1, k2, rfl⟩ | ⟨k1, k2, k3, rfl⟩ | ⟨⟨k0, k1, k2, k3⟩, rfl⟩ <;> first | rfl | omega | (exact absurd h2 k2) | (exact absurd k2 h2) | (exact absurd k3 h3) | (exact absurd h3 k3)
theorem BkC.bad {es : List EntR} (h : ¬ FitK es) {E : Nat} (hE : BkC es E) : E ≠ 0 := by
  rcases hE with ⟨h1, rfl⟩ | ⟨h1, h2, rfl⟩ | ⟨h1, h2, h3, rfl⟩ | ⟨h1, rfl⟩
  · omega
  · omega
  · omega
  · exact absurd h1 h
theorem bk_cases (es : List EntR) : (es.length = 0 ∨ 400 < es.length) ∨ ((1 ≤ es.length ∧ es.length ≤ 400) ∧ ¬ AllM es) ∨ ((1 ≤ es.length ∧ es.length ≤ 400) ∧ AllM es ∧ ¬ Srt es) ∨ FitK es := by
  by_cases h1 : es.length = 0 ∨ 400 < es.length
  · exact .inl h1
  · by_cases h2 : AllM es
    · by_cases h3 : Srt es
      · exact .inr (.inr (.inr ⟨by omega, by omega, h2, h3⟩))
      · exact .inr (.inr (.inl ⟨by omega, h2, h3⟩))
    · exact .inr (.inl ⟨by omega, h2⟩)
def EncBad (w w' : World) (E : Int) (r : Ending) : Prop := r = .returned (.tuple #[.slice none 0 0, .int .i64 E]) ∧ Below w.heap.size w w'
set_option maxHeartbeats 8000000 in
theorem encode_none (A : Option Addr) (n c : Nat) (es : List EntR) (w : World) (h : REnts w A n es) (hn : n = 0 ∨ 400 < n) :
    Calls Tryd.prog 29 #[.slice A n c] w fun r w' => EncBad w w' 13 r := by
  clear h
  rcases hn with rfl | hn
  · go_enter Tryd.func29, Tryd.ntmps29
    go_wp2
    go_ret2
    exact ⟨rfl, Below.refl _ _⟩
  · have hn0 : ((n : Int) == 0) = false := by rw [beq_eq_false_iff_ne]; omega
    have hn4 : decide ((400 : Int) < (n : Int)) = true := decide_eq_true (by omega)
    go_enter Tryd.func29, Tryd.ntmps29
    go_wp2
    go_ret2
    exact ⟨rfl, Below.refl _ _⟩
set_option maxHeartbeats 16000000 in
set_option maxRecDepth 100000 in
theorem encode_bad (A : Option Addr) (n c : Nat) (es : List EntR) (w : World) (h : REnts w A n es) (hn : 1 ≤ n ∧ n ≤ 400) (E : Nat) (hE : (¬ AllM es ∧ E = 1) ∨ (AllM es ∧ ¬ Srt es ∧ E = 11)) :
    Calls Tryd.prog 29 #[.slice A n c] w fun r w' => EncBad w w' E r := by
  have hl := h.1
  have hmax := h.2.1
  have hn0 : ((n : Int) == 0) = false := by rw [beq_eq_false_iff_ne]; omega
  have hn4 : decide ((400 : Int) < (n : Int)) = false := decide_eq_false (by omega)
  have H := hid h
  have HE := hid hE
  have HAll : Hid ((∀ j, j < n → mayE (elt noEnt es j) = true) → AllM es) := hid (fun hh j hj => hh j (by omega))
  have HNot : Hid (∀ k, k < n → mayE (elt noEnt es k) = false → ¬ AllM es) := hid (fun k hk hf ha => by rw [ha k (by omega)] at hf; cases hf)
  clear h hl hE hn
  go_enter Tryd.func29, Tryd.ntmps29
  go_wp2
  go_loopw [23] (fun i wr => ∃ k : Nat, k ≤ n ∧ i = .int .i64 k ∧ (∀ j, j < k → mayE (elt noEnt es j) = true) ∧ Below w.heap.size w wr) (fun i wr => n - (intOf i).toNat)
  case atStart => exact ⟨0, Nat.zero_le _, rfl, fun j hj => absurd hj (by omega), Below.refl _ _⟩
  case round =>
    obtain ⟨k, hk, rfl, hall, hB⟩ := hrel
    have HA := hid hall
    clear hall
    by_cases hlt : k < n
    · obtain ⟨ad, rfl, hen⟩ := H.out.at_ hlt
      obtain ⟨Ak, nk, ck, Av, nv, cv, a0, a1, a2, a3, a4, a5, a6, a7, a8⟩ := hen.below hB
      have hkl := a5.max
      have hvl := a6.max
      have e5 := a5.1
      have e6 := a6.1
      have HNk := hid (HNot.out k hlt)
      have HA2 : Hid (mayE (elt noEnt es k) = true → ∀ j, j < k + 1 → mayE (elt noEnt es j) = true) := by
        intro h j hj
        rcases Nat.lt_succ_iff_lt_or_eq.1 hj with h1 | h1
        · exact HA.out j h1
        · rw [h1]; exact h
      obtain ⟨M, hM⟩ : ∃ M, mayE (elt noEnt es k) = M := ⟨_, rfl⟩
      rw [hM] at HNk HA2
      generalize elt noEnt es k = x at *
      have hmN : mayN nk (eSeq x) (eGone x) (eTil x) nv = M := by rw [← e5, ← e6]; exact hM
      have HmN := hid hmN
      clear hen a5 a6 hM hmN e5 e6
      cases M
      · have HE1 : Hid (E = 1) := hid (HE.out.elim (fun h => h.2) (fun h => absurd h.1 (HNk.out rfl)))
        go_wp2_with (go_at_call 49; (with_reducible refine (bkmay_any Ak nk ck (eSeq x) (eGone x) (eTil x) Av nv cv _ hkl hvl).mono ?_); rintro r w1 ⟨rfl, hb1⟩; rw [HmN.out])
        go_ret2
        rw [HE1.out]
        exact ⟨rfl, below_then (below_alloc' hB _) hb1⟩
      · go_wp2_with (go_at_call 49; (with_reducible refine (bkmay_any Ak nk ck (eSeq x) (eGone x) (eTil x) Av nv cv _ hkl hvl).mono ?_); rintro r w1 ⟨rfl, hb1⟩; rw [HmN.out])
        go_roundw
        case rel => exact ⟨k + 1, by omega, by go_num, HA2.out (by first | rfl | trivial), below_then (below_alloc' hB _) hb1⟩
        case measure => simp [intOf]; omega
    · obtain rfl : k = n := by omega
      obtain ⟨hs, hE11⟩ : ¬ Srt es ∧ E = 11 := by
        rcases HE.out with h | h
        · exact absurd (HAll.out HA.out) h.1
        · exact h.2
      have HSr := hid (srtB_false hs)
      have HE1 := hid hE11
      clear hs hE11
      go_wp2_with (go_at_call 48; (with_reducible refine (bkordered_any A k c es _ (H.out.below hB)).mono ?_); rintro r w1 ⟨rfl, hb1⟩; rw [HSr.out]; have hB1 := below_then hB hb1)
      go_ret2
      rw [HE1.out]
      exact ⟨rfl, hB1⟩
/-- All that Encode answers. -/
def EncC (w w' : World) (es : List EntR) (r : Ending) : Prop := ∃ (E : Nat) (v : Value), r = .returned (.tuple #[v, .int .i64 (E : Int)]) ∧ BkC es E ∧ OB w' w.heap.size v (if E = 0 then encK es else []) ∧ Below w.heap.size w w'
theorem encode_any (A : Option Addr) (n c : Nat) (es : List EntR) (w : World) (h : REnts w A n es) :
    Calls Tryd.prog 29 #[.slice A n c] w fun r w' => EncC w w' es r := by
  have hl := h.1
  rcases bk_cases es with hc | ⟨h1, h2⟩ | ⟨h1, h2, h3⟩ | hc
  · refine (encode_none A n c es w h (by omega)).mono ?_
    rintro r w' ⟨rfl, hb⟩
    exact ⟨13, _, rfl, .inl ⟨hc, rfl⟩, OB.nil _ _, hb⟩
  · refine (encode_bad A n c es w h (by omega) 1 (.inl ⟨h2, rfl⟩)).mono ?_
    rintro r w' ⟨rfl, hb⟩
    exact ⟨1, _, rfl, .inr (.inl ⟨h1, h2, rfl⟩), OB.nil _ _, hb⟩
  · refine (encode_bad A n c es w h (by omega) 11 (.inr ⟨h2, h3, rfl⟩)).mono ?_
    rintro r w' ⟨rfl, hb⟩
    exact ⟨11, _, rfl, .inr (.inr (.inl ⟨h1, h2, h3, rfl⟩)), OB.nil _ _, hb⟩
  · refine (encode_fit A n c es w h hc).mono ?_
    rintro r w' ⟨v, rfl, ho, hb⟩
    exact ⟨0, v, rfl, .inr (.inr (.inr ⟨hc, rfl⟩)), ho, hb⟩
end Go.Proofs.YtkkclkknpjapcaaDoor
/-! ### Bl -/
namespace Go.Proofs.YtkkclkknpjapcaaDoor
open Go.RowKit
set_option linter.unusedVariables false
set_option linter.unusedSimpArgs false

def hStep (h x : Nat) : Nat := (h ^^^ x) * 1099511628211 % 18446744073709551616
def hashN (xs : List UInt8) : Nat := xs.foldl (fun h x => hStep h x.toNat) 14695981039346656037
theorem hStep_lt (h x : Nat) : hStep h x < 18446744073709551616 := by unfold hStep; exact Nat.mod_lt _ (by decide)
theorem foldH_lt (l : List UInt8) : ∀ a : Nat, a < 18446744073709551616 → l.foldl (fun h x => hStep h x.toNat) a < 18446744073709551616 := by
  induction l with
  | nil => intro a h; exact h
  | cons x l ih => intro a _; rw [List.foldl_cons]; exact ih _ (hStep_lt _ _)
theorem hashN_lt (xs : List UInt8) : hashN xs < 18446744073709551616 := by
  unfold hashN
  exact foldH_lt xs _ (by decide)
theorem hashN_snoc (xs : List UInt8) (x : UInt8) : hashN (xs ++ [x]) = hStep (hashN xs) x.toNat := by
  unfold hashN
  rw [List.foldl_append, List.foldl_cons, List.foldl_nil]
theorem u64_inB (a : Nat) (h : a < 18446744073709551616) : IntKind.u64.wrap (a : Int) = a := by rw [IntKind.wrap_u64]; omega
theorem ofInt_u64B (a : Nat) (h : a < 18446744073709551616) : (BitVec.ofInt 64 (a : Int)).toNat = a := by
  rw [BitVec.toNat_ofInt]
  omega
theorem u64_xor_natB (a b : Nat) (ha : a < 18446744073709551616) (hb : b < 18446744073709551616) : bits .xor .u64 (a : Int) (b : Int) = ((a ^^^ b : Nat) : Int) := by
  have hx : a ^^^ b < 2 ^ 64 := Nat.xor_lt_two_pow (by omega) (by omega)
  show IntKind.u64.wrap ((BitVec.ofInt 64 (a : Int) ^^^ BitVec.ofInt 64 (b : Int)).toNat : Int) = _
  rw [BitVec.toNat_xor, ofInt_u64B a (by omega), ofInt_u64B b (by omega)]
  exact u64_inB _ (by omega)
theorem ret_u64 {a b : Int} (h : a = b) : Ending.returned (.int .u64 a) = .returned (.int .u64 b) := by rw [h]
theorem h_step {h x : Nat} (hh : h < 18446744073709551616) (hx : x < 256) : ∃ y : Nat, bits .xor .u64 (h : Int) (x : Int) = (y : Int) ∧ IntKind.u64.wrap ((y : Int) * 1099511628211) = (hStep h x : Int) := by
  refine ⟨h ^^^ x, u64_xor_natB h x hh (by omega), ?_⟩
  rw [IntKind.wrap_u64]
  unfold hStep
  omega

theorem hash_any (A : Option Addr) (n c : Nat) (xs : List UInt8) (w : World) (h : RB w A n xs) :
    Calls Tryd.prog 64 #[.slice A n c] w fun e w' => e = .returned (.int .u64 (hashN xs : Nat)) ∧ w = w' := by
  have hl := h.len
  have hm := h.max
  go_enter Tryd.func64, Tryd.ntmps64
  go_wp2
  go_loop [3, 8] (fun t i => ∃ k : Nat, k ≤ n ∧ i = .int .i64 k ∧ t = .int .u64 (hashN (xs.take k) : Nat)) (fun _ i => n - (intOf i).toNat)
  case atStart => exact ⟨0, Nat.zero_le _, rfl, rfl⟩
  case round =>
    obtain ⟨k, hk, rfl, rfl⟩ := hrel
    have hf := hashN_lt (xs.take k)
    by_cases hlt : k < n
    · obtain ⟨ad, rfl, hc⟩ := h.at_ hlt
      have hb := bAt_lt xs k
      obtain ⟨y, hx, hm2⟩ := h_step hf hb
      have hb8 := u64_inB (bAt xs k) (by omega)
      have HS := hid (show hStep (hashN (xs.take k)) (bAt xs k) = hashN (xs.take (k + 1)) by rw [List.take_succ_eq_append_getElem (by omega), hashN_snoc, bAt_get (by omega)])
      rw [HS.out] at hm2
      go_wp2
      go_round
      case rel => exact ⟨k + 1, by omega, by go_num, rfl⟩
      case measure => simp [intOf]; omega
    · go_wp2
      go_ret
      refine ⟨ret_u64 ?_, rfl⟩
      rw [List.take_of_length_le (by omega)]
theorem known_hash : hashN [] = 14695981039346656037 := rfl
end Go.Proofs.YtkkclkknpjapcaaDoor
/-! ### BlP -/
namespace Go.Proofs.YtkkclkknpjapcaaDoor
open Go.RowKit
set_option linter.unusedVariables false
set_option linter.unusedSimpArgs false

def stepN (h : Nat) : Nat := h / 8589934592 * 2 + 1
def hAt (h j : Nat) : Nat := (h + j * stepN h) % 18446744073709551616
def place (h m j : Nat) : Nat := hAt h j % m
def cells6 (h m j : Nat) : Array Value := Array.ofFn (n := 6) fun i => .int .u64 ((if i.val < j then place h m i.val else 0 : Nat) : Int)
theorem hAt_next {h j : Nat} (hh : h < 18446744073709551616) : IntKind.u64.wrap ((hAt h j : Int) + (stepN h : Int)) = (hAt h (j + 1) : Int) := by
  rw [IntKind.wrap_u64]
  unfold hAt
  rw [Nat.add_mul, Nat.one_mul]
  generalize stepN h = s
  generalize j * s = t
  omega
theorem hAt_zero {h : Nat} (hh : h < 18446744073709551616) : hAt h 0 = h := by
  unfold hAt
  rw [Nat.zero_mul, Nat.add_zero, Nat.mod_eq_of_lt hh]
theorem hAt_lt (h j : Nat) : hAt h j < 18446744073709551616 := by unfold hAt; exact Nat.mod_lt _ (by decide)
theorem cells6_next {h m j : Nat} : (cells6 h m j).setIfInBounds j (.int .u64 (place h m j : Nat)) = cells6 h m (j + 1) := by
  apply Array.ext_getElem?
  intro i
  unfold cells6
  rw [Array.getElem?_setIfInBounds]
  simp only [Array.size_ofFn, Array.getElem?_ofFn]
  by_cases hij : j = i
  · subst hij
    by_cases h6 : j < 6 <;> simp [h6]
  · rw [if_neg hij]
    by_cases h6 : i < 6
    · simp only [h6, ↓reduceDIte]
      by_cases h7 : i < j
      · rw [if_pos h7, if_pos (by omega)]
      · rw [if_neg h7, if_neg (by omega)]
    · simp [h6]
theorem cells6_size (h m j : Nat) : (cells6 h m j).size = 6 := by simp [cells6]
theorem cells6_next' {h m j : Nat} : (cells6 h m j).setIfInBounds j (.int .u64 ((hAt h j : Int) % (m : Int))) = cells6 h m (j + 1) := cells6_next
theorem cells6_get {h m j i : Nat} (hi : i < 6) : (cells6 h m j)[i]? = some (.int .u64 ((if i < j then place h m i else 0 : Nat) : Int)) := by
  unfold cells6
  rw [Array.getElem?_ofFn]
  simp [hi]
theorem cells6_one (h m j : Nat) : (cells6 h m j).all (·.oneCell') = true := by
  rw [Array.all_eq_true]
  intro i hi
  have e := cells6_get (h := h) (m := m) (j := j) (i := i) (by rw [← cells6_size h m j]; exact hi)
  rw [Array.getElem?_eq_getElem hi] at e
  rw [Option.some.inj e]
  rfl
theorem stepN_int (H : Nat) : ((stepN H : Nat) : Int) = (H : Int) / 8589934592 * 2 + 1 := by
  unfold stepN
  rw [Int.natCast_add, Int.natCast_mul, Int.natCast_ediv]
  rfl
theorem cells6_zero (h m : Nat) : cells6 h m 0 = #[.int .u64 0, .int .u64 0, .int .u64 0, .int .u64 0, .int .u64 0, .int .u64 0] := by unfold cells6; rfl
theorem below_setRow {B : Nat} {a w : World} (h : Below B a w) {g : Nat} (hg : B ≤ g) (cs : Array Value) : Below B a (w.setRow g cs) :=
  h.trans ⟨rfl, rfl, rfl, by simp, fun k hk => by
    unfold World.setRow
    simp only [Array.getElem?_modify]
    rw [if_neg (by omega)]⟩
theorem arr6 : (Tryd.prog.info? 94).map (·.size) = some 6 := by kernel_rfl
set_option maxHeartbeats 8000000 in
set_option maxRecDepth 100000 in
theorem places_any (A : Option Addr) (n c : Nat) (xs : List UInt8) (m : Nat) (w : World) (h : RB w A n xs) (hm0 : 0 < m) (hm : m < 18446744073709551616) :
    Calls Tryd.prog 53 #[.slice A n c, .int .u64 (m : Int)] w fun e w' => e = .returned (.agg (cells6 (hashN xs) m 6)) ∧ Below w.heap.size w w' := by
  have hh := hashN_lt xs
  obtain ⟨H, hH⟩ : ∃ H, H = hashN xs := ⟨_, rfl⟩
  rw [← hH] at hh ⊢
  have HH := hid hH
  clear hH
  go_enter Tryd.func53, Tryd.ntmps53
  go_wp2
  refine wp_scope_ghost 0 (fun k a' w' => ∃ (j : Nat) (x6 x7 u9 u10 u11 u12 u13 u14 u15 u16 u17 u18 u19 u20 u21 u22 u23 u24 u25 u26 u27 : Value), a' = { tmps := #[.slice A n c, .int .u64 m, undef, undef, .pointer (some ⟨w.heap.size, 0, none⟩), .pointer (some ⟨w.heap.size + 1, 0, none⟩), x6, x7, .int .i64 (j : Nat), u9, u10, u11, u12, u13, u14, u15, u16, u17, u18, u19, u20, u21, u22, u23, u24, u25, u26, u27], defers := [] } ∧ x6 = .int .u64 (hAt H j : Nat) ∧ x7 = .int .u64 (stepN H : Nat) ∧ j < 6 ∧ k = 6 - j ∧ Below w.heap.size w w' ∧ w'.heap[w.heap.size]? = some (.cells (cells6 H m 0) 94 (0, 0)) ∧ w'.heap[w.heap.size + 1]? = some (.cells (cells6 H m j) 94 (0, 0))) rfl ?_ ?_
  · rintro k a' w' ⟨j, x6, x7, u9, u10, u11, u12, u13, u14, u15, u16, u17, u18, u19, u20, u21, u22, u23, u24, u25, u26, u27, rfl, rfl, rfl, hj, rfl, hB, hr0, hr1⟩
    have k0 : w'.cell? ⟨w.heap.size + 1, j, none⟩ = some (.int .u64 ((if j < j then place H m j else 0 : Nat) : Int)) := by
      rw [cell_of_row _ _ _ _ _ _ hr1]
      exact cells6_get hj
    have f0 := frozen_of_row w' (w.heap.size + 1) j _ _ hr1
    have hn := hAt_next (j := j) hh
    have hs1 := heap_setCell_same w' (w.heap.size + 1) j _ _ (.int .u64 ((hAt H j : Int) % (m : Int))) hr1
    rw [cells6_next'] at hs1
    have hs0 := (heap_setCell_other w' ⟨w.heap.size + 1, j, none⟩ w.heap.size (.int .u64 ((hAt H j : Int) % (m : Int))) (by simp)).trans hr0
    have hB2 := hB.setCell (p := ⟨w.heap.size + 1, j, none⟩) (by simp) (.int .u64 ((hAt H j : Int) % (m : Int)))
    obtain ⟨W2, hW2⟩ : ∃ W, W = w'.setCell ⟨w.heap.size + 1, j, none⟩ (.int .u64 ((hAt H j : Int) % (m : Int))) := ⟨_, rfl⟩
    rw [← hW2] at hs1 hs0 hB2
    have HW2 := hid hW2
    have HS1 := hid hs1
    have HS0 := hid hs0
    clear hW2 hs1 hs0 hr0 hr1
    by_cases hl : j + 1 < 6
    · go_wp2
      rw [← HW2.out]
      refine wp_goto_k (Jumped.mk (6 - (j + 1)) (by omega) ⟨j + 1, _, _, _, _, _, _, _, _, _, _, _, _, _, _, _, _, _, _, _, _, _, rfl, rfl, rfl, hl, rfl, hB2, HS0.out, HS1.out⟩)
    · have hj6 : j + 1 = 6 := by omega
      have HJ := hid hj6
      clear hj6
      go_wp2_with (first
        | (rw [← HW2.out]; refine wpList_load_row rfl 94 (.tmp 5) rfl (w.heap.size + 1) rfl 94 (cells6 H m (j + 1)) (0, 0) _ HS1.out Tryd.underlying94 rfl (by rw [cells6_size]; exact arr6) ?_)
        | (refine wpList_store_row rfl 94 (.tmp 4) (.tmp 27) rfl w.heap.size (cells6 H m (j + 1)) rfl rfl 94 (cells6 H m 0) HS0.out (by rw [cells6_size]; exact arr6) (by rw [cells6_size, cells6_size]) (cells6_one _ _ _) ?_))
      simp only [Exit.jump]
      refine bodyPost_ret (v := .agg (cells6 H m (j + 1))) (results_cell_row rfl _ _ w.heap.size 94 _ (0, 0) _ rfl (setRow_heap _ _ _ _ _ _ HS0.out) Tryd.underlying94 rfl (by rw [cells6_size]; exact arr6)) rfl ⟨by rw [HJ.out], below_setRow hB2 (Nat.le_refl _) _⟩
  · intro hpass
    go_wp2_with (go_at_call 64; (with_reducible refine (hash_any A n c xs _ ((h.alloc _).alloc _)).mono ?_); rintro e w' ⟨rfl, rfl⟩; rw [← HH.out])
    refine wp_label_k (by assumption) (hpass 6 _ _ ?_)
    refine ⟨0, _, _, _, _, _, _, _, _, _, _, _, _, _, _, _, _, _, _, _, _, _, rfl, ?_, ?_, by omega, rfl, ((Below.refl _ _).alloc (Nat.le_refl _) _).alloc (by simp) _, ?_, ?_⟩
    · rw [hAt_zero hh]
    · rw [stepN_int]
    · rw [cells6_zero]; exact heap_alloc2_old _ _ _
    · rw [cells6_zero]; exact heap_alloc2_new _ _ _
end Go.Proofs.YtkkclkknpjapcaaDoor
/-! ### BlQ -/
namespace Go.Proofs.YtkkclkknpjapcaaDoor
open Go.RowKit
set_option linter.unusedVariables false
set_option linter.unusedSimpArgs false

def probesI (h m k : Nat) : List Int := (List.range k).map fun i => (place h m i : Int)
theorem probesI_next (h m k : Nat) : probesI h m k ++ [(place h m k : Int)] = probesI h m (k + 1) := by
  unfold probesI
  rw [List.range_succ, List.map_append]
  rfl
theorem probesI_len (h m k : Nat) : (probesI h m k).length = k := by simp [probesI]
theorem probesI_at {h m k j : Nat} (hj : j < k) : elt 0 (probesI h m k) j = (place h m j : Int) := by
  unfold elt probesI
  simp [hj]
theorem place_lt {h m : Nat} (j : Nat) (hm : 0 < m) : place h m j < m := Nat.mod_lt _ hm
theorem run_index6 {h m k : Nat} (hk : k < 6) (w : World) : (Instr.index 94 (.agg (cells6 h m 6)) (.int .i64 (k : Int))).run Tryd.prog w = .ok (.int .u64 (place h m k : Int)) w := by
  have hp := cells6_get (h := h) (m := m) (j := 6) hk
  rw [if_pos hk] at hp
  have hu := run_underlying Tryd.underlying94 w
  have hu2 := run_underlying Tryd.underlying64 w
  unfold Instr.index
  simp [Sem.run_bind, asIntOf, hu, hk]
  unfold part
  simp [Sem.run_bind, isAgg, hu2, hp]
def probesL (xs : List UInt8) (z : Int) : List Int := if z < 1 then [] else probesI (hashN xs) z.toNat 6

theorem or1_even {y : Nat} (h : y % 2 = 0) (hy : y < 18446744073709551616) : bits .or .u64 (y : Int) 1 = ((y + 1 : Nat) : Int) := by
  have e : bits .or .u64 (y : Int) ((1 : Nat) : Int) = ((y ||| 1 : Nat) : Int) := by
    have hx : y ||| 1 < 2 ^ 64 := Nat.or_lt_two_pow (by omega) (by omega)
    show IntKind.u64.wrap ((BitVec.ofInt 64 (y : Int) ||| BitVec.ofInt 64 ((1 : Nat) : Int)).toNat : Int) = _
    rw [BitVec.toNat_or, ofInt_u64B y (by omega), ofInt_u64B 1 (by omega)]
    exact u64_inB _ (by omega)
  have e2 : y ||| 1 = y + 1 := by
    have := Nat.two_pow_add_eq_or_of_lt (i := 1) (b := 1) (by omega) (y / 2)
    rw [show 2 ^ 1 * (y / 2) = y from by omega] at this
    exact this.symm
  rw [e2] at e
  exact e
end Go.Proofs.YtkkclkknpjapcaaDoor
/-! ### BlR -/
namespace Go.Proofs.YtkkclkknpjapcaaDoor
open Go.RowKit
set_option linter.unusedVariables false
set_option linter.unusedSimpArgs false

end Go.Proofs.YtkkclkknpjapcaaDoor
/-! ### BlS -/
namespace Go.Proofs.YtkkclkknpjapcaaDoor
open Go.RowKit
set_option linter.unusedVariables false
set_option linter.unusedSimpArgs false

def bitAt (bs : List UInt8) (p : Nat) : Nat := bAt bs (p / 8) / 2 ^ (p % 8) % 2
def hasB (bs xs : List UInt8) : Bool := if bs.length = 0 ∨ 1048576 < bs.length then true else (List.range 6).all fun j => bitAt bs (place (hashN xs) (8 * bs.length) j) == 1
theorem and1_u8 {m : Nat} (hm : m < 256) : bits .and .u8 (m : Int) 1 = ((m % 2 : Nat) : Int) := by
  have h := u8_and_nat m 1 hm (by omega)
  rw [show ((1 : Nat) : Int) = 1 from rfl, Nat.and_one_is_mod] at h
  exact h

theorem and_bit (bs : List UInt8) (p : Nat) : bits .and .u8 ((bAt bs (p / 8) : Int) / 2 ^ (p % 8)) 1 = (bitAt bs p : Int) := by
  have hb := bAt_lt bs (p / 8)
  have h := and1_u8 (m := bAt bs (p / 8) / 2 ^ (p % 8)) (Nat.lt_of_le_of_lt (Nat.div_le_self _ _) hb)
  rw [Int.natCast_ediv, Int.natCast_pow] at h
  exact h
theorem bitAt_two (bs : List UInt8) (p : Nat) : bitAt bs p = 0 ∨ bitAt bs p = 1 := by unfold bitAt; omega
set_option maxHeartbeats 8000000 in
set_option maxRecDepth 100000 in
theorem has_any (A : Option Addr) (n c : Nat) (bs : List UInt8) (A' : Option Addr) (m c' : Nat) (xs : List UInt8) (w : World) (h : RB w A n bs) (h' : RB w A' m xs) :
    Calls Tryd.prog 57 #[.slice A n c, .slice A' m c'] w fun e w' => e = .returned (.bool (hasB bs xs)) ∧ Below w.heap.size w w' := by
  have hl := h.1
  have HL := hid hl
  have hmx := h.2.1
  by_cases h0 : n = 0 ∨ 1048576 < n
  · have e1 : hasB bs xs = true := by unfold hasB; rw [hl, if_pos h0]
    rw [e1]
    clear hl
    rcases h0 with h0 | h0
    all_goals
      go_enter Tryd.func57, Tryd.ntmps57
      go_wp2
      go_ret
      exact ⟨rfl, Below.refl _ _⟩
  · have hn0 : ¬ n = 0 := fun e => h0 (.inl e)
    have hn1 : n ≤ 1048576 := by omega
    have hz0 : ((n : Int) == 0) = false := by rw [beq_eq_false_iff_ne]; omega
    have hz1 : ¬ ((1048576 : Int) < (n : Int)) := by omega
    obtain ⟨B, hB1⟩ : ∃ B : Bool, B = hasB bs xs := ⟨_, rfl⟩
    have hB2 : B = (List.range 6).all fun j => bitAt bs (place (hashN xs) (8 * n) j) == 1 := by rw [hB1]; unfold hasB; rw [hl, if_neg h0]
    rw [← hB1]
    clear hB1 h0 hl
    have HBB := hid hB2
    clear hB2
    have hn64 := u64_inB n (by omega)
    have hm64 : IntKind.u64.wrap ((n : Int) * 8) = ((8 * n : Nat) : Int) := by rw [IntKind.wrap_u64]; omega
    obtain ⟨M, hM⟩ : ∃ M, M = 8 * n := ⟨_, rfl⟩
    rw [← hM] at hm64
    have HM := hid hM
    have hM0 : 0 < M := by omega
    have hM64 : M < 18446744073709551616 := by omega
    obtain ⟨H, hH⟩ : ∃ H, H = hashN xs := ⟨_, rfl⟩
    have HH := hid hH
    clear hH hM
    go_enter Tryd.func57, Tryd.ntmps57
    go_wp2_with (go_at_call 53; (with_reducible refine (places_any A' m c' xs M _ h' hM0 hM64).mono ?_); rintro e w1 ⟨rfl, hb1⟩; rw [← HH.out])
    have h1 := h.below hb1
    go_loop [21] (fun i => ∃ k : Nat, k ≤ 6 ∧ i = .int .i64 k ∧ ∀ j, j < k → bitAt bs (place H M j) = 1) (fun i => 6 - (intOf i).toNat)
    case atStart => exact ⟨0, by omega, rfl, fun j hj => absurd hj (by omega)⟩
    case round =>
      obtain ⟨k, hk, rfl, hall⟩ := hrel
      have HA := hid hall
      clear hall
      by_cases hlt : k < 6
      · have hix := run_index6 (h := H) (m := M) hlt w1
        have hpl := place_lt (h := H) k hM0
        obtain ⟨P, hP⟩ : ∃ P, P = place H M k := ⟨_, rfl⟩
        rw [← hP] at hix hpl
        have HPP := hid hP
        clear hP
        have hP8 : P / 8 < n := by have := HM.out; omega
        obtain ⟨ad, rfl, hcell⟩ := h1.at_ hP8
        have hbit := and_bit bs P
        rcases bitAt_two bs P with ht | ht
        · rw [ht] at hbit
          have hBt : B = false := by
            rw [HBB.out, List.all_eq_false]
            refine ⟨k, by simpa using hlt, ?_⟩
            rw [← HM.out, ← HH.out, ← HPP.out, ht]
            decide
          subst hBt
          go_wp2
          go_ret
          exact ⟨rfl, hb1⟩
        · rw [ht] at hbit
          go_wp2
          go_round
          case rel =>
            refine ⟨k + 1, by omega, by go_num, fun j hj => ?_⟩
            by_cases hjk : j < k
            · exact HA.out j hjk
            · obtain rfl : j = k := by omega
              rw [← HPP.out]
              exact ht
          case measure => simp [intOf]; omega
      · obtain rfl : k = 6 := by omega
        have hBt : B = true := by
          rw [HBB.out]
          rw [List.all_eq_true]
          intro j hj
          have := HA.out j (by simpa using hj)
          rw [HM.out, HH.out] at this
          simpa using this
        subst hBt
        go_wp2
        go_ret
        exact ⟨rfl, hb1⟩
end Go.Proofs.YtkkclkknpjapcaaDoor
