/- Layer 3: the sum that every program must know; the walks of its statements. -/
import Derived.Test.YtmkkenhcldcloaaCrcM
import Derived.Test.YtmkkenhcldcloaaO
import Derived.Test.YtmkkenhcldcloaaB
namespace Go.Proofs.Ytmkkenhcldcloaa
open Go.RowKit
set_option linter.unusedVariables false
set_option linter.unusedSimpArgs false

theorem known_sum : crcMore 0 [49, 50, 51, 52, 53, 54, 55, 56, 57] = 3808858755 := by decide +kernel
theorem awake_any (w : World) : Calls Try.prog 12 #[] w fun e w' => e = .returned (.bool true) ∧ Below w.heap.size w w' := by
  have kc := fun (w : World) (C : Array Value) (n c : Nat) => Lib.run_convert_bytes_const (P := Try.prog) w 23 5 C n c Try.underlying23 Try.underlying5
  have hr := RB.lit w [49, 50, 51, 52, 53, 54, 55, 56, 57] #[.int .u8 49, .int .u8 50, .int .u8 51, .int .u8 52, .int .u8 53, .int .u8 54, .int .u8 55, .int .u8 56, .int .u8 57] 5 (9, 10) rfl (by decide)
  have ks := known_sum
  go_enter Try.func12, Try.ntmps12
  go_wp2_with (go_at_call 8; refine (sum_any _ _ _ _ _ hr).mono ?_; rintro e w' ⟨rfl, rfl⟩)
  go_ret
  exact ⟨rfl, (Below.refl _ _).alloc (Nat.le_refl _) _⟩
theorem CrcSums_walk (a : Int) (A : Option Addr) (n c : Nat) (xs : List UInt8) (w : World) (ha : (Lit.int .u32 a).wf = true) (h : RB w A n xs) (hc : n ≤ c) (hsz : n ≤ 140737488351232) :
    Calls Try.prog 3 #[.int .u32 a, .slice A n c] w fun e w' => e = .returned (.bool true) ∧ Below w.heap.size w w' := by
  obtain ⟨h0, h1⟩ := wf_u32 ha
  obtain ⟨s, rfl⟩ := Int.eq_ofNat_of_zero_le h0
  have hs : s < 4294967296 := by omega
  clear ha h0 h1
  go_enter Try.func3, Try.ntmps3
  go_wp2_with (first
    | (go_at_call 8; refine (sum_any _ _ _ xs _ h).mono ?_; rintro e w' ⟨rfl, rfl⟩)
    | (go_at_call 9; refine (refsum_any _ _ _ xs _ h).mono ?_; rintro e w' ⟨rfl, rfl⟩)
    | (go_at_call 10; refine (more_any s hs _ _ _ xs _ h).mono ?_; rintro e w' ⟨rfl, rfl⟩)
    | (go_at_call 11; refine (refmore_any s hs _ _ _ xs _ h).mono ?_; rintro e w' ⟨rfl, rfl⟩)
    | (go_at_call 12; refine (awake_any _).mono ?_; rintro e w' ⟨rfl, hb⟩))
  go_ret
  exact ⟨rfl, hb⟩
theorem CrcMasks_walk (a : Int) (w : World) (ha : (Lit.int .u32 a).wf = true) :
    Calls Try.prog 7 #[.int .u32 a] w fun e w' => e = .returned (.bool true) ∧ Below w.heap.size w w' := by
  obtain ⟨h0, h1⟩ := wf_u32 ha
  obtain ⟨s, rfl⟩ := Int.eq_ofNat_of_zero_le h0
  have hs : s < 4294967296 := by omega
  have m1 := crcMask_lt s
  have m2 := crcUnmask_lt s
  have m3 := crcMask_unmask hs
  have m4 := crcUnmask_mask hs
  clear ha h0 h1
  go_enter Try.func7, Try.ntmps7
  go_wp2_with (first
    | (go_at_call 13; refine (mask_any _ ?_ _).mono ?_; (first | (with_reducible exact hs) | (with_reducible exact m2)); rintro e w' ⟨rfl, rfl⟩)
    | (go_at_call 14; refine (refmask_any s hs _).mono ?_; rintro e w' ⟨rfl, rfl⟩)
    | (go_at_call 15; refine (unmask_any _ ?_ _).mono ?_; (first | (with_reducible exact hs) | (with_reducible exact m1)); rintro e w' ⟨rfl, rfl⟩)
    | (go_at_call 16; refine (refunmask_any s hs _).mono ?_; rintro e w' ⟨rfl, rfl⟩)
    | (go_at_call 12; refine (awake_any _).mono ?_; rintro e w' ⟨rfl, hb⟩))
  go_ret
  exact ⟨rfl, hb⟩

/-- The first k pieces, one behind the other. -/
def cat (xss : List (List UInt8)) (k : Nat) : List UInt8 := (xss.take k).flatten
theorem flat_take_succ (xss : List (List UInt8)) (k : Nat) (h : k < xss.length) : cat xss (k + 1) = cat xss k ++ elt [] xss k := by
  unfold cat
  rw [take_succ_elt [] h, List.flatten_append]
  simp
theorem cat_zero (xss : List (List UInt8)) : cat xss 0 = [] := rfl
theorem CrcGoesOn_walk (A : Option Addr) (n c : Nat) (xss : List (List UInt8)) (w : World) (h : RBs w A n xss) (hc : n ≤ c) :
    Calls Try.prog 4 #[.slice A n c] w fun e w' => e = .returned (.bool true) ∧ Below w.heap.size w w' := by
  have hl := h.1
  have hm := h.2.1
  have HL := hid hl
  clear hl
  have hz : crcMore 0 [] = 0 := crcMore_nil (by omega)
  go_enter Try.func4, Try.ntmps4
  go_wp2
  go_loopw [3, 4, 9] (fun v s i wr => ∃ k : Nat, k ≤ n ∧ k ≤ 50 ∧ i = .int .i64 k ∧ s = .int .u32 (crcMore 0 (cat xss k) : Nat) ∧ OB wr w.heap.size v (cat xss k) ∧ (cat xss k).length ≤ 2000 * k ∧ Below w.heap.size w wr) (fun _ _ i _ => n - (intOf i).toNat)
  case atStart => exact ⟨0, Nat.zero_le _, by omega, rfl, by rw [cat_zero, hz]; rfl, OB.nil _ _, by simp [cat_zero], Below.refl _ _⟩
  case round =>
    obtain ⟨k, hk, hk5, rfl, rfl, hown, hlen, hB⟩ := hrel
    have hf := crcMore_lt 0 (cat xss k)
    by_cases hlt : k < n
    · obtain ⟨ad, rfl, Aj, nj, cj, hcell0, hrb0, hcj⟩ := h.at_ hlt
      have hcell := below_cell hB hcell0
      have hrb := hrb0.below hB
      clear hcell0
      have hnj := hrb.max
      have hnl := hrb.1
      by_cases h5 : 50 ≤ k
      · go_wp2_with (go_at_call 12; refine (awake_any _).mono ?_; rintro e w' ⟨rfl, hb⟩)
        go_ret
        exact ⟨rfl, below_then hB hb⟩
      · by_cases h2 : 2000 < nj
        · go_wp2_with (go_at_call 12; refine (awake_any _).mono ?_; rintro e w' ⟨rfl, hb⟩)
          go_ret
          exact ⟨rfl, below_then hB hb⟩
        · have HN := hid hnl
          clear hnl
          have R : ∀ v' w', OB w' w.heap.size v' ((cat xss k) ++ elt [] xss k) → OB w' w.heap.size v' (cat xss (k + 1)) := fun v' w' h => by rw [flat_take_succ _ _ (by rw [HL.out]; exact hlt)]; exact h
          have S : crcMore (crcMore 0 (cat xss k)) (elt [] xss k) = crcMore 0 (cat xss (k + 1)) := by rw [flat_take_succ _ _ (by rw [HL.out]; exact hlt), crcMore_append]
          have S2 : (cat xss (k + 1)).length ≤ 2000 * (k + 1) := by rw [flat_take_succ _ _ (by rw [HL.out]; exact hlt), List.length_append, HN.out]; omega
          have HS := hid S
          have HS2 := hid S2
          have HR := hid R
          clear S S2 R
          go_wp2_with (first
            | (at_builtin; refine wpB_append w _ _ rfl (.tmp 22) (.tmp 23) rfl u3 _ rfl hown Aj nj cj _ rfl hrb (by rw [HN.out]; omega) hB hB.size ?_; intro v1 w1 hown1 hB1 hg1 _; have hrb1 := hrb0.below hB1)
            | (go_at_call 10; refine (more_any _ hf _ _ _ _ _ hrb1).mono ?_; rintro e w' ⟨rfl, rfl⟩))
          go_roundw
          case rel => exact ⟨k + 1, by omega, by omega, by go_num, by rw [HS.out], HR.out _ _ hown1, HS2.out, hB1⟩
          case measure => simp [intOf]; omega
    · obtain rfl : k = n := by omega
      obtain ⟨A1, c1, rfl, hrb1, hc1⟩ := hown.open_
      go_wp2_with (first
        | (go_at_call 8; refine (sum_any _ _ _ _ _ hrb1).mono ?_; rintro e w' ⟨rfl, rfl⟩)
        | (go_at_call 12; refine (awake_any _).mono ?_; rintro e w' ⟨rfl, hb⟩))
      go_ret
      exact ⟨rfl, below_then hB hb⟩
end Go.Proofs.Ytmkkenhcldcloaa
