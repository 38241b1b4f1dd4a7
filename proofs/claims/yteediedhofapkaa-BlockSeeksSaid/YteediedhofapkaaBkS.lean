/- Layer 11: Seek: behind, the function that is handed to sort.Search. -/
import Derived.Test.YteediedhofapkaaBkDe
import Derived.Test.YteediedhofapkaaSSr
import Derived.StillTailTactics
namespace Go.Proofs.Yteediedhofapkaa
open Go.RowKit
set_option linter.unusedVariables false
set_option linter.unusedSimpArgs false

set_option maxHeartbeats 8000000 in
set_option maxRecDepth 100000 in
theorem behind_any (Ak : Option Addr) (nk ck : Nat) (Av : Option Addr) (nv cv : Nat) (x : EntR) (Ar : Option Addr) (nr cr : Nat) (key : List UInt8) (s : Int) (w : World) (hk : RB w Ak nk (eKey x)) (hr : RB w Ar nr key) :
    Calls Try.prog 32 #[.agg #[.slice Ak nk ck, .int .i64 (eSeq x), .bool (eGone x), .int .i64 (eTil x), .slice Av nv cv], .slice Ar nr cr, .int .i64 s] w fun e w' => e = .returned (.bool (!aheadK x key s)) ∧ Below w.heap.size w w' := by
  obtain ⟨C, hC⟩ : ∃ C, cmpB (eKey x) key = C := ⟨_, rfl⟩
  have HC := hid hC
  have hz := cmpB_zero (eKey x) key
  rw [hC] at hz
  have HA : Hid (aheadK x key s = true ↔ (C < 0 ∨ (C = 0 ∧ s < eSeq x))) := by
    unfold Hid
    rw [aheadK_iff, hC, hz]
  have HK := hid (hk.below (below_alloc' (Below.refl _ _) (.cells #[.slice Ak nk ck, .int .i64 (eSeq x), .bool (eGone x), .int .i64 (eTil x), .slice Av nv cv] 26)))
  have HR := hid (hr.below (below_alloc' (Below.refl _ _) (.cells #[.slice Ak nk ck, .int .i64 (eSeq x), .bool (eGone x), .int .i64 (eTil x), .slice Av nv cv] 26)))
  clear hC hz hk hr
  rcases (by omega : C < 0 ∨ C = 0 ∨ 0 < C) with hC0 | hC0 | hC0
  · have hd1 : decide ((0 : Int) < C) = false := decide_eq_false (by omega)
    have hd2 : (C == 0) = false := by rw [beq_eq_false_iff_ne]; omega
    have HF : Hid (aheadK x key s = true) := hid (HA.out.2 (.inl hC0))
    clear hC0
    go_enter Try.func32, Try.ntmps32
    go_wp2_with (go_at_call 33; (with_reducible refine (compare_any Ak nk ck (eKey x) Ar nr cr key _ HK.out HR.out).mono ?_); rintro r w1 ⟨rfl, rfl⟩; rw [HC.out])
    go_ret
    exact ⟨by rw [HF.out]; rfl, below_alloc' (Below.refl _ _) _⟩
  · subst hC0
    by_cases hs : eSeq x ≤ s
    · have hd1 : decide (eSeq x ≤ s) = true := decide_eq_true hs
      have HF : Hid (aheadK x key s = false) := hid (by
        cases hq : aheadK x key s
        · rfl
        · have := HA.out.1 hq; omega)
      go_enter Try.func32, Try.ntmps32
      go_wp2_with (go_at_call 33; (with_reducible refine (compare_any Ak nk ck (eKey x) Ar nr cr key _ HK.out HR.out).mono ?_); rintro r w1 ⟨rfl, rfl⟩; rw [HC.out])
      go_ret
      exact ⟨by rw [HF.out]; rfl, below_alloc' (Below.refl _ _) _⟩
    · have hd1 : decide (eSeq x ≤ s) = false := decide_eq_false hs
      have HF : Hid (aheadK x key s = true) := hid (HA.out.2 (.inr ⟨rfl, by omega⟩))
      clear hs
      go_enter Try.func32, Try.ntmps32
      go_wp2_with (go_at_call 33; (with_reducible refine (compare_any Ak nk ck (eKey x) Ar nr cr key _ HK.out HR.out).mono ?_); rintro r w1 ⟨rfl, rfl⟩; rw [HC.out])
      go_ret
      exact ⟨by rw [HF.out]; rfl, below_alloc' (Below.refl _ _) _⟩
  · have hd1 : decide ((0 : Int) < C) = true := decide_eq_true hC0
    have HF : Hid (aheadK x key s = false) := hid (by
        cases hq : aheadK x key s
        · rfl
        · have := HA.out.1 hq; omega)
    go_enter Try.func32, Try.ntmps32
    go_wp2_with (go_at_call 33; (with_reducible refine (compare_any Ak nk ck (eKey x) Ar nr cr key _ HK.out HR.out).mono ?_); rintro r w1 ⟨rfl, rfl⟩; rw [HC.out])
    go_ret
    exact ⟨by rw [HF.out]; rfl, below_alloc' (Below.refl _ _) _⟩
set_option maxHeartbeats 8000000 in
set_option maxRecDepth 100000 in
theorem bkseek_fn (A : Option Addr) (n c : Nat) (L : List EntR) (b1 b2 b3 : Nat) (Ar : Option Addr) (nr cr : Nat) (key : List UInt8) (s : Int) (w : World) (h : REnts w A n L) (hc : n ≤ c) (h1 : w.cell? ⟨b1, 0, none⟩ = some (.slice A n c)) (h2 : w.cell? ⟨b2, 0, none⟩ = some (.slice Ar nr cr)) (h3 : w.cell? ⟨b3, 0, none⟩ = some (.int .i64 s)) (hk : RB w Ar nr key) (i : Nat) (hi : i < n) :
    Calls Try.prog 31 #[.int .i64 i, .pointer (some ⟨b1, 0, none⟩), .pointer (some ⟨b2, 0, none⟩), .pointer (some ⟨b3, 0, none⟩)] w fun e w' => e = .returned (.bool (!aheadK (elt noEnt L i) key s)) ∧ Below w.heap.size w w' := by
  have hmax := h.2.1
  obtain ⟨ad, hA, hen⟩ := h.at_ hi
  subst hA
  obtain ⟨Ak, nk, ck, Av, nv, cv, a0, a1, a2, a3, a4, a5, a6, a7, a8⟩ := hen
  generalize elt noEnt L i = x at *
  have H5 := hid a5
  have HK := hid hk
  clear h a5 hk
  go_enter Try.func31, Try.ntmps31
  go_wp2
  go_still_tail 6, (by kernel_rfl)
  change wpList _ _ _ _ _ w.drew
  have hbd : Below w.heap.size w w.drew := below_drew (Below.refl _ _)
  have HKd := hid (⟨H5.out.drew, HK.out.drew⟩ : _ ∧ _)
  generalize w.drew = w2 at *
  go_wp2_with (go_at_call 32; (with_reducible refine (behind_any Ak nk ck Av nv cv x Ar nr cr key s _ HKd.out.1 HKd.out.2).mono ?_); rintro r w1 ⟨rfl, hb1⟩)
  go_ret
  exact ⟨rfl, below_then hbd hb1⟩
end Go.Proofs.Yteediedhofapkaa
