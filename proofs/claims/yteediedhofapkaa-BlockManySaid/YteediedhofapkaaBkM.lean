/- Layer 11: may, Ordered, shared. -/
import Derived.Test.YteediedhofapkaaBkP
import Derived.Test.YteediedhofapkaaMmJ
import Derived.BigQuiet
namespace Go.Proofs.Yteediedhofapkaa
open Go.RowKit
set_option linter.unusedVariables false
set_option linter.unusedSimpArgs false

set_option maxHeartbeats 16000000 in
set_option maxRecDepth 100000 in
theorem bkmay_any (Ak : Option Addr) (nk ck : Nat) (s : Int) (g : Bool) (u : Int) (Av : Option Addr) (nv cv : Nat) (w : World) (hk : nk ≤ 9223372036854775807) (hv : nv ≤ 9223372036854775807) :
    Calls Try.prog 15 #[.agg #[.slice Ak nk ck, .int .i64 s, .bool g, .int .i64 u, .slice Av nv cv]] w fun e w' => e = .returned (.bool (mayN nk s g u nv)) ∧ Below w.heap.size w w' := by
  cases g
  all_goals
    go_enter Try.func15, Try.ntmps15
    go_wp2
    all_goals
      go_ret
      refine ⟨ret_bool ?_, below_alloc' (Below.refl _ _) _⟩
      try simp only [beq_iff_eq, beq_eq_false_iff_ne] at *
      unfold mayN
      first
      | rfl
      | (rw [eq_comm, decide_eq_false_iff_not]; simp; omega)
      | (rw [eq_comm, decide_eq_true_iff]; simp; omega)
      | (rw [decide_eq_decide]; simp; omega)
      | (rw [Bool.eq_iff_iff]; simp; omega)
      | (trace_state; simp; omega)
set_option maxHeartbeats 16000000 in
set_option maxRecDepth 100000 in
theorem bkordered_any (A : Option Addr) (n c : Nat) (es : List EntR) (w : World) (h : REnts w A n es) :
    Calls Try.prog 16 #[.slice A n c] w fun e w' => e = .returned (.bool (srtB es)) ∧ Below w.heap.size w w' := by
  have hl := h.1
  have hm := h.2.1
  have HS : Hid (∀ k, n ≤ k → ordN es k → srtB es = true) := fun k hk ho => srtB_true (ordN_Srt fun i h1 h2 => ho i h1 (by omega))
  have HN : Hid (∀ k, 1 ≤ k → k < n → aheadE (elt noEnt es (k - 1)) (elt noEnt es k) = false → srtB es = false) := fun k h1 h2 h3 => srtB_false fun hs => by
    rw [hs.at_ (k - 1) k (by omega) (by omega)] at h3
    cases h3
  have H := hid h
  clear h hl
  go_enter Try.func16, Try.ntmps16
  go_wp2
  go_loopw [3] (fun i wr => ∃ k : Nat, 1 ≤ k ∧ i = .int .i64 k ∧ ordN es k ∧ Below w.heap.size w wr) (fun i wr => n - (intOf i).toNat)
  case atStart => exact ⟨1, by omega, rfl, fun i h1 h2 => by omega, Below.refl _ _⟩
  case round =>
    obtain ⟨k, hk, rfl, ho, hBr⟩ := hrel
    by_cases hlt : k < n
    · obtain ⟨ad, rfl, hc1⟩ := (H.out.below hBr).at_ (show k - 1 < n by omega)
      obtain ⟨ad2, hae, hc2⟩ := (H.out.below hBr).at_ hlt
      obtain rfl := Option.some.inj hae
      obtain ⟨j, hj⟩ : ∃ j, k - 1 = j := ⟨_, rfl⟩
      have hkm : (k : Int) - 1 = (j : Int) := by omega
      have hws : IntKind.i64.wrap (j : Int) = (j : Int) := by rw [IntKind.wrap_i64]; omega
      have hjn : j < n := by omega
      have HO := hid ho
      have HNk := hid (HN.out k hk hlt)
      have HOk : Hid (aheadE (elt noEnt es (k - 1)) (elt noEnt es k) = true → ordN es (k + 1)) := by
        intro h3 i h1 h2
        rcases Nat.lt_or_ge i k with h4 | h4
        · exact ho i h1 h4
        · obtain rfl : i = k := by omega
          exact h3
      rw [hj] at hc1 HNk HOk
      obtain ⟨Ak, nk, ck, Av, nv, cv, a0, a1, a2, a3, a4, a5, _, _, _⟩ := hc1
      obtain ⟨Bk, mk, dk, Bv, mv, dv, b0, b1, b2, b3, b4, b5, _, _, _⟩ := hc2
      generalize elt noEnt es j = x at *
      generalize elt noEnt es k = y at *
      have A5 := hid a5
      have B5 := hid b5
      clear ho hae hj a5 b5
      obtain ⟨C, hC⟩ : ∃ C, cmpB (eKey x) (eKey y) = C := ⟨_, rfl⟩
      have HC := hid hC
      have hb := cmpB_bound (eKey x) (eKey y)
      have hz := cmpB_zero (eKey x) (eKey y)
      rw [hC] at hb hz
      have HA : Hid (aheadE x y = true ↔ (C < 0 ∨ (C = 0 ∧ eSeq y < eSeq x))) := by
        unfold Hid
        rw [aheadE, aheadK_iff, hC, hz]
      clear hC hz
      rcases (by omega : C < 0 ∨ C = 0 ∨ 0 < C) with hC0 | hC0 | hC0
      · have hd1 : decide ((0 : Int) < C) = false := decide_eq_false (by omega)
        have hd2 : (C == 0) = false := by rw [beq_eq_false_iff_ne]; omega
        have HF := hid (HOk.out (HA.out.2 (.inl hC0)))
        clear hC0 hb
        go_wp2
        go_quiet (first | (go_at_call 33; refine Calls.quiet_of_same (v := .int .i64 C) ((compare_any Ak nk ck (eKey x) Bk mk dk (eKey y) _ (A5.out.drewN _) (B5.out.drewN _)).mono ?_); rintro r w1 ⟨rfl, rfl⟩; exact ⟨(by rw [HC.out]), rfl⟩))
        go_wp2
        go_quiet (fail)
        go_wp2
        go_roundw
        case rel => exact ⟨k + 1, by omega, by go_num, HF.out, below_drewN hBr _⟩
        case measure => simp [intOf]; omega
      · subst hC0
        by_cases hs : eSeq x ≤ eSeq y
        · have hd1 : decide (eSeq x ≤ eSeq y) = true := decide_eq_true hs
          have HF := hid (HNk.out (by
            cases hq : aheadE x y
            · rfl
            · have := HA.out.1 hq; omega))
          clear hb
          go_wp2
          go_quiet (first | (go_at_call 33; refine Calls.quiet_of_same (v := .int .i64 0) ((compare_any Ak nk ck (eKey x) Bk mk dk (eKey y) _ (A5.out.drewN _) (B5.out.drewN _)).mono ?_); rintro r w1 ⟨rfl, rfl⟩; exact ⟨(by rw [HC.out]), rfl⟩))
          go_wp2
          go_quiet (fail)
          go_wp2
          go_ret
          exact ⟨by rw [HF.out]; rfl, by first | exact below_drewN hBr _ | exact below_drewN (below_drewN hBr _) _⟩
        · have hd1 : decide (eSeq x ≤ eSeq y) = false := decide_eq_false hs
          have HF := hid (HOk.out (HA.out.2 (.inr ⟨rfl, by omega⟩)))
          clear hs hb
          go_wp2
          go_quiet (first | (go_at_call 33; refine Calls.quiet_of_same (v := .int .i64 0) ((compare_any Ak nk ck (eKey x) Bk mk dk (eKey y) _ (A5.out.drewN _) (B5.out.drewN _)).mono ?_); rintro r w1 ⟨rfl, rfl⟩; exact ⟨(by rw [HC.out]), rfl⟩))
          go_wp2
          go_quiet (fail)
          go_wp2
          go_roundw
          case rel => exact ⟨k + 1, by omega, by go_num, HF.out, below_drewN hBr _⟩
          case measure => simp [intOf]; omega
      · have hd1 : decide ((0 : Int) < C) = true := decide_eq_true hC0
        have HF := hid (HNk.out (by
            cases hq : aheadE x y
            · rfl
            · have := HA.out.1 hq; omega))
        clear hb
        go_wp2
        go_quiet (first | (go_at_call 33; refine Calls.quiet_of_same (v := .int .i64 C) ((compare_any Ak nk ck (eKey x) Bk mk dk (eKey y) _ (A5.out.drewN _) (B5.out.drewN _)).mono ?_); rintro r w1 ⟨rfl, rfl⟩; exact ⟨(by rw [HC.out]), rfl⟩))
        go_wp2
        go_quiet (fail)
        go_wp2
        go_ret
        exact ⟨by rw [HF.out]; rfl, by first | exact below_drewN hBr _ | exact below_drewN (below_drewN hBr _) _⟩
    · have HF := hid (HS.out k (by omega) ho)
      go_wp2
      go_ret
      exact ⟨by rw [HF.out]; rfl, hBr⟩
set_option maxHeartbeats 16000000 in
set_option maxRecDepth 100000 in
theorem shared_any (A : Option Addr) (n c : Nat) (xs : List UInt8) (B : Option Addr) (m d : Nat) (ys : List UInt8) (w : World) (h : RB w A n xs) (h' : RB w B m ys) :
    Calls Try.prog 17 #[.slice A n c, .slice B m d] w fun e w' => e = .returned (.int .i64 (cmnB xs ys : Nat)) ∧ Below w.heap.size w w' := by
  have hm := h.max
  have hl := h.1
  have hl' := h'.1
  have HI : Hid (∀ k, k ≤ n → k ≤ m → (∀ j, j < k → bAt xs j = bAt ys j) → (k = n ∨ k = m ∨ bAt xs k ≠ bAt ys k) → cmnB xs ys = k) := by
    intro k h1 h2 h3 h4
    exact cmnB_is xs ys k (by omega) (by omega) h3 (by rw [hl, hl']; exact h4)
  have H := hid h
  have H' := hid h'
  clear h h' hl hl'
  go_enter Try.func17, Try.ntmps17
  go_wp2
  go_loopw [5] (fun i wr => ∃ k : Nat, k ≤ n ∧ k ≤ m ∧ i = .int .i64 k ∧ (∀ j, j < k → bAt xs j = bAt ys j) ∧ Below w.heap.size w wr) (fun i wr => n - (intOf i).toNat)
  case atStart => exact ⟨0, Nat.zero_le _, Nat.zero_le _, rfl, fun j hj => absurd hj (by omega), Below.refl _ _⟩
  case round =>
    obtain ⟨k, hkn, hkm, rfl, hall, hB⟩ := hrel
    have HA := hid hall
    clear hall
    rcases Nat.lt_or_ge k n with h1 | h1
    · have hd1 : decide ((k : Int) < (n : Int)) = true := decide_eq_true (by omega)
      rcases Nat.lt_or_ge k m with h2 | h2
      · have hd2 : decide ((k : Int) < (m : Int)) = true := decide_eq_true (by omega)
        obtain ⟨ad, rfl, p0⟩ := H.out.at_ h1
        obtain ⟨be, rfl, q0⟩ := H'.out.at_ h2
        have p0 := below_cell hB p0
        have q0 := below_cell hB q0
        by_cases he : bAt xs k = bAt ys k
        · have HA2 : Hid (∀ j, j < k + 1 → bAt xs j = bAt ys j) := by
            intro j hj
            rcases Nat.lt_succ_iff_lt_or_eq.1 hj with h3 | h3
            · exact HA.out j h3
            · rw [h3]; exact he
          rw [he] at p0
          clear he
          go_wp2
          go_quiet (fail)
          go_wp2
          go_roundw
          case rel => exact ⟨k + 1, by omega, by omega, by go_num, HA2.out, below_drewN hB _⟩
          case measure => simp [intOf]; omega
        · have hd3 : ((bAt xs k : Int) == (bAt ys k : Int)) = false := by rw [beq_eq_false_iff_ne]; omega
          have HR := hid (HI.out k hkn hkm HA.out (.inr (.inr he)))
          clear he
          go_wp2
          go_quiet (fail)
          go_wp2
          go_ret
          exact ⟨by rw [HR.out]; rfl, below_drewN hB _⟩
      · obtain rfl : m = k := by omega
        have hd2 : ¬ ((m : Int) < (m : Int)) := by omega
        have HR := hid (HI.out m hkn hkm HA.out (.inr (.inl rfl)))
        go_wp2
        go_quiet (fail)
        go_wp2
        go_ret
        exact ⟨by rw [HR.out]; rfl, below_drewN hB _⟩
    · obtain rfl : n = k := by omega
      have HR := hid (HI.out n hkn hkm HA.out (.inl rfl))
      go_wp2
      go_quiet (fail)
      go_wp2
      go_ret
      exact ⟨by rw [HR.out]; rfl, below_drewN hB _⟩
end Go.Proofs.Yteediedhofapkaa
