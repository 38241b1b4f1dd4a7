/- Layer 8: changes and batches, in plain terms; whether they may be. -/
import Derived.Test.YtdhmonomhifkkaaVintT
import Derived.Test.YtdhmonomhifkkaaO
namespace Go.Proofs.Ytdhmonomhifkkaa
open Go.RowKit
set_option linter.unusedVariables false
set_option linter.unusedSimpArgs false

/-- A change: its key, whether it takes away, till when, its value. -/
def OpR : Type := List UInt8 × Bool × Int × List UInt8
def opKey (o : OpR) : List UInt8 := o.1
def opGone (o : OpR) : Bool := o.2.1
def opTil (o : OpR) : Int := o.2.2.1
def opVal (o : OpR) : List UInt8 := o.2.2.2
def noOp : OpR := ([], false, 0, [])
def mayOpE (nk : Nat) (g : Bool) (u : Int) (nv : Nat) : Int :=
  if nk = 0 ∨ u < 0 ∨ 4611686018427387904 < u ∨ (g = true ∧ (u ≠ 0 ∨ 0 < nv)) then 1
  else if 512 < nk ∨ 2048 < nv then 2 else 0
theorem ret_i64 {a b : Int} (h : a = b) : Ending.returned (.int .i64 a) = .returned (.int .i64 b) := by rw [h]
set_option maxHeartbeats 4000000 in
theorem mayop_any (Ak : Option Addr) (nk ck : Nat) (g : Bool) (u : Int) (Av : Option Addr) (nv cv : Nat) (w : World) (hk : nk ≤ 9223372036854775807) (hv : nv ≤ 9223372036854775807) :
    Calls Try.prog 23 #[.agg #[.slice Ak nk ck, .bool g, .int .i64 u, .slice Av nv cv]] w fun e w' => e = .returned (.int .i64 (mayOpE nk g u nv)) ∧ Below w.heap.size w w' := by
  cases g
  all_goals
    go_enter Try.func23, Try.ntmps23
    go_wp2
    all_goals
      go_ret
      refine ⟨ret_i64 ?_, (Below.refl _ _).alloc (Nat.le_refl _) _⟩
      try simp only [beq_iff_eq, beq_eq_false_iff_ne] at *
      simp only [mayOpE, Bool.false_eq_true, false_and, or_false, true_and]
      (repeat' split) <;> omega
def OpCells (w : World) (ad : Addr) (o : OpR) : Prop := ∃ Ak nk ck Av nv cv, w.cell? ad = some (.slice Ak nk ck) ∧ w.cell? ⟨ad.block, ad.off + 1, none⟩ = some (.bool (opGone o)) ∧ w.cell? ⟨ad.block, ad.off + 2, none⟩ = some (.int .i64 (opTil o)) ∧ w.cell? ⟨ad.block, ad.off + 3, none⟩ = some (.slice Av nv cv) ∧ RB w Ak nk (opKey o) ∧ nk ≤ ck ∧ RB w Av nv (opVal o) ∧ nv ≤ cv ∧ (Lit.int .i64 (opTil o)).wf = true
theorem OpCells.below {w w' : World} {ad : Addr} {o : OpR} (h : OpCells w ad o) (hb : Below w.heap.size w w') : OpCells w' ad o := by
  obtain ⟨Ak, nk, ck, Av, nv, cv, h0, h1, h2, h3, h4, h5, h6, h7, h8⟩ := h
  exact ⟨Ak, nk, ck, Av, nv, cv, below_cell hb h0, below_cell hb h1, below_cell hb h2, below_cell hb h3, h4.below hb, h5, h6.below hb, h7, h8⟩
def ROps (w : World) (A : Option Addr) (n : Nat) (ops : List OpR) : Prop :=
  ops.length = n ∧ n ≤ 9223372036854775807 ∧ (0 < n → ∃ ad, A = some ad ∧ ∀ j, j < n → OpCells w (ad.add (j * 4)) (elt noOp ops j))
theorem ROps.at_ {w : World} {A : Option Addr} {n : Nat} {ops : List OpR} (h : ROps w A n ops) {j : Nat} (hj : j < n) : ∃ ad, A = some ad ∧ OpCells w (ad.add (j * 4)) (elt noOp ops j) := by
  obtain ⟨ad, e, hc⟩ := h.2.2 (by omega)
  exact ⟨ad, e, hc j hj⟩
theorem ROps.below {w w' : World} {A : Option Addr} {n : Nat} {ops : List OpR} (h : ROps w A n ops) (hb : Below w.heap.size w w') : ROps w' A n ops :=
  ⟨h.1, h.2.1, fun hn => by
    obtain ⟨ad, e, hc⟩ := h.2.2 hn
    exact ⟨ad, e, fun j hj => (hc j hj).below hb⟩⟩
def opE (o : OpR) : Int := mayOpE (opKey o).length (opGone o) (opTil o) (opVal o).length
/-- The first fault of a row of changes, 0 where there is none. -/
def firstE (ops : List OpR) : Nat → Int
  | 0 => 0
  | k + 1 => if firstE ops k ≠ 0 then firstE ops k else opE (elt noOp ops k)
theorem firstE_stays {ops : List OpR} {j : Nat} (h : firstE ops j ≠ 0) : ∀ n, j ≤ n → firstE ops n = firstE ops j := by
  intro n
  induction n with
  | zero => intro hj; rw [Nat.le_zero.1 hj]
  | succ n ih =>
    intro hj
    by_cases e : j = n + 1
    · rw [e]
    · have := ih (by omega)
      rw [firstE, if_pos (by rw [this]; exact h), this]
def mayE (s : Int) (ops : List OpR) : Int :=
  if ops.length = 0 ∨ 400 < ops.length then 13
  else if s < 1 ∨ 4611686018427387905 - (ops.length : Int) < s then 1
  else firstE ops ops.length
set_option maxHeartbeats 4000000 in
theorem may_any (s : Int) (A : Option Addr) (n c : Nat) (ops : List OpR) (w : World) (h : ROps w A n ops) (hs : -9223372036854775808 ≤ s ∧ s ≤ 9223372036854775807) :
    Calls Try.prog 9 #[.agg #[.int .i64 s, .slice A n c]] w fun e w' => e = .returned (.int .i64 (mayE s ops)) ∧ Below w.heap.size w w' := by
  have hl := h.1
  have hm := h.2.1
  have H := hid h
  clear h
  go_enter Try.func9, Try.ntmps9
  go_wp2
  refine wp_scope_ghost 0 (fun k a' w' => ∃ (u2 u3 u5 u6 u7 u8 u9 u10 u11 u12 u13 u14 u15 u16 u17 u18 u19 u20 u21 u22 u23 u24 u25 u26 u27 u28 u29 u30 u31 u32 u33 u34 u35 u36 u37 u38 u39 u40 u41 : Value), a' = { tmps := #[.agg #[.int .i64 s, .slice A n c], .pointer (some ⟨w.heap.size, 0, none⟩), u2, u3, .int .i64 (mayE s ops), u5, u6, u7, u8, u9, u10, u11, u12, u13, u14, u15, u16, u17, u18, u19, u20, u21, u22, u23, u24, u25, u26, u27, u28, u29, u30, u31, u32, u33, u34, u35, u36, u37, u38, u39, u40, u41], defers := [] } ∧ Below w.heap.size w w') rfl ?_ ?_
  · rintro k a' w' ⟨u2, u3, u5, u6, u7, u8, u9, u10, u11, u12, u13, u14, u15, u16, u17, u18, u19, u20, u21, u22, u23, u24, u25, u26, u27, u28, u29, u30, u31, u32, u33, u34, u35, u36, u37, u38, u39, u40, u41, rfl, hB⟩
    go_wp2
    simp only [Exit.jump]
    go_ret
    exact ⟨rfl, hB⟩
  intro hpass
  by_cases h0 : n = 0 ∨ 400 < n
  · have e1 : mayE s ops = 13 := by unfold mayE; rw [hl, if_pos h0]
    have hz : (((n : Int) == 0) = true) ∨ (((n : Int) == 0) = false ∧ (400 : Int) < (n : Int)) := by
      by_cases h1 : n = 0
      · exact .inl (by rw [h1]; rfl)
      · exact .inr ⟨by rw [beq_eq_false_iff_ne]; omega, by omega⟩
    have E1 := hid e1
    clear hl e1 h0
    rcases hz with hz | ⟨hz, hz2⟩
    all_goals
      go_wp2
      simp only [Exit.jump]
      go_ret
      exact ⟨ret_i64 E1.out.symm, below_alloc' (Below.refl _ _) _⟩
  · have hz : ((n : Int) == 0) = false := by rw [beq_eq_false_iff_ne]; omega
    have hz2 : ¬ ((400 : Int) < (n : Int)) := by omega
    have hn400 : n ≤ 400 := by omega
    have hw1 : wrap64 (4611686018427387904 - (n : Int)) = 4611686018427387904 - (n : Int) := by unfold wrap64; omega
    by_cases hq : s < 1 ∨ 4611686018427387905 - (n : Int) < s
    · have e1 : mayE s ops = 1 := by unfold mayE; rw [hl, if_neg h0, if_pos hq]
      have E1 := hid e1
      have hq2 : s < 1 ∨ (¬ s < 1 ∧ 4611686018427387904 - (n : Int) + 1 < s) := by omega
      clear hl e1 h0 hq
      rcases hq2 with hq | ⟨hq, hq2⟩
      all_goals
        go_wp2
        simp only [Exit.jump]
        go_ret
        exact ⟨ret_i64 E1.out.symm, below_alloc' (Below.refl _ _) _⟩
    · have e1 : mayE s ops = firstE ops n := by unfold mayE; rw [hl, if_neg h0, if_neg hq]
      have E1 := hid e1
      have hq1 : ¬ s < 1 := by omega
      have hq2 : ¬ 4611686018427387904 - (n : Int) + 1 < s := by omega
      clear hl e1 h0 hq
      go_wp2
      go_loopw [4, 32] (fun e i wr => ∃ k : Nat, k ≤ n ∧ i = .int .i64 k ∧ e = .int .i64 0 ∧ firstE ops k = 0 ∧ Below w.heap.size w wr) (fun e i wr => n - (intOf i).toNat)
      case atStart => exact ⟨0, Nat.zero_le _, rfl, rfl, rfl, below_alloc' (Below.refl _ _) _⟩
      case round =>
        obtain ⟨k, hk, rfl, rfl, hfk, hB⟩ := hrel
        have HFK := hid hfk
        clear hfk
        by_cases hlt : k < n
        · obtain ⟨ad, rfl, hcells⟩ := H.out.at_ hlt
          obtain ⟨Ak, nk, ck, Av, nv, cv, hc0, hc1, hc2, hc3, hrk, hck, hrv, hcv, hwf⟩ := hcells.below hB
          obtain ⟨E, hE⟩ : ∃ E, E = mayOpE nk (opGone (elt noOp ops k)) (opTil (elt noOp ops k)) nv := ⟨_, rfl⟩
          have hfe : firstE ops (k + 1) = E := by
            rw [firstE, if_neg (by rw [HFK.out]; simp), hE, opE, hrk.1, hrv.1]
          have HE := hid hE
          have HFE := hid hfe
          have hnk := hrk.2.1
          have hnv := hrv.2.1
          clear hE hfe
          by_cases hz0 : E = 0
          · subst hz0
            go_wp2_with (go_at_call 23; (with_reducible refine (mayop_any Ak nk ck _ _ Av nv cv _ hnk hnv).mono ?_); rintro e w1 ⟨rfl, hb1⟩; rw [← HE.out])
            go_roundw
            case rel => exact ⟨k + 1, by omega, by go_num, rfl, HFE.out, below_then (below_alloc' hB _) hb1⟩
            case measure => simp [intOf]; omega
          · have hzb : (E != 0) = true := by simpa using hz0
            have HZ := hid hz0
            clear hz0
            go_wp2_with (go_at_call 23; (with_reducible refine (mayop_any Ak nk ck _ _ Av nv cv _ hnk hnv).mono ?_); rintro e w1 ⟨rfl, hb1⟩; rw [← HE.out])
            have hfin : E = mayE s ops := by rw [E1.out, firstE_stays (j := k + 1) (by rw [HFE.out]; exact HZ.out) n hlt, HFE.out]
            subst hfin
            exact wp_goto ⟨rfl, 0, _, _, _, _, _, _, _, _, _, _, _, _, _, _, _, _, _, _, _, _, _, _, _, _, _, _, _, _, _, _, _, _, _, _, _, _, _, _, _, rfl, below_then (below_alloc' hB _) hb1⟩
        · obtain rfl : k = n := by omega
          have hfin : (0 : Int) = mayE s ops := by rw [E1.out, HFK.out]
          go_wp2
          exact wp_label_k (by assumption) (hpass 0 _ _ ⟨_, _, _, _, _, _, _, _, _, _, _, _, _, _, _, _, _, _, _, _, _, _, _, _, _, _, _, _, _, _, _, _, _, _, _, _, _, _, _, by rw [← hfin], hB⟩)
end Go.Proofs.Ytdhmonomhifkkaa
