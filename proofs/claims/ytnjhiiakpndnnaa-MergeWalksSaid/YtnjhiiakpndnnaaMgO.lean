/- Layer 16's laws: light. -/
import Derived.Test.YtnjhiiakpndnnaaMgL
namespace Go.Proofs.Ytnjhiiakpndnnaa
open Go.RowKit
set_option linter.unusedVariables false
set_option linter.unusedSimpArgs false

/-- A row that light lets pass, up to an entry. -/
def LtE (es : List EntR) (j : Nat) : Prop := ∀ k, k < j → (eKey (elt noEnt es k)).length ≤ 600 ∧ (eVal (elt noEnt es k)).length ≤ 2100
def LtK (ess : List (List EntR)) (k : Nat) : Prop := k ≤ 70 ∧ totR (ess.take k) ≤ 600 ∧ ∀ r, r < k → (er ess r).length ≤ 300 ∧ LtE (er ess r) (er ess r).length
theorem LtE.succ {es : List EntR} {j : Nat} (h : LtE es j) (h1 : (eKey (elt noEnt es j)).length ≤ 600) (h2 : (eVal (elt noEnt es j)).length ≤ 2100) : LtE es (j + 1) := fun k hk => by
  rcases Nat.lt_succ_iff_lt_or_eq.1 hk with h' | h'
  · exact h k h'
  · rw [h']; exact ⟨h1, h2⟩
theorem LtK.succ {ess : List (List EntR)} {k n : Nat} (h : LtK ess k) (hk : k < 70) (hl : (er ess k).length = n) (h3 : n ≤ 300) (hs : totR (ess.take k) + n ≤ 600) (ht : totR (ess.take (k + 1)) = totR (ess.take k) + (er ess k).length) (he : LtE (er ess k) n) : LtK ess (k + 1) := by
  refine ⟨by omega, by omega, fun r hr => ?_⟩
  rcases Nat.lt_succ_iff_lt_or_eq.1 hr with h' | h'
  · exact h.2.2 r h'
  · rw [h']; exact ⟨by omega, by rw [hl]; exact he⟩
def LightC (w w' : World) (n : Nat) (ess : List (List EntR)) (r : Ending) : Prop := ∃ b : Bool, r = .returned (.bool b) ∧ (b = true → LtK ess n) ∧ Below w.heap.size w w'
set_option maxHeartbeats 32000000 in
set_option maxRecDepth 100000 in
theorem light_any (A : Option Addr) (n c : Nat) (ess : List (List EntR)) (w : World) (h : REnss w A n ess) : Calls Try.prog 9 #[.slice A n c] w fun r w' => LightC w w' n ess r := by
  have hl := h.1
  have hmax := h.2.1
  have H := hid h
  have HTs : Hid (∀ k, k < n → totR (ess.take (k + 1)) = totR (ess.take k) + (er ess k).length) := fun k hk => tot_take (by rw [hl]; exact hk)
  have HL0 : Hid (LtK ess 0) := hid ⟨by omega, by simp [totR], fun r hr => absurd hr (by omega)⟩
  clear h hl
  go_enter Try.func9, Try.ntmps9
  go_wp2
  go_loopw [3, 10] (fun s i wr => ∃ k S : Nat, k ≤ n ∧ i = .int .i64 k ∧ s = .int .i64 (S : Int) ∧ totR (ess.take k) = S ∧ LtK ess k ∧ Below w.heap.size w wr) (fun s i wr => n - (intOf i).toNat)
  case atStart => exact ⟨0, 0, Nat.zero_le _, rfl, rfl, rfl, HL0.out, Below.refl _ _⟩
  case round =>
    clear HL0
    obtain ⟨k, S, hk, rfl, rfl, hS, hLt, hB⟩ := hrel
    by_cases hlt : k < n
    · have hk70 := hLt.1
      have hS6 := hLt.2.1
      rw [hS] at hS6
      obtain ⟨ad, rfl, Aj, nj, cj, hcj, hrj, hnc⟩ := H.out.at_ hlt
      have hcj := below_cell hB hcj
      have hlj := hrj.1
      have hjm := hrj.2.1
      have HRj := hid hrj
      have HLj := hid hlj
      have HLt := hid hLt
      have HS := hid hS
      clear hrj hlj hLt hS
      by_cases h70 : k < 70
      · have hd1 : decide ((70 : Int) ≤ (k : Int)) = false := decide_eq_false (by omega)
        by_cases h300 : nj ≤ 300
        · have hd2 : decide ((300 : Int) < (nj : Int)) = false := decide_eq_false (by omega)
          have hw1 : wrap64 ((S : Int) + (nj : Int)) = ((S + nj : Nat) : Int) := by unfold wrap64; omega
          by_cases h600 : S + nj ≤ 600
          · have hd3 : decide ((600 : Int) < ((S + nj : Nat) : Int)) = false := decide_eq_false (by omega)
            have HI0 : Hid (LtE (er ess k) 0) := hid (fun r hr => absurd hr (by omega))
            have HN : Hid (LtE (er ess k) nj → LtK ess (k + 1)) := fun he => HLt.out.succ h70 HLj.out h300 (by rw [HS.out]; exact h600) (HTs.out k hlt) he
            have HS2 : Hid (totR (ess.take (k + 1)) = S + nj) := by unfold Hid; rw [HTs.out k hlt, HS.out, HLj.out]
            go_wp2
            go_loopw [30] (fun i wx => ∃ j : Nat, j ≤ nj ∧ i = .int .i64 j ∧ LtE (er ess k) j ∧ Below w.heap.size w wx) (fun i wx => nj - (intOf i).toNat)
            case atStart => exact ⟨0, Nat.zero_le _, rfl, HI0.out, hB⟩
            case round =>
              clear HI0
              obtain ⟨j, hj, rfl, hE, hBi⟩ := hrel
              have HE := hid hE
              clear hE
              by_cases hjl : j < nj
              · obtain ⟨ae, rfl, hc1⟩ := HRj.out.at_ hjl
                obtain ⟨Ak, nk, ck, Av, nv, cv, a0, a1, a2, a3, a4, a5, a6, a7, a8⟩ := hc1
                have a0 := below_cell hBi a0
                have a1 := below_cell hBi a1
                have a2 := below_cell hBi a2
                have a3 := below_cell hBi a3
                have a4 := below_cell hBi a4
                have hkl := a5.1
                have hvl := a6.1
                have HE2 : Hid (nk ≤ 600 → nv ≤ 2100 → LtE (er ess k) (j + 1)) := fun h1 h2 => HE.out.succ (by rw [hkl]; exact h1) (by rw [hvl]; exact h2)
                have hB2 := below_alloc' hBi (.cells #[.slice Ak nk ck, .int .i64 (eSeq (elt noEnt (er ess k) j)), .bool (eGone (elt noEnt (er ess k) j)), .int .i64 (eTil (elt noEnt (er ess k) j)), .slice Av nv cv] 35)
                have hkm := a5.2.1
                have hvm := a6.2.1
                clear a5 a6 hkl hvl
                by_cases hk6 : nk ≤ 600
                · have hd4 : decide ((600 : Int) < (nk : Int)) = false := decide_eq_false (by omega)
                  by_cases hv2 : nv ≤ 2100
                  · have hd5 : decide ((2100 : Int) < (nv : Int)) = false := decide_eq_false (by omega)
                    go_wp2
                    go_roundw
                    case rel => exact ⟨j + 1, by omega, by go_num, HE2.out hk6 hv2, hB2⟩
                    case measure => simp [intOf]; omega
                  · have hd5 : decide ((2100 : Int) < (nv : Int)) = true := decide_eq_true (by omega)
                    go_wp2
                    go_ret
                    exact ⟨false, rfl, (fun h => by cases h), hB2⟩
                · have hd4 : decide ((600 : Int) < (nk : Int)) = true := decide_eq_true (by omega)
                  go_wp2
                  go_ret
                  exact ⟨false, rfl, (fun h => by cases h), hB2⟩
              · obtain rfl : j = nj := by omega
                go_wp2
                go_roundw
                case rel => exact ⟨k + 1, S + j, by omega, by go_num, by first | rfl | (push_cast; rfl), HS2.out, HN.out HE.out, hBi⟩
                case measure => simp [intOf]; omega
          · have hd3 : decide ((600 : Int) < ((S + nj : Nat) : Int)) = true := decide_eq_true (by omega)
            go_wp2
            go_ret
            exact ⟨false, rfl, (fun h => by cases h), hB⟩
        · have hd2 : decide ((300 : Int) < (nj : Int)) = true := decide_eq_true (by omega)
          go_wp2
          go_ret
          exact ⟨false, rfl, (fun h => by cases h), hB⟩
      · have hd1 : decide ((70 : Int) ≤ (k : Int)) = true := decide_eq_true (by omega)
        go_wp2
        go_ret
        exact ⟨false, rfl, (fun h => by cases h), hB⟩
    · obtain rfl : k = n := by omega
      have HLt := hid hLt
      clear hLt hS
      go_wp2
      go_ret
      exact ⟨true, rfl, fun _ => HLt.out, hB⟩
end Go.Proofs.Ytnjhiiakpndnnaa
