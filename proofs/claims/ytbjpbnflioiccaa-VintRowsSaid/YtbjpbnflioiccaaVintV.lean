/- Layer 2: a row of numbers and bytes is read in order: the walk of the statement. -/
import Derived.Test.YtbjpbnflioiccaaVintJ
import Derived.Test.YtbjpbnflioiccaaI
namespace Go.Proofs.Ytbjpbnflioiccaa
open Go.RowKit
set_option linter.unusedVariables false
set_option linter.unusedSimpArgs false

def nAt (zs : List Int) (k : Nat) : Nat := (elt 0 zs k).toNat
theorem RN.nat {w : World} {A : Option Addr} {n : Nat} {zs : List Int} (h : RN .u64 w A n zs) {j : Nat} (hj : j < n) : nAt zs j < 18446744073709551616 ∧ ∃ ad, A = some ad ∧ w.cell? (ad.add j) = some (.int .u64 (nAt zs j : Int)) := by
  have hw := wf_u64 (h.2.2.1 j hj)
  obtain ⟨ad, e, hc⟩ := h.at_ hj
  refine ⟨by unfold nAt; omega, ad, e, ?_⟩
  rw [hc]
  unfold nAt
  congr 2
  omega
def sPart (xss : List (List UInt8)) (k : Nat) : List UInt8 := if k < xss.length then uvar (elt [] xss k).length ++ elt [] xss k else []
def rowsFrom (zs : List Int) (xss : List (List UInt8)) : Nat → Nat → List UInt8
  | 0, _ => []
  | f + 1, k => uvar (nAt zs k) ++ (sPart xss k ++ rowsFrom zs xss f (k + 1))
theorem sPart_none {xss : List (List UInt8)} {k : Nat} (h : ¬ k < xss.length) : sPart xss k = [] := by unfold sPart; rw [if_neg h]
theorem sPart_some {xss : List (List UInt8)} {k : Nat} (h : k < xss.length) : sPart xss k = uvar (elt [] xss k).length ++ elt [] xss k := by unfold sPart; rw [if_pos h]
theorem rows_len (zs : List Int) (xss : List (List UInt8)) : ∀ (f k : Nat), (∀ j, k ≤ j → j < k + f → j < xss.length → (elt [] xss j).length ≤ 500) → (rowsFrom zs xss f k).length ≤ 520 * f := by
  intro f
  induction f with
  | zero => intro k _; simp [rowsFrom]
  | succ f ih =>
    intro k h
    have h1 := ih (k + 1) (fun j hj h2 h3 => h j (by omega) (by omega) h3)
    have h2 := uvar_len (nAt zs k)
    have h3 : (sPart xss k).length ≤ 510 := by
      unfold sPart
      split
      · rename_i hk
        have := uvar_len (elt [] xss k).length
        have := h k (Nat.le_refl _) (by omega) hk
        rw [List.length_append]
        omega
      · simp
    unfold rowsFrom
    rw [List.length_append, List.length_append]
    omega

set_option maxHeartbeats 16000000 in
set_option maxRecDepth 100000 in
theorem VintRows_walk (A : Option Addr) (n c : Nat) (zs : List Int) (A' : Option Addr) (m c' : Nat) (xss : List (List UInt8)) (w : World) (h : RN .u64 w A n zs) (hc : n ≤ c) (h' : RBs w A' m xss) (hc' : m ≤ c') :
    Calls Try.prog 6 #[.slice A n c, .slice A' m c'] w fun e w' => e = .returned (.bool true) ∧ Below w.heap.size w w' := by
  have hnm := h.2.1
  have hmm := h'.2.1
  have hml : xss.length = m := h'.1
  have HML := hid hml
  clear hml
  have H := hid h
  have H' := hid h'
  clear h h'
  go_enter Try.func6, Try.ntmps6
  go_wp2
  go_loopw [5, 18] (fun b i wr => ∃ (k : Nat) (out : List UInt8), k ≤ n ∧ i = .int .i64 k ∧ OB wr w.heap.size b out ∧ Below w.heap.size w wr ∧ out ++ rowsFrom zs xss (n - k) k = rowsFrom zs xss n 0 ∧ out.length ≤ 520 * k ∧ k ≤ 40 ∧ (∀ j, j < k → j < m → (elt [] xss j).length ≤ 500)) (fun b i wr => n - (intOf i).toNat)
  case atStart => exact ⟨0, [], Nat.zero_le _, rfl, OB.nil _ _, Below.refl _ _, rfl, Nat.zero_le _, by omega, fun j hj => absurd hj (by omega)⟩
  case round =>
    obtain ⟨k, out, hk, rfl, hown, hB, hrow, hol, hk40, hsmall⟩ := hrel
    obtain ⟨A1, c1, rfl, hr1, hc1⟩ := hown.openN out.length rfl
    obtain ⟨ol, hol2⟩ : ∃ l, out.length = l := ⟨_, rfl⟩
    rw [hol2] at hr1 hc1 hol ⊢
    have HROW := hid hrow
    have HS := hid hsmall
    clear hrow hsmall hol2 hown
    by_cases hlt : k < n
    · obtain ⟨hx64, ad, rfl, hcx⟩ := H.out.nat hlt
      have hcx2 := below_cell hB hcx
      obtain ⟨x, hx⟩ : ∃ x, x = nAt zs k := ⟨_, rfl⟩
      rw [← hx] at hx64 hcx2
      have HX := hid hx
      clear hcx hx
      by_cases h40 : 40 ≤ k
      · have hk40' : (40 : Int) ≤ (k : Int) := by omega
        clear h40
        go_wp2_with (go_at_call 17; (with_reducible refine (awake_any _).mono ?_); rintro e w7 ⟨rfl, hb7⟩)
        go_ret
        exact ⟨rfl, below_then hB hb7⟩
      · have hk39 : ¬ ((40 : Int) ≤ (k : Int)) := by omega
        have hrowk : rowsFrom zs xss (n - k) k = uvar x ++ (sPart xss k ++ rowsFrom zs xss (n - (k + 1)) (k + 1)) := by
          obtain ⟨f, hf⟩ : ∃ f, n - k = f + 1 := ⟨n - k - 1, by omega⟩
          rw [hf, show n - (k + 1) = f from by omega, HX.out]
          rfl
        have HRK := hid hrowk
        clear hrowk
        have hux := uvar_len x
        obtain ⟨u, hu⟩ : ∃ l, (uvar x).length = l := ⟨_, rfl⟩
        rw [hu] at hux
        have HU := hid hu
        clear hu
        by_cases hkm : k < m
        · obtain ⟨ad', rfl, Aj, nj, cj, hcell, hrb, hle⟩ := H'.out.at_ hkm
          have hcell2 := below_cell hB hcell
          have hjl : (elt [] xss k).length = nj := hrb.1
          have hjm := hrb.2.1
          have HJ := hid hjl
          clear hjl
          by_cases hbig : 500 < nj
          · go_wp2_with (go_at_call 17; (with_reducible refine (awake_any _).mono ?_); rintro e w7 ⟨rfl, hb7⟩)
            go_ret
            exact ⟨rfl, below_then hB hb7⟩
          · have hol3 : ol ≤ 20800 := by omega
            go_wp2_with (first
              | (go_at_call 13; (with_reducible refine (put_any A1 ol c1 out x _ hr1 hx64 (by omega)).mono ?_); rintro e w1 ⟨v1, rfl, hown1, hb1⟩; obtain ⟨A2, c2, rfl, hr2, hc2⟩ := hown1.openN (ol + u) (by rw [List.length_append, HU.out]; exact congrArg (· + u) hr1.1); have hB1 := below_then hB hb1; have hcell3 := below_cell hB1 hcell)
              | (go_at_call 24; (with_reducible refine (putbytes_any A2 (ol + u) c2 (out ++ uvar x) Aj nj cj (elt [] xss k) _ hr2 (hrb.below hB1) (by omega)).mono ?_); rintro e w2 ⟨v2, rfl, hown2, hb2⟩))
            go_roundw
            case rel =>
              refine ⟨k + 1, out ++ uvar x ++ uvar (elt [] xss k).length ++ elt [] xss k, by omega, by go_num, hown2.mono hB1.size, below_then hB1 hb2, ?_, ?_, by omega, ?_⟩
              · rw [← HROW.out, HRK.out, sPart_some (by rw [HML.out]; exact hkm)]
                simp only [List.append_assoc]
              · have h1 := uvar_len (elt [] xss k).length
                simp only [List.length_append, HU.out, HJ.out] at *
                have h2 := hr1.1
                omega
              · intro j hj hjm
                by_cases hjk : j < k
                · exact HS.out j hjk hjm
                · obtain rfl : j = k := by omega
                  rw [HJ.out]; omega
            case measure => simp [intOf]; omega
        · have hol3 : ol ≤ 20800 := by omega
          go_wp2_with (go_at_call 13; (with_reducible refine (put_any A1 ol c1 out x _ hr1 hx64 (by omega)).mono ?_); rintro e w1 ⟨v1, rfl, hown1, hb1⟩)
          go_roundw
          case rel =>
            refine ⟨k + 1, out ++ uvar x, by omega, by go_num, hown1.mono hB.size, below_then hB hb1, ?_, ?_, by omega, ?_⟩
            · rw [← HROW.out, HRK.out, sPart_none (by rw [HML.out]; exact hkm)]
              simp only [List.append_assoc, List.nil_append]
            · rw [List.length_append, HU.out]
              have h2 := hr1.1
              omega
            · intro j hj hjm
              exact HS.out j (by omega) hjm
          case measure => simp [intOf]; omega
    · obtain rfl : k = n := by omega
      have hout : out = rowsFrom zs xss k 0 := by
        have := HROW.out
        rw [Nat.sub_self] at this
        rw [← this]
        simp [rowsFrom]
      subst hout
      go_wp2
      go_loopw [5, 56] (fun b i wr2 => ∃ (k2 l2 c2 : Nat) (A2 : Option Addr), k2 ≤ k ∧ i = .int .i64 k2 ∧ b = .slice A2 l2 c2 ∧ RB wr2 A2 l2 (rowsFrom zs xss (k - k2) k2) ∧ l2 ≤ c2 ∧ Below w.heap.size w wr2) (fun b i wr2 => k - (intOf i).toNat)
      case atStart => exact ⟨0, _, _, _, Nat.zero_le _, rfl, rfl, hr1, hc1, hB⟩
      case round =>
        clear hr1 hc1 hB
        obtain ⟨k2, l2, c2, A2, hk2, rfl, rfl, hr2, hc2, hB⟩ := hrel
        have hl2 := hr2.1
        by_cases hlt : k2 < k
        · obtain ⟨hx64, ad, rfl, hcx⟩ := H.out.nat hlt
          have hcx2 := below_cell hB hcx
          obtain ⟨x, hx⟩ : ∃ x, x = nAt zs k2 := ⟨_, rfl⟩
          rw [← hx] at hx64 hcx2
          have hrowk : rowsFrom zs xss (k - k2) k2 = uvar x ++ (sPart xss k2 ++ rowsFrom zs xss (k - (k2 + 1)) (k2 + 1)) := by
            obtain ⟨f, hf⟩ : ∃ f, k - k2 = f + 1 := ⟨k - k2 - 1, by omega⟩
            rw [hf, show k - (k2 + 1) = f from by omega, hx]
            rfl
          have hlen := rows_len zs xss (k - k2) k2 (fun j h1 h2 h3 => HS.out j (by omega) (by rw [← HML.out]; exact h3))
          rw [hl2] at hlen
          rw [hrowk] at hr2 hl2
          have hux := uvar_len x
          have hux1 := uvar_pos x
          obtain ⟨u, hu⟩ : ∃ l, (uvar x).length = l := ⟨_, rfl⟩
          have hT := take_any A2 l2 c2 _ _ hr2
          rw [takeU_uvar hx64, hu] at hT
          rw [List.length_append, hu] at hl2
          rw [hu] at hux hux1
          have hul : u ≤ l2 := by omega
          have hul2 : l2 ≤ 20800 := by omega
          have hu1 : ¬ ((u : Int) < 1) := by omega
          have hu2 : ¬ ((l2 : Int) < (u : Int)) := by omega
          obtain ⟨A3, c3, hsl, hrs, hc3⟩ := cutB_lo (A := A2) (n := l2) (c := c2) hc2 (lo := u) hul (u : Int) rfl
          have hr3 := hrs _ _ hr2
          rw [List.drop_left' hu] at hr3
          have HT := hid hT
          clear hT hcx hx hrowk hu hrs hr2 hl2 hlen
          by_cases hkm : k2 < m
          · obtain ⟨ad', rfl, Aj, nj, cj, hcell, hrb, hle⟩ := H'.out.at_ hkm
            have hcell2 := below_cell hB hcell
            have hjl : (elt [] xss k2).length = nj := hrb.1
            have hj5 := HS.out k2 hlt hkm
            rw [hjl] at hj5
            rw [sPart_some (by rw [HML.out]; exact hkm), hjl, List.append_assoc] at hr3
            have hul3 := uvar_len nj
            have hul31 := uvar_pos nj
            obtain ⟨q, hq⟩ : ∃ l, (uvar nj).length = l := ⟨_, rfl⟩
            rw [hq] at hul3 hul31
            have hT2 := takeB_put (elt [] xss k2) (rowsFrom zs xss (k - (k2 + 1)) (k2 + 1)) 500 (by omega) (by omega)
            rw [hjl, hq] at hT2
            have hl3 := hr3.1
            simp only [List.length_append, hq, hjl] at hl3
            have hqj : q + nj ≤ l2 - u := by omega
            have hq1 : ¬ ((q : Int) + (nj : Int) < 1) := by omega
            have hq2 : ¬ (((l2 - u : Nat) : Int) < (q : Int) + (nj : Int)) := by omega
            obtain ⟨A4, c4, hsl4, hrs4, hc4⟩ := cutB_lo (A := A3) (n := l2 - u) (c := c3) hc3 (lo := q + nj) hqj ((q : Int) + (nj : Int)) (by push_cast; rfl)
            have hr4 := hrs4 _ _ hr3
            rw [← List.append_assoc, List.drop_left' (by rw [List.length_append, hq, hjl])] at hr4
            have HT2 := hid hT2
            clear hT2 hrs4 hq hjl hl3
            have hb1 : (0 : Int) ≤ (k2 : Int) := by omega
            have hb2 : (k2 : Int) < (m : Int) := by omega
            obtain ⟨l3, hl3⟩ : ∃ l3, l3 = l2 - u := ⟨_, rfl⟩
            rw [← hl3] at hsl hsl4 hr3 hr4 hqj hq2 hc3 hc4
            have hl320 : l3 ≤ 20800 := by omega
            have HL3 := hid hl3
            clear hl3
            go_wp2_with (first
              | (go_at_call 11; refine (HT.out).mono ?_; rintro e w4 ⟨rfl, rfl⟩)
              | (go_at_call 22; (with_reducible refine (takebytes_any A3 l3 c3 _ 500 _ hr3 hc3 (by omega) (by omega)).mono ?_); rintro e w5 ⟨v5, rfl, hown5, hb5⟩; rw [HT2.out] at hown5 ⊢; have hB5 := below_then hB hb5; have hcell5 := below_cell hB5 hcell; have hrb5 := hrb.below hB5))
            apply wp_region_txt [none, none, none, none, none, none, none, none, none, none, none, none, none, none, none, none, none, none, none, none, none, none, none, none, none, none, none, none, none, none, none, none, none, none, none, none, none, none, none, none, none, none, none, none, none, none, none, none, none, none, none, none, none, none, none, none, none, none, none, none, none, none, none, none, none, none, none, none, none, none, none, none, none, none, none, none, none, none, none, none, none, none, none, none, none, none, none, none, none, none, none, none, none, none, none, none, none, some 0, some 1, some 2, some 3, some 4, some 5, some 6, some 7, some 8, some 9, some 10, some 11, some 12, some 13, some 14, some 15, some 16, some 17, some 18, some 19, some 20, some 21, none, none, none, none, none, none, none, none, none, none] [] [] [_, _, _, _, _, _, _, _, _, _, _, _, _, _, _, _, _, _, _, _, _, _] [[], [], [], [], [], [], [], [], [], [], [], [], [], [], [], [], [], [], [], [], [], []]
            case hm => rfl
            case hs => rfl
            case hst => kernel_rfl
            case hput => exact OpsOK.cons (fun _ _ => rfl) (OpsOK.cons (fun _ _ => rfl) (OpsOK.cons (fun _ _ => rfl) (OpsOK.cons (fun _ _ => rfl) (OpsOK.cons (fun _ _ => rfl) (OpsOK.cons (fun _ _ => rfl) (OpsOK.cons (fun _ _ => rfl) (OpsOK.cons (fun _ _ => rfl) (OpsOK.cons (fun _ _ => rfl) (OpsOK.cons (fun _ _ => rfl) (OpsOK.cons (fun _ _ => rfl) (OpsOK.cons (fun _ _ => rfl) (OpsOK.cons (fun _ _ => rfl) (OpsOK.cons (fun _ _ => rfl) (OpsOK.cons (fun _ _ => rfl) (OpsOK.cons (fun _ _ => rfl) (OpsOK.cons (fun _ _ => rfl) (OpsOK.cons (fun _ _ => rfl) (OpsOK.cons (fun _ _ => rfl) (OpsOK.cons (fun _ _ => rfl) (OpsOK.cons (fun _ _ => rfl) (OpsOK.cons (fun _ _ => rfl) (OpsOK.nil))))))))))))))))))))))
            case hops =>
              refine OpsOK.cons ?_ ?_
              · intro u W K hB hd hK
                replace hK := hk_val hK (by decide) (by rfl)
                clear hd
                simp only [lay, Act.put, List.setIfInBounds_toArray, List.set_cons_zero, List.set_cons_succ] at hK ⊢
                go_simp
                exact hK.out _ _ rfl (Below.refl _ _)
              refine OpsOK.cons ?_ ?_
              · intro u W K hB hd hK
                have h0 := fact_val (dep_of hd 0 (by kernel_rfl) (by kernel_rfl)) (by decide)
                dsimp only [nth] at h0
                replace hK := hk_val hK (by decide) (by rfl)
                clear hd
                simp only [lay, Act.put, List.setIfInBounds_toArray, List.set_cons_zero, List.set_cons_succ, h0] at hK ⊢
                go_simp
                exact hK.out _ _ rfl (Below.refl _ _)
              refine OpsOK.cons ?_ ?_
              · intro u W K hB hd hK
                have h1 := fact_val (dep_of hd 1 (by kernel_rfl) (by kernel_rfl)) (by decide)
                dsimp only [nth] at h1
                replace hK := hk_val hK (by decide) (by rfl)
                clear hd
                simp only [lay, Act.put, List.setIfInBounds_toArray, List.set_cons_zero, List.set_cons_succ, h1] at hK ⊢
                go_simp
                exact hK.out _ _ rfl (Below.refl _ _)
              refine OpsOK.cons ?_ ?_
              · intro u W K hB hd hK
                have h2 := fact_val (dep_of hd 2 (by kernel_rfl) (by kernel_rfl)) (by decide)
                dsimp only [nth] at h2
                replace hK := hk_val hK (by decide) (by rfl)
                clear hd
                simp only [lay, Act.put, List.setIfInBounds_toArray, List.set_cons_zero, List.set_cons_succ, h2] at hK ⊢
                go_simp
                exact hK.out _ _ rfl (Below.refl _ _)
              refine OpsOK.cons ?_ ?_
              · intro u W K hB hd hK
                have h2 := fact_val (dep_of hd 2 (by kernel_rfl) (by kernel_rfl)) (by decide)
                dsimp only [nth] at h2
                have h3 := fact_val (dep_of hd 3 (by kernel_rfl) (by kernel_rfl)) (by decide)
                dsimp only [nth] at h3
                replace hK := hk_val hK (by decide) (by rfl)
                clear hd
                simp only [lay, Act.put, List.setIfInBounds_toArray, List.set_cons_zero, List.set_cons_succ, h2, h3] at hK ⊢
                have hcv := OB.conv (hown5.below hB)
                go_simp
                exact hK.out _ _ rfl (Below.refl _ _)
              refine OpsOK.cons ?_ ?_
              · intro u W K hB hd hK
                have h2 := fact_val (dep_of hd 2 (by kernel_rfl) (by kernel_rfl)) (by decide)
                dsimp only [nth] at h2
                replace hK := hk_val hK (by decide) (by rfl)
                clear hd
                simp only [lay, Act.put, List.setIfInBounds_toArray, List.set_cons_zero, List.set_cons_succ, h2] at hK ⊢
                go_simp
                exact hK.out _ _ rfl (Below.refl _ _)
              refine OpsOK.cons ?_ ?_
              · intro u W K hB hd hK
                have h2 := fact_val (dep_of hd 2 (by kernel_rfl) (by kernel_rfl)) (by decide)
                dsimp only [nth] at h2
                replace hK := hk_val hK (by decide) (by rfl)
                clear hd
                simp only [lay, Act.put, List.setIfInBounds_toArray, List.set_cons_zero, List.set_cons_succ, h2] at hK ⊢
                go_simp
                exact hK.out _ _ rfl (Below.refl _ _)
              refine OpsOK.cons ?_ ?_
              · intro u W K hB hd hK
                have h2 := fact_val (dep_of hd 2 (by kernel_rfl) (by kernel_rfl)) (by decide)
                dsimp only [nth] at h2
                have h5 := fact_val (dep_of hd 5 (by kernel_rfl) (by kernel_rfl)) (by decide)
                dsimp only [nth] at h5
                have h6 := fact_val (dep_of hd 6 (by kernel_rfl) (by kernel_rfl)) (by decide)
                dsimp only [nth] at h6
                replace hK := hk_val hK (by decide) (by rfl)
                clear hd
                simp only [lay, Act.put, List.setIfInBounds_toArray, List.set_cons_zero, List.set_cons_succ, h2, h5, h6] at hK ⊢
                go_simp
                exact hK.out _ _ rfl (Below.refl _ _)
              refine OpsOK.cons ?_ ?_
              · intro u W K hB hd hK
                have h2 := fact_val (dep_of hd 2 (by kernel_rfl) (by kernel_rfl)) (by decide)
                dsimp only [nth] at h2
                have h7 := fact_val (dep_of hd 7 (by kernel_rfl) (by kernel_rfl)) (by decide)
                dsimp only [nth] at h7
                replace hK := hk_val hK (by decide) (by rfl)
                clear hd
                simp only [lay, Act.put, List.setIfInBounds_toArray, List.set_cons_zero, List.set_cons_succ, h2, h7] at hK ⊢
                have hcl := below_cell hB hcell5
                go_simp
                exact hK.out _ _ rfl (Below.refl _ _)
              refine OpsOK.cons ?_ ?_
              · intro u W K hB hd hK
                have h2 := fact_val (dep_of hd 2 (by kernel_rfl) (by kernel_rfl)) (by decide)
                dsimp only [nth] at h2
                have h8 := fact_val (dep_of hd 8 (by kernel_rfl) (by kernel_rfl)) (by decide)
                dsimp only [nth] at h8
                replace hK := hk_val hK (by decide) (by rfl)
                clear hd
                simp only [lay, Act.put, List.setIfInBounds_toArray, List.set_cons_zero, List.set_cons_succ, h2, h8] at hK ⊢
                have hcv := RB.conv (hrb5.below hB) cj
                go_simp
                exact hK.out _ _ rfl (Below.refl _ _)
              refine OpsOK.cons ?_ ?_
              · intro u W K hB hd hK
                have h2 := fact_val (dep_of hd 2 (by kernel_rfl) (by kernel_rfl)) (by decide)
                dsimp only [nth] at h2
                have h4 := fact_val (dep_of hd 4 (by kernel_rfl) (by kernel_rfl)) (by decide)
                dsimp only [nth] at h4
                have h9 := fact_val (dep_of hd 9 (by kernel_rfl) (by kernel_rfl)) (by decide)
                dsimp only [nth] at h9
                replace hK := hk_val hK (by decide) (by rfl)
                clear hd
                simp only [lay, Act.put, List.setIfInBounds_toArray, List.set_cons_zero, List.set_cons_succ, h2, h4, h9] at hK ⊢
                go_simp
                exact hK.out _ _ rfl (Below.refl _ _)
              refine OpsOK.cons ?_ ?_
              · intro u W K hB hd hK
                have h2 := fact_val (dep_of hd 2 (by kernel_rfl) (by kernel_rfl)) (by decide)
                dsimp only [nth] at h2
                have h10 := fact_val (dep_of hd 10 (by kernel_rfl) (by kernel_rfl)) (by decide)
                dsimp only [nth] at h10
                replace hK := hk_val hK (by decide) (by rfl)
                clear hd
                simp only [lay, Act.put, List.setIfInBounds_toArray, List.set_cons_zero, List.set_cons_succ, h2, h10] at hK ⊢
                go_simp
                exact hK.out _ _ rfl (Below.refl _ _)
              refine OpsOK.cons ?_ ?_
              · intro u W K hB hd hK
                have h2 := fact_val (dep_of hd 2 (by kernel_rfl) (by kernel_rfl)) (by decide)
                dsimp only [nth] at h2
                have h11 := fact_val (dep_of hd 11 (by kernel_rfl) (by kernel_rfl)) (by decide)
                dsimp only [nth] at h11
                replace hK := hk_val hK (by decide) (by rfl)
                clear hd
                simp only [lay, Act.put, List.setIfInBounds_toArray, List.set_cons_zero, List.set_cons_succ, h2, h11] at hK ⊢
                go_simp
                exact hK.out _ _ rfl (Below.refl _ _)
              refine OpsOK.cons ?_ ?_
              · intro u W K hB hd hK
                have h12 := fact_val (dep_of hd 12 (by kernel_rfl) (by kernel_rfl)) (by decide)
                dsimp only [nth] at h12
                replace hK := hk_val hK (by decide) (by rfl)
                clear hd
                simp only [lay, Act.put, List.setIfInBounds_toArray, List.set_cons_zero, List.set_cons_succ, h12] at hK ⊢
                go_simp
                exact hK.out _ _ rfl (Below.refl _ _)
              refine OpsOK.cons ?_ ?_
              · intro u W K hB hd hK
                have h12 := fact_val (dep_of hd 12 (by kernel_rfl) (by kernel_rfl)) (by decide)
                dsimp only [nth] at h12
                have h13 := fact_val (dep_of hd 13 (by kernel_rfl) (by kernel_rfl)) (by decide)
                dsimp only [nth] at h13
                replace hK := hk_val hK (by decide) (by rfl)
                clear hd
                simp only [lay, Act.put, List.setIfInBounds_toArray, List.set_cons_zero, List.set_cons_succ, h12, h13] at hK ⊢
                go_simp
                exact hK.out _ _ rfl (Below.refl _ _)
              refine OpsOK.cons ?_ ?_
              · intro u W K hB hd hK
                have h12 := fact_val (dep_of hd 12 (by kernel_rfl) (by kernel_rfl)) (by decide)
                dsimp only [nth] at h12
                have h14 := fact_val (dep_of hd 14 (by kernel_rfl) (by kernel_rfl)) (by decide)
                dsimp only [nth] at h14
                replace hK := hk_val hK (by decide) (by rfl)
                clear hd
                simp only [lay, Act.put, List.setIfInBounds_toArray, List.set_cons_zero, List.set_cons_succ, h12, h14] at hK ⊢
                go_simp
                exact hK.out _ _ rfl (Below.refl _ _)
              refine OpsOK.cons ?_ ?_
              · intro u W K hB hd hK
                have h12 := fact_val (dep_of hd 12 (by kernel_rfl) (by kernel_rfl)) (by decide)
                dsimp only [nth] at h12
                have h15 := fact_val (dep_of hd 15 (by kernel_rfl) (by kernel_rfl)) (by decide)
                dsimp only [nth] at h15
                replace hK := hk_val hK (by decide) (by rfl)
                clear hd
                simp only [lay, Act.put, List.setIfInBounds_toArray, List.set_cons_zero, List.set_cons_succ, h12, h15] at hK ⊢
                go_simp
                exact hK.out _ _ rfl (Below.refl _ _)
              refine OpsOK.cons ?_ ?_
              · intro u W K hB hd hK
                have h16 := fact_val (dep_of hd 16 (by kernel_rfl) (by kernel_rfl)) (by decide)
                dsimp only [nth] at h16
                replace hK := hk_val hK (by decide) (by rfl)
                clear hd
                simp only [lay, Act.put, List.setIfInBounds_toArray, List.set_cons_zero, List.set_cons_succ, h16] at hK ⊢
                go_simp
                exact hK.out _ _ rfl (Below.refl _ _)
              refine OpsOK.cons ?_ ?_
              · intro u W K hB hd hK
                have h16 := fact_val (dep_of hd 16 (by kernel_rfl) (by kernel_rfl)) (by decide)
                dsimp only [nth] at h16
                replace hK := hk_val hK (by decide) (by rfl)
                clear hd
                simp only [lay, Act.put, List.setIfInBounds_toArray, List.set_cons_zero, List.set_cons_succ, h16] at hK ⊢
                go_simp
                exact hK.out _ _ rfl (Below.refl _ _)
              refine OpsOK.cons ?_ ?_
              · intro u W K hB hd hK
                have h16 := fact_val (dep_of hd 16 (by kernel_rfl) (by kernel_rfl)) (by decide)
                dsimp only [nth] at h16
                have h18 := fact_val (dep_of hd 18 (by kernel_rfl) (by kernel_rfl)) (by decide)
                dsimp only [nth] at h18
                replace hK := hk_val hK (by decide) (by rfl)
                clear hd
                simp only [lay, Act.put, List.setIfInBounds_toArray, List.set_cons_zero, List.set_cons_succ, h16, h18] at hK ⊢
                go_simp
                exact hK.out _ _ rfl (Below.refl _ _)
              refine OpsOK.cons ?_ ?_
              · intro u W K hB hd hK
                have h16 := fact_val (dep_of hd 16 (by kernel_rfl) (by kernel_rfl)) (by decide)
                dsimp only [nth] at h16
                have h17 := fact_val (dep_of hd 17 (by kernel_rfl) (by kernel_rfl)) (by decide)
                dsimp only [nth] at h17
                have h19 := fact_val (dep_of hd 19 (by kernel_rfl) (by kernel_rfl)) (by decide)
                dsimp only [nth] at h19
                replace hK := hk_val hK (by decide) (by rfl)
                clear hd
                simp only [lay, Act.put, List.setIfInBounds_toArray, List.set_cons_zero, List.set_cons_succ, h16, h17, h19] at hK ⊢
                go_simp
                exact hK.out _ _ rfl (Below.refl _ _)
              refine OpsOK.cons ?_ ?_
              · intro u W K hB hd hK
                have h16 := fact_val (dep_of hd 16 (by kernel_rfl) (by kernel_rfl)) (by decide)
                dsimp only [nth] at h16
                have h20 := fact_val (dep_of hd 20 (by kernel_rfl) (by kernel_rfl)) (by decide)
                dsimp only [nth] at h20
                replace hK := hk_val hK (by decide) (by rfl)
                clear hd
                simp only [lay, Act.put, List.setIfInBounds_toArray, List.set_cons_zero, List.set_cons_succ, h16, h20] at hK ⊢
                go_simp
                exact hK.out _ _ rfl (Below.refl _ _)
              exact OpsOK.nil
            intro u W hB hf
            have h0 := fact_val (hf 0 (by decide) (by decide)) (by decide)
            dsimp only [nth] at h0
            have h1 := fact_val (hf 1 (by decide) (by decide)) (by decide)
            dsimp only [nth] at h1
            have h2 := fact_val (hf 2 (by decide) (by decide)) (by decide)
            dsimp only [nth] at h2
            have h3 := fact_val (hf 3 (by decide) (by decide)) (by decide)
            dsimp only [nth] at h3
            have h4 := fact_val (hf 4 (by decide) (by decide)) (by decide)
            dsimp only [nth] at h4
            have h5 := fact_val (hf 5 (by decide) (by decide)) (by decide)
            dsimp only [nth] at h5
            have h6 := fact_val (hf 6 (by decide) (by decide)) (by decide)
            dsimp only [nth] at h6
            have h7 := fact_val (hf 7 (by decide) (by decide)) (by decide)
            dsimp only [nth] at h7
            have h8 := fact_val (hf 8 (by decide) (by decide)) (by decide)
            dsimp only [nth] at h8
            have h9 := fact_val (hf 9 (by decide) (by decide)) (by decide)
            dsimp only [nth] at h9
            have h10 := fact_val (hf 10 (by decide) (by decide)) (by decide)
            dsimp only [nth] at h10
            have h11 := fact_val (hf 11 (by decide) (by decide)) (by decide)
            dsimp only [nth] at h11
            have h12 := fact_val (hf 12 (by decide) (by decide)) (by decide)
            dsimp only [nth] at h12
            have h13 := fact_val (hf 13 (by decide) (by decide)) (by decide)
            dsimp only [nth] at h13
            have h14 := fact_val (hf 14 (by decide) (by decide)) (by decide)
            dsimp only [nth] at h14
            have h15 := fact_val (hf 15 (by decide) (by decide)) (by decide)
            dsimp only [nth] at h15
            have h16 := fact_val (hf 16 (by decide) (by decide)) (by decide)
            dsimp only [nth] at h16
            have h17 := fact_val (hf 17 (by decide) (by decide)) (by decide)
            dsimp only [nth] at h17
            have h18 := fact_val (hf 18 (by decide) (by decide)) (by decide)
            dsimp only [nth] at h18
            have h19 := fact_val (hf 19 (by decide) (by decide)) (by decide)
            dsimp only [nth] at h19
            have h20 := fact_val (hf 20 (by decide) (by decide)) (by decide)
            dsimp only [nth] at h20
            have h21 := fact_val (hf 21 (by decide) (by decide)) (by decide)
            dsimp only [nth] at h21
            clear hf
            simp only [lay, h0, h1, h2, h3, h4, h5, h6, h7, h8, h9, h10, h11, h12, h13, h14, h15, h16, h17, h18, h19, h20, h21]
            clear h0 h1 h2 h3 h4 h5 h6 h7 h8 h9 h10 h11 h12 h13 h14 h15 h16 h17 h18 h19 h20 h21
            go_wp2
            go_roundw
            case rel => exact ⟨k2 + 1, _, _, _, by omega, by go_num, rfl, hr4.below (below_then hb5 hB), hc4, below_then hB5 hB⟩
            case measure => simp [intOf]; omega
          · go_wp2_with (go_at_call 11; refine (HT.out).mono ?_; rintro e w4 ⟨rfl, rfl⟩)
            go_roundw
            case rel =>
              refine ⟨k2 + 1, _, _, _, by omega, by go_num, rfl, ?_, hc3, hB⟩
              rw [sPart_none (by rw [HML.out]; exact hkm)] at hr3
              exact hr3
            case measure => simp [intOf]; omega
        · obtain rfl : k2 = k := by omega
          obtain rfl : l2 = 0 := by rw [← hl2, Nat.sub_self]; rfl
          go_wp2_with (go_at_call 17; (with_reducible refine (awake_any _).mono ?_); rintro e w7 ⟨rfl, hb7⟩)
          go_ret
          exact ⟨rfl, below_then hB hb7⟩
end Go.Proofs.Ytbjpbnflioiccaa
