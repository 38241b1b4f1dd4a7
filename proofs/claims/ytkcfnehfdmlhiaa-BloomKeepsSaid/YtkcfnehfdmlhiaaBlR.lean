/- Layer 10: Has, and the walks of the first two statements. -/
import Derived.Test.YtkcfnehfdmlhiaaBlQ
import Derived.Test.YtkcfnehfdmlhiaaO
import Derived.Test.YtkcfnehfdmlhiaaRF
namespace Go.Proofs.Ytkcfnehfdmlhiaa
open Go.RowKit
set_option linter.unusedVariables false
set_option linter.unusedSimpArgs false

set_option maxHeartbeats 8000000 in
set_option maxRecDepth 100000 in
theorem BloomHashes_walk (A : Option Addr) (n c : Nat) (xs : List UInt8) (z : Int) (w : World) (h : RB w A n xs) (hc : n ≤ c) (hsz : n ≤ 140737488351232) (hz : (Lit.int .i64 z).wf = true) :
    Calls Try.prog 3 #[.slice A n c, .int .i64 z] w fun e w' => e = .returned (.bool true) ∧ Below w.heap.size w w' := by
  have hm := wf_i64 hz
  have hL : (probesL xs z).length ≤ 6 := by
    unfold probesL
    split
    · simp
    · rw [probesI_len]; exact Nat.le_refl _
  obtain ⟨L, hLe⟩ : ∃ L, (probesL xs z).length = L := ⟨_, rfl⟩
  rw [hLe] at hL
  have HL := hid hLe
  clear hLe hz
  go_enter Try.func3, Try.ntmps3
  go_wp2_with (first
    | (go_at_call 8; (with_reducible refine (probes_any A n c xs z _ h hm).mono ?_); rintro e w1 ⟨v1, rfl, hown1, hb1⟩; have h2 := h.below hb1; obtain ⟨A1, c1, e1, hc1⟩ := hown1.slice L HL.out)
    | (go_at_call 9; (with_reducible refine (refprobes_any A n c xs z _ h2 hm).mono ?_); rintro e w2 ⟨v2, rfl, hown2, hb2⟩; obtain ⟨A2, c2, e2, hc2⟩ := hown2.slice L HL.out; have hown1' := hown1.below hb2; have hB0 := below_then hb1 hb2; have h3 := h2.below hb2; subst e1 e2))
  clear hown1 hb1 hb2 h h2
  go_loopw [21] (fun i wr => ∃ k : Nat, k ≤ L ∧ i = .int .i64 k ∧ Below w2.heap.size w2 wr) (fun i wr => L - (intOf i).toNat)
  case atStart => exact ⟨0, by omega, rfl, Below.refl _ _⟩
  case round =>
    obtain ⟨k, hk, rfl, hBr⟩ := hrel
    by_cases hlt : k < L
    · obtain ⟨g1, d1, e1, _, _, _⟩ := hown1'.form L HL.out (by omega)
      obtain ⟨g2, d2, e2, _, _, _⟩ := hown2.form L HL.out (by omega)
      cases e1
      cases e2
      have k1 := below_cell hBr (hown1'.cell HL.out hlt)
      have k2 := below_cell hBr (hown2.cell HL.out hlt)
      go_wp2
      apply wp_region_txt [none, none, none, none, none, none, none, none, none, none, none, none, none, none, none, none, none, none, none, none, none, none, none, none, some 0, some 1, some 2, some 3, some 4, some 5, some 6, some 7, some 8, none, none, none, none, none, none, none, none, none] [] [] [_, _, _, _, _, _, _, _, _] [[], [], [], [], [], [], [], [], []]
      case hm => rfl
      case hs => rfl
      case hst => kernel_rfl
      case hput => exact OpsOK.cons (fun _ _ => rfl) (OpsOK.cons (fun _ _ => rfl) (OpsOK.cons (fun _ _ => rfl) (OpsOK.cons (fun _ _ => rfl) (OpsOK.cons (fun _ _ => rfl) (OpsOK.cons (fun _ _ => rfl) (OpsOK.cons (fun _ _ => rfl) (OpsOK.cons (fun _ _ => rfl) (OpsOK.cons (fun _ _ => rfl) (OpsOK.nil)))))))))
      case hops =>
        refine OpsOK.cons ?_ ?_
        · intro u W K hB hd hK
          replace hK := hk_val hK (by decide) (by rfl)
          clear hd
          simp only [lay, Act.put, List.setIfInBounds_toArray, List.set_cons_zero, List.set_cons_succ] at hK ⊢
          go_simp
          exact hK.out _ _ rfl (Below.refl _ _)
        refine OpsOK.cons ?_ ?_
        · intro u W K hB hd hK
          replace hK := hk_val hK (by decide) (by rfl)
          clear hd
          simp only [lay, Act.put, List.setIfInBounds_toArray, List.set_cons_zero, List.set_cons_succ] at hK ⊢
          go_simp
          exact hK.out _ _ rfl (Below.refl _ _)
        refine OpsOK.cons ?_ ?_
        · intro u W K hB hd hK
          have h0 := fact_val (dep_of hd 0 (by kernel_rfl) (by kernel_rfl)) (by decide)
          dsimp only [nth] at h0
          have h1 := fact_val (dep_of hd 1 (by kernel_rfl) (by kernel_rfl)) (by decide)
          dsimp only [nth] at h1
          replace hK := hk_val hK (by decide) (by rfl)
          clear hd
          simp only [lay, Act.put, List.setIfInBounds_toArray, List.set_cons_zero, List.set_cons_succ, h0, h1] at hK ⊢
          go_simp
          exact hK.out _ _ rfl (Below.refl _ _)
        refine OpsOK.cons ?_ ?_
        · intro u W K hB hd hK
          have h2 := fact_val (dep_of hd 2 (by kernel_rfl) (by kernel_rfl)) (by decide)
          dsimp only [nth] at h2
          replace hK := hk_val hK (by decide) (by rfl)
          clear hd
          simp only [lay, Act.put, List.setIfInBounds_toArray, List.set_cons_zero, List.set_cons_succ, h2] at hK ⊢
          have hcl := below_cell hB k1
          go_simp
          exact hK.out _ _ rfl (Below.refl _ _)
        refine OpsOK.cons ?_ ?_
        · intro u W K hB hd hK
          replace hK := hk_val hK (by decide) (by rfl)
          clear hd
          simp only [lay, Act.put, List.setIfInBounds_toArray, List.set_cons_zero, List.set_cons_succ] at hK ⊢
          go_simp
          exact hK.out _ _ rfl (Below.refl _ _)
        refine OpsOK.cons ?_ ?_
        · intro u W K hB hd hK
          replace hK := hk_val hK (by decide) (by rfl)
          clear hd
          simp only [lay, Act.put, List.setIfInBounds_toArray, List.set_cons_zero, List.set_cons_succ] at hK ⊢
          go_simp
          exact hK.out _ _ rfl (Below.refl _ _)
        refine OpsOK.cons ?_ ?_
        · intro u W K hB hd hK
          have h4 := fact_val (dep_of hd 4 (by kernel_rfl) (by kernel_rfl)) (by decide)
          dsimp only [nth] at h4
          have h5 := fact_val (dep_of hd 5 (by kernel_rfl) (by kernel_rfl)) (by decide)
          dsimp only [nth] at h5
          replace hK := hk_val hK (by decide) (by rfl)
          clear hd
          simp only [lay, Act.put, List.setIfInBounds_toArray, List.set_cons_zero, List.set_cons_succ, h4, h5] at hK ⊢
          go_simp
          exact hK.out _ _ rfl (Below.refl _ _)
        refine OpsOK.cons ?_ ?_
        · intro u W K hB hd hK
          have h6 := fact_val (dep_of hd 6 (by kernel_rfl) (by kernel_rfl)) (by decide)
          dsimp only [nth] at h6
          replace hK := hk_val hK (by decide) (by rfl)
          clear hd
          simp only [lay, Act.put, List.setIfInBounds_toArray, List.set_cons_zero, List.set_cons_succ, h6] at hK ⊢
          have hcl := below_cell hB k2
          go_simp
          exact hK.out _ _ rfl (Below.refl _ _)
        refine OpsOK.cons ?_ ?_
        · intro u W K hB hd hK
          have h3 := fact_val (dep_of hd 3 (by kernel_rfl) (by kernel_rfl)) (by decide)
          dsimp only [nth] at h3
          have h7 := fact_val (dep_of hd 7 (by kernel_rfl) (by kernel_rfl)) (by decide)
          dsimp only [nth] at h7
          replace hK := hk_val hK (by decide) (by rfl)
          clear hd
          simp only [lay, Act.put, List.setIfInBounds_toArray, List.set_cons_zero, List.set_cons_succ, h3, h7] at hK ⊢
          go_simp
          exact hK.out _ _ rfl (Below.refl _ _)
        exact OpsOK.nil
      intro u W hB hf
      have h0 := fact_val (hf 0 (by decide) (by decide)) (by decide)
      dsimp only [nth] at h0
      have h1 := fact_val (hf 1 (by decide) (by decide)) (by decide)
      dsimp only [nth] at h1
      have h2 := fact_val (hf 2 (by decide) (by decide)) (by decide)
      dsimp only [nth] at h2
      have h3 := fact_val (hf 3 (by decide) (by decide)) (by decide)
      dsimp only [nth] at h3
      have h4 := fact_val (hf 4 (by decide) (by decide)) (by decide)
      dsimp only [nth] at h4
      have h5 := fact_val (hf 5 (by decide) (by decide)) (by decide)
      dsimp only [nth] at h5
      have h6 := fact_val (hf 6 (by decide) (by decide)) (by decide)
      dsimp only [nth] at h6
      have h7 := fact_val (hf 7 (by decide) (by decide)) (by decide)
      dsimp only [nth] at h7
      have h8 := fact_val (hf 8 (by decide) (by decide)) (by decide)
      dsimp only [nth] at h8
      clear hf
      simp only [lay, h0, h1, h2, h3, h4, h5, h6, h7, h8]
      clear h0 h1 h2 h3 h4 h5 h6 h7 h8
      go_wp2
      go_roundw
      case rel => exact ⟨k + 1, by omega, by go_num, below_then hBr hB⟩
      case measure => simp [intOf]; omega
    · obtain rfl : k = L := by omega
      go_wp2_with (first
        | (go_at_call 10; (with_reducible refine (hash_any A n c xs _ (h3.below hBr)).mono ?_); rintro e w4 ⟨rfl, rfl⟩)
        | (go_at_call 11; (with_reducible refine (refhash_any A n c xs _ (h3.below hBr)).mono ?_); rintro e w4 ⟨rfl, rfl⟩)
        | (go_at_call 12; (with_reducible refine (awake_any _).mono ?_); rintro e w4 ⟨rfl, rfl⟩))
      go_ret
      exact ⟨rfl, below_then hB0 hBr⟩
end Go.Proofs.Ytkcfnehfdmlhiaa
