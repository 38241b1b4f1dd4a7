/- Entries alike; rows of entries alike. -/
import Derived.Test.YteediedhofapkaaEnB
import Derived.Test.YteediedhofapkaaR
import Derived.Test.YteediedhofapkaaRF
namespace Go.Proofs.Yteediedhofapkaa
open Go.RowKit
set_option linter.unusedVariables false
set_option linter.unusedSimpArgs false

set_option maxHeartbeats 16000000 in
theorem sameentry_any (A1 : Option Addr) (n1 c1 : Nat) (B1 : Option Addr) (m1 d1 : Nat) (A2 : Option Addr) (n2 c2 : Nat) (B2 : Option Addr) (m2 d2 : Nat) (q : Int) (g : Bool) (t : Int) (key val : List UInt8) (w : World)
    (h1 : RB w A1 n1 key) (h2 : RB w B1 m1 val) (h3 : RB w A2 n2 key) (h4 : RB w B2 m2 val) :
    Calls Try.prog 14 #[.agg #[.slice A1 n1 c1, .int .i64 q, .bool g, .int .i64 t, .slice B1 m1 d1], .agg #[.slice A2 n2 c2, .int .i64 q, .bool g, .int .i64 t, .slice B2 m2 d2]] w fun e w' => e = .returned (.bool true) ∧ Below w.heap.size w w' := by
  have k1 := fun ob ob' => RB.conv ((h1.alloc ob).alloc ob') c1
  have k2 := fun ob ob' => RB.conv ((h2.alloc ob).alloc ob') d1
  have k3 := fun ob ob' => RB.conv ((h3.alloc ob).alloc ob') c2
  have k4 := fun ob ob' => RB.conv ((h4.alloc ob).alloc ob') d2
  clear h1 h2 h3 h4
  go_enter Try.func14, Try.ntmps14
  go_wp2
  go_ret
  exact ⟨rfl, below_alloc' (below_alloc' (Below.refl _ _) _) _⟩
set_option maxHeartbeats 16000000 in
set_option maxRecDepth 100000 in
theorem sameentries_any (A1 : Option Addr) (c1 : Nat) (A2 : Option Addr) (c2 n : Nat) (L : List EntR) (w : World) (h1 : REnts w A1 n L) (h2 : REnts w A2 n L) :
    Calls Try.prog 9 #[.slice A1 n c1, .slice A2 n c2] w fun e w' => e = .returned (.bool true) ∧ Below w.heap.size w w' := by
  have hm := h1.2.1
  have H1 := hid h1
  have H2 := hid h2
  clear h1 h2
  go_enter Try.func9, Try.ntmps9
  go_wp2
  go_loopw [13] (fun i wr => ∃ k : Nat, k ≤ n ∧ i = .int .i64 k ∧ Below w.heap.size w wr) (fun i wr => n - (intOf i).toNat)
  case atStart => exact ⟨0, Nat.zero_le _, rfl, Below.refl _ _⟩
  case round =>
    obtain ⟨k, hk, rfl, hBr⟩ := hrel
    by_cases hlt : k < n
    · obtain ⟨ad1, rfl, hc1⟩ := H1.out.at_ hlt
      obtain ⟨ad2, rfl, hc2⟩ := H2.out.at_ hlt
      obtain ⟨Ak, nk, ck, Av, nv, cv, a0, a1, a2, a3, a4, a5, a6, _, _⟩ := hc1
      obtain ⟨Bk, mk, dk, Bv, mv, dv, b0, b1, b2, b3, b4, b5, b6, _, _⟩ := hc2
      generalize elt noEnt L k = x at *
      have a0 := below_cell hBr a0
      have a1 := below_cell hBr a1
      have a2 := below_cell hBr a2
      have a3 := below_cell hBr a3
      have a4 := below_cell hBr a4
      have a5 := a5.below hBr
      have a6 := a6.below hBr
      have b0 := below_cell hBr b0
      have b1 := below_cell hBr b1
      have b2 := below_cell hBr b2
      have b3 := below_cell hBr b3
      have b4 := below_cell hBr b4
      have b5 := b5.below hBr
      have b6 := b6.below hBr
      go_wp2
      apply wp_region_txt [none, none, none, none, none, none, none, none, none, none, none, none, none, none, none, none, some 0, some 1, some 2, some 3, some 4, some 5, some 6, some 7, some 8, some 9, none] [] [] [_, _, _, _, _, _, _, _, _, _] [[], [], [], [], [], [], [], [], [], []]
      case hm => rfl
      case hs => rfl
      case hst => kernel_rfl
      case hput => exact OpsOK.cons (fun _ _ => rfl) (OpsOK.cons (fun _ _ => rfl) (OpsOK.cons (fun _ _ => rfl) (OpsOK.cons (fun _ _ => rfl) (OpsOK.cons (fun _ _ => rfl) (OpsOK.cons (fun _ _ => rfl) (OpsOK.cons (fun _ _ => rfl) (OpsOK.cons (fun _ _ => rfl) (OpsOK.cons (fun _ _ => rfl) (OpsOK.cons (fun _ _ => rfl) (OpsOK.nil))))))))))
      case hops =>
        refine OpsOK.cons ?_ ?_
        · intro u W K hB hd hK
          replace hK := hk_val hK (by decide) (by rfl)
          clear hd
          simp only [lay, Act.put, List.setIfInBounds_toArray, List.set_cons_zero, List.set_cons_succ] at hK ⊢
          go_simp
          exact hK.out _ _ rfl (Below.refl _ _)
        refine OpsOK.cons ?_ ?_
        · intro u W K hB hd hK
          replace hK := hk_val hK (by decide) (by rfl)
          clear hd
          simp only [lay, Act.put, List.setIfInBounds_toArray, List.set_cons_zero, List.set_cons_succ] at hK ⊢
          go_simp
          exact hK.out _ _ rfl (Below.refl _ _)
        refine OpsOK.cons ?_ ?_
        · intro u W K hB hd hK
          have h0 := fact_val (dep_of hd 0 (by kernel_rfl) (by kernel_rfl)) (by decide)
          dsimp only [nth] at h0
          have h1 := fact_val (dep_of hd 1 (by kernel_rfl) (by kernel_rfl)) (by decide)
          dsimp only [nth] at h1
          replace hK := hk_val hK (by decide) (by rfl)
          clear hd
          simp only [lay, Act.put, List.setIfInBounds_toArray, List.set_cons_zero, List.set_cons_succ, h0, h1] at hK ⊢
          go_simp
          exact hK.out _ _ rfl (Below.refl _ _)
        refine OpsOK.cons ?_ ?_
        · intro u W K hB hd hK
          have h2 := fact_val (dep_of hd 2 (by kernel_rfl) (by kernel_rfl)) (by decide)
          dsimp only [nth] at h2
          replace hK := hk_val hK (by decide) (by rfl)
          clear hd
          simp only [lay, Act.put, List.setIfInBounds_toArray, List.set_cons_zero, List.set_cons_succ, h2] at hK ⊢
          have q0 := below_cell hB a0
          have q1 := below_cell hB a1
          have q2 := below_cell hB a2
          have q3 := below_cell hB a3
          have q4 := below_cell hB a4
          go_simp
          exact hK.out _ _ rfl (Below.refl _ _)
        refine OpsOK.cons ?_ ?_
        · intro u W K hB hd hK
          replace hK := hk_val hK (by decide) (by rfl)
          clear hd
          simp only [lay, Act.put, List.setIfInBounds_toArray, List.set_cons_zero, List.set_cons_succ] at hK ⊢
          go_simp
          exact hK.out _ _ rfl (Below.refl _ _)
        refine OpsOK.cons ?_ ?_
        · intro u W K hB hd hK
          replace hK := hk_val hK (by decide) (by rfl)
          clear hd
          simp only [lay, Act.put, List.setIfInBounds_toArray, List.set_cons_zero, List.set_cons_succ] at hK ⊢
          go_simp
          exact hK.out _ _ rfl (Below.refl _ _)
        refine OpsOK.cons ?_ ?_
        · intro u W K hB hd hK
          have h4 := fact_val (dep_of hd 4 (by kernel_rfl) (by kernel_rfl)) (by decide)
          dsimp only [nth] at h4
          have h5 := fact_val (dep_of hd 5 (by kernel_rfl) (by kernel_rfl)) (by decide)
          dsimp only [nth] at h5
          replace hK := hk_val hK (by decide) (by rfl)
          clear hd
          simp only [lay, Act.put, List.setIfInBounds_toArray, List.set_cons_zero, List.set_cons_succ, h4, h5] at hK ⊢
          go_simp
          exact hK.out _ _ rfl (Below.refl _ _)
        refine OpsOK.cons ?_ ?_
        · intro u W K hB hd hK
          have h6 := fact_val (dep_of hd 6 (by kernel_rfl) (by kernel_rfl)) (by decide)
          dsimp only [nth] at h6
          replace hK := hk_val hK (by decide) (by rfl)
          clear hd
          simp only [lay, Act.put, List.setIfInBounds_toArray, List.set_cons_zero, List.set_cons_succ, h6] at hK ⊢
          have q0 := below_cell hB b0
          have q1 := below_cell hB b1
          have q2 := below_cell hB b2
          have q3 := below_cell hB b3
          have q4 := below_cell hB b4
          go_simp
          exact hK.out _ _ rfl (Below.refl _ _)
        refine OpsOK.cons ?_ ?_
        · intro u W K hB hd hK
          have h3 := fact_val (dep_of hd 3 (by kernel_rfl) (by kernel_rfl)) (by decide)
          dsimp only [nth] at h3
          have h7 := fact_val (dep_of hd 7 (by kernel_rfl) (by kernel_rfl)) (by decide)
          dsimp only [nth] at h7
          replace hK := hk_val hK (by decide) (by rfl)
          clear hd
          simp only [lay, Act.put, List.setIfInBounds_toArray, List.set_cons_zero, List.set_cons_succ, h3, h7] at hK ⊢
          go_simp
          first
            | (go_at_call 14; (with_reducible refine (sameentry_any Ak nk ck Av nv cv Bk mk dk Bv mv dv (eSeq x) (eGone x) (eTil x) (eKey x) (eVal x) W (a5.below hB) (a6.below hB) (b5.below hB) (b6.below hB)).mono ?_); rintro e w1 ⟨rfl, hb⟩; exact hK.out _ _ rfl hb)
        refine OpsOK.cons ?_ ?_
        · intro u W K hB hd hK
          have h8 := fact_val (dep_of hd 8 (by kernel_rfl) (by kernel_rfl)) (by decide)
          dsimp only [nth] at h8
          replace hK := hk_val hK (by decide) (by rfl)
          clear hd
          simp only [lay, Act.put, List.setIfInBounds_toArray, List.set_cons_zero, List.set_cons_succ, h8] at hK ⊢
          go_simp
          exact hK.out _ _ rfl (Below.refl _ _)
        exact OpsOK.nil
      intro u W hB hf
      have h0 := fact_val (hf 0 (by decide) (by decide)) (by decide)
      dsimp only [nth] at h0
      have h1 := fact_val (hf 1 (by decide) (by decide)) (by decide)
      dsimp only [nth] at h1
      have h2 := fact_val (hf 2 (by decide) (by decide)) (by decide)
      dsimp only [nth] at h2
      have h3 := fact_val (hf 3 (by decide) (by decide)) (by decide)
      dsimp only [nth] at h3
      have h4 := fact_val (hf 4 (by decide) (by decide)) (by decide)
      dsimp only [nth] at h4
      have h5 := fact_val (hf 5 (by decide) (by decide)) (by decide)
      dsimp only [nth] at h5
      have h6 := fact_val (hf 6 (by decide) (by decide)) (by decide)
      dsimp only [nth] at h6
      have h7 := fact_val (hf 7 (by decide) (by decide)) (by decide)
      dsimp only [nth] at h7
      have h8 := fact_val (hf 8 (by decide) (by decide)) (by decide)
      dsimp only [nth] at h8
      have h9 := fact_val (hf 9 (by decide) (by decide)) (by decide)
      dsimp only [nth] at h9
      clear hf
      simp only [lay, h0, h1, h2, h3, h4, h5, h6, h7, h8, h9]
      clear h0 h1 h2 h3 h4 h5 h6 h7 h8 h9
      go_wp2
      go_roundw
      case rel => exact ⟨k + 1, by omega, by go_num, below_then hBr hB⟩
      case measure => simp [intOf]; omega
    · obtain rfl : k = n := by omega
      go_wp2
      go_ret
      exact ⟨rfl, hBr⟩
end Go.Proofs.Yteediedhofapkaa
