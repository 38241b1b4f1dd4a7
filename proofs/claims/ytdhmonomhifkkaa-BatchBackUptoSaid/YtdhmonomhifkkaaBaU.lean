/- Layer 8: rows of entries alike; any batch: the walk of the statement. -/
import Derived.Test.YtdhmonomhifkkaaBaT
namespace Go.Proofs.Ytdhmonomhifkkaa
open Go.RowKit
set_option linter.unusedVariables false
set_option linter.unusedSimpArgs false

/-- A row of entries, read in a world. -/
def ER (w : World) (A : Option Addr) (n : Nat) (L : List EnR) : Prop :=
  0 < n → ∃ g, A = some ⟨g, 0, none⟩ ∧ ∀ k, k < n → ∃ Ak nk ck Av nv cv, w.cell? ⟨g, k * 5, none⟩ = some (.slice Ak nk ck) ∧ w.cell? ⟨g, k * 5 + 1, none⟩ = some (.int .i64 (enSeq (elt noEn L k))) ∧ w.cell? ⟨g, k * 5 + 2, none⟩ = some (.bool (opGone (enOp (elt noEn L k)))) ∧
    w.cell? ⟨g, k * 5 + 3, none⟩ = some (.int .i64 (opTil (enOp (elt noEn L k)))) ∧ w.cell? ⟨g, k * 5 + 4, none⟩ = some (.slice Av nv cv) ∧ RB w Ak nk (opKey (enOp (elt noEn L k))) ∧ RB w Av nv (opVal (enOp (elt noEn L k)))
theorem ER_of {w : World} {base : Nat} {v : Value} {V : List (List Value)} {L : List EnR} (h : OV w base 41 5 v V) (hr : RelV noEn (PEnR w) V L) : ∃ A c, v = .slice A L.length c ∧ ER w A L.length L := by
  have hl := hr.1
  rcases Nat.eq_zero_or_pos V.length with h0 | h0
  · obtain ⟨A, c, rfl, _⟩ := h.open_
    exact ⟨A, c, by rw [hl], fun hn => absurd hn (by omega)⟩
  · obtain ⟨g, c, rfl, _, _, _⟩ := h.form h0
    refine ⟨_, c, by rw [hl], fun _ => ⟨g, rfl, fun k hk => ?_⟩⟩
    obtain ⟨Ak, nk, ck, Av, nv, cv, hx, h1, h2⟩ := hr.2 k (by omega)
    have hc := fun i (hi : i < 5) => h.cell (j := k) (i := i) (by omega) hi
    rw [hx] at hc
    exact ⟨Ak, nk, ck, Av, nv, cv, hc 0 (by omega), hc 1 (by omega), hc 2 (by omega), hc 3 (by omega), hc 4 (by omega), h1, h2⟩
set_option maxHeartbeats 16000000 in
set_option maxRecDepth 100000 in
theorem sameentries_any (A1 : Option Addr) (c1 : Nat) (A2 : Option Addr) (c2 n : Nat) (L : List EnR) (w : World) (h1 : ER w A1 n L) (h2 : ER w A2 n L) (hn : n ≤ 400) :
    Calls Try.prog 15 #[.slice A1 n c1, .slice A2 n c2] w fun e w' => e = .returned (.bool true) ∧ Below w.heap.size w w' := by
  have H1 := hid h1
  have H2 := hid h2
  clear h1 h2
  go_enter Try.func15, Try.ntmps15
  go_wp2
  go_loopw [13] (fun i wr => ∃ k : Nat, k ≤ n ∧ i = .int .i64 k ∧ Below w.heap.size w wr) (fun i wr => n - (intOf i).toNat)
  case atStart => exact ⟨0, Nat.zero_le _, rfl, Below.refl _ _⟩
  case round =>
    obtain ⟨k, hk, rfl, hBr⟩ := hrel
    by_cases hlt : k < n
    · obtain ⟨g1, rfl, hc1⟩ := H1.out (by omega)
      obtain ⟨g2, rfl, hc2⟩ := H2.out (by omega)
      obtain ⟨Ak, nk, ck, Av, nv, cv, a0, a1, a2, a3, a4, a5, a6⟩ := hc1 k hlt
      obtain ⟨Bk, mk, dk, Bv, mv, dv, b0, b1, b2, b3, b4, b5, b6⟩ := hc2 k hlt
      generalize enSeq (elt noEn L k) = q at *
      generalize enOp (elt noEn L k) = o at *
      clear hc1 hc2
      have a0 := below_cell hBr a0
      have a1 := below_cell hBr a1
      have a2 := below_cell hBr a2
      have a3 := below_cell hBr a3
      have a4 := below_cell hBr a4
      have a5 := a5.below hBr
      have a6 := a6.below hBr
      have b0 := below_cell hBr b0
      have b1 := below_cell hBr b1
      have b2 := below_cell hBr b2
      have b3 := below_cell hBr b3
      have b4 := below_cell hBr b4
      have b5 := b5.below hBr
      have b6 := b6.below hBr
      go_wp2
      apply wp_region_txt [none, none, none, none, none, none, none, none, none, none, none, none, none, none, none, none, some 0, some 1, some 2, some 3, some 4, some 5, some 6, some 7, some 8, some 9, none] [] [] [_, _, _, _, _, _, _, _, _, _] [[], [], [], [], [], [], [], [], [], []]
      case hm => rfl
      case hs => rfl
      case hst => kernel_rfl
      case hput => exact OpsOK.cons (fun _ _ => rfl) (OpsOK.cons (fun _ _ => rfl) (OpsOK.cons (fun _ _ => rfl) (OpsOK.cons (fun _ _ => rfl) (OpsOK.cons (fun _ _ => rfl) (OpsOK.cons (fun _ _ => rfl) (OpsOK.cons (fun _ _ => rfl) (OpsOK.cons (fun _ _ => rfl) (OpsOK.cons (fun _ _ => rfl) (OpsOK.cons (fun _ _ => rfl) (OpsOK.nil))))))))))
      case hops =>
        refine OpsOK.cons ?_ ?_
        · intro u W K hB hd hK
          replace hK := hk_val hK (by decide) (by rfl)
          clear hd
          simp only [lay, Act.put, List.setIfInBounds_toArray, List.set_cons_zero, List.set_cons_succ] at hK ⊢
          go_simp
          exact hK.out _ _ rfl (Below.refl _ _)
        refine OpsOK.cons ?_ ?_
        · intro u W K hB hd hK
          replace hK := hk_val hK (by decide) (by rfl)
          clear hd
          simp only [lay, Act.put, List.setIfInBounds_toArray, List.set_cons_zero, List.set_cons_succ] at hK ⊢
          go_simp
          exact hK.out _ _ rfl (Below.refl _ _)
        refine OpsOK.cons ?_ ?_
        · intro u W K hB hd hK
          have h0 := fact_val (dep_of hd 0 (by kernel_rfl) (by kernel_rfl)) (by decide)
          dsimp only [nth] at h0
          have h1 := fact_val (dep_of hd 1 (by kernel_rfl) (by kernel_rfl)) (by decide)
          dsimp only [nth] at h1
          replace hK := hk_val hK (by decide) (by rfl)
          clear hd
          simp only [lay, Act.put, List.setIfInBounds_toArray, List.set_cons_zero, List.set_cons_succ, h0, h1] at hK ⊢
          go_simp
          exact hK.out _ _ rfl (Below.refl _ _)
        refine OpsOK.cons ?_ ?_
        · intro u W K hB hd hK
          have h2 := fact_val (dep_of hd 2 (by kernel_rfl) (by kernel_rfl)) (by decide)
          dsimp only [nth] at h2
          replace hK := hk_val hK (by decide) (by rfl)
          clear hd
          simp only [lay, Act.put, List.setIfInBounds_toArray, List.set_cons_zero, List.set_cons_succ, h2] at hK ⊢
          have q0 := below_cell hB a0
          have q1 := below_cell hB a1
          have q2 := below_cell hB a2
          have q3 := below_cell hB a3
          have q4 := below_cell hB a4
          go_simp
          exact hK.out _ _ rfl (Below.refl _ _)
        refine OpsOK.cons ?_ ?_
        · intro u W K hB hd hK
          replace hK := hk_val hK (by decide) (by rfl)
          clear hd
          simp only [lay, Act.put, List.setIfInBounds_toArray, List.set_cons_zero, List.set_cons_succ] at hK ⊢
          go_simp
          exact hK.out _ _ rfl (Below.refl _ _)
        refine OpsOK.cons ?_ ?_
        · intro u W K hB hd hK
          replace hK := hk_val hK (by decide) (by rfl)
          clear hd
          simp only [lay, Act.put, List.setIfInBounds_toArray, List.set_cons_zero, List.set_cons_succ] at hK ⊢
          go_simp
          exact hK.out _ _ rfl (Below.refl _ _)
        refine OpsOK.cons ?_ ?_
        · intro u W K hB hd hK
          have h4 := fact_val (dep_of hd 4 (by kernel_rfl) (by kernel_rfl)) (by decide)
          dsimp only [nth] at h4
          have h5 := fact_val (dep_of hd 5 (by kernel_rfl) (by kernel_rfl)) (by decide)
          dsimp only [nth] at h5
          replace hK := hk_val hK (by decide) (by rfl)
          clear hd
          simp only [lay, Act.put, List.setIfInBounds_toArray, List.set_cons_zero, List.set_cons_succ, h4, h5] at hK ⊢
          go_simp
          exact hK.out _ _ rfl (Below.refl _ _)
        refine OpsOK.cons ?_ ?_
        · intro u W K hB hd hK
          have h6 := fact_val (dep_of hd 6 (by kernel_rfl) (by kernel_rfl)) (by decide)
          dsimp only [nth] at h6
          replace hK := hk_val hK (by decide) (by rfl)
          clear hd
          simp only [lay, Act.put, List.setIfInBounds_toArray, List.set_cons_zero, List.set_cons_succ, h6] at hK ⊢
          have q0 := below_cell hB b0
          have q1 := below_cell hB b1
          have q2 := below_cell hB b2
          have q3 := below_cell hB b3
          have q4 := below_cell hB b4
          go_simp
          exact hK.out _ _ rfl (Below.refl _ _)
        refine OpsOK.cons ?_ ?_
        · intro u W K hB hd hK
          have h3 := fact_val (dep_of hd 3 (by kernel_rfl) (by kernel_rfl)) (by decide)
          dsimp only [nth] at h3
          have h7 := fact_val (dep_of hd 7 (by kernel_rfl) (by kernel_rfl)) (by decide)
          dsimp only [nth] at h7
          replace hK := hk_val hK (by decide) (by rfl)
          clear hd
          simp only [lay, Act.put, List.setIfInBounds_toArray, List.set_cons_zero, List.set_cons_succ, h3, h7] at hK ⊢
          go_simp
          first
            | (go_at_call 24; (with_reducible refine (sameentry_any Ak nk ck Av nv cv Bk mk dk Bv mv dv q (opGone o) (opTil o) (opKey o) (opVal o) W (a5.below hB) (a6.below hB) (b5.below hB) (b6.below hB)).mono ?_); rintro e w1 ⟨rfl, hb⟩; exact hK.out _ _ rfl hb)
        refine OpsOK.cons ?_ ?_
        · intro u W K hB hd hK
          have h8 := fact_val (dep_of hd 8 (by kernel_rfl) (by kernel_rfl)) (by decide)
          dsimp only [nth] at h8
          replace hK := hk_val hK (by decide) (by rfl)
          clear hd
          simp only [lay, Act.put, List.setIfInBounds_toArray, List.set_cons_zero, List.set_cons_succ, h8] at hK ⊢
          go_simp
          exact hK.out _ _ rfl (Below.refl _ _)
        exact OpsOK.nil
      intro u W hB hf
      have h0 := fact_val (hf 0 (by decide) (by decide)) (by decide)
      dsimp only [nth] at h0
      have h1 := fact_val (hf 1 (by decide) (by decide)) (by decide)
      dsimp only [nth] at h1
      have h2 := fact_val (hf 2 (by decide) (by decide)) (by decide)
      dsimp only [nth] at h2
      have h3 := fact_val (hf 3 (by decide) (by decide)) (by decide)
      dsimp only [nth] at h3
      have h4 := fact_val (hf 4 (by decide) (by decide)) (by decide)
      dsimp only [nth] at h4
      have h5 := fact_val (hf 5 (by decide) (by decide)) (by decide)
      dsimp only [nth] at h5
      have h6 := fact_val (hf 6 (by decide) (by decide)) (by decide)
      dsimp only [nth] at h6
      have h7 := fact_val (hf 7 (by decide) (by decide)) (by decide)
      dsimp only [nth] at h7
      have h8 := fact_val (hf 8 (by decide) (by decide)) (by decide)
      dsimp only [nth] at h8
      have h9 := fact_val (hf 9 (by decide) (by decide)) (by decide)
      dsimp only [nth] at h9
      clear hf
      simp only [lay, h0, h1, h2, h3, h4, h5, h6, h7, h8, h9]
      clear h0 h1 h2 h3 h4 h5 h6 h7 h8 h9
      go_wp2
      go_roundw
      case rel => exact ⟨k + 1, by omega, by go_num, below_then hBr hB⟩
      case measure => simp [intOf]; omega
    · obtain rfl : k = n := by omega
      go_wp2
      go_ret
      exact ⟨rfl, hBr⟩
end Go.Proofs.Ytdhmonomhifkkaa
