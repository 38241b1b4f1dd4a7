/- Layer 8: a batch's bytes as the document has them: the walk. -/
import Derived.Test.YtdhmonomhifkkaaBaF
namespace Go.Proofs.Ytdhmonomhifkkaa
open Go.RowKit
set_option linter.unusedVariables false
set_option linter.unusedSimpArgs false

theorem below_of_none {w w1 : World} (h : w.grownBy w1 (Value.slice none 0 0).ownBlock) : Below w.heap.size w w1 := ⟨h.os, h.tape, h.output, h.size, fun k hk => h.block k hk (by intro e; cases e)⟩
theorem own_key {w W : World} {v : Value} {xs ys : List UInt8} {A : Option Addr} {n : Nat} (hown : OB W w.heap.size v xs) (h : RB w A n ys) : 0 < n → ∀ ad, A = some ad → v.ownBlock ≠ some ad.block := by
  intro hn ad e hv
  obtain ⟨ad', e', hc⟩ := h.at_ hn
  rw [e] at e'
  obtain rfl := Option.some.inj e'
  have h1 := World.block_lt_of_cell? w _ hc
  rw [block_of_add] at h1
  have h2 := OB.base_ hown _ hv
  omega
theorem flag_any (G : Bool) (w : World) : Calls Try.prog 22 #[.bool G] w fun e w' => e = .returned (.int .u8 (if G then 1 else 0)) ∧ w = w' := by
  cases G
  all_goals
    go_enter Try.func22, Try.ntmps22
    go_wp2
    go_ret
    exact ⟨rfl, rfl⟩
set_option maxHeartbeats 16000000 in
set_option maxRecDepth 100000 in
theorem refenc_any (s : Int) (A : Option Addr) (n c : Nat) (ops : List OpR) (w : World) (h : ROps w A n ops) (hs : -9223372036854775808 ≤ s ∧ s ≤ 9223372036854775807) :
    Calls Try.prog 8 #[.agg #[.int .i64 s, .slice A n c]] w fun e w' => ∃ v, e = .returned (.tuple #[v, .int .i64 (mayE s ops)]) ∧ OB w' w.heap.size v (encB s ops) ∧ Below w.heap.size w w' := by
  have hl := h.1
  have hm := h.2.1
  have H := hid h
  clear h
  obtain ⟨E, hE⟩ : ∃ E, E = mayE s ops := ⟨_, rfl⟩
  obtain ⟨X, hX⟩ : ∃ X, X = encB s ops := ⟨_, rfl⟩
  rw [← hE, ← hX]
  by_cases hz : E = 0
  · subst hz
    have hz2 := hE.symm
    unfold encB at hX
    rw [if_pos hz2, hl] at hX
    obtain ⟨m1, m2, m3, m4, m5⟩ := mayE_zero hz2
    rw [hl] at m1 m2 m4 m5
    have HE := hid hE
    have HX := hid hX
    have H5 := hid m5
    have HL : ∀ k, k ≤ n → (accB s ops k).length ≤ 20 + k * 2600 := by
      intro k hk
      exact accB_len (by rw [hl]; exact m5) k (by omega)
    obtain ⟨g, rfl⟩ : ∃ g : Nat, s = g := ⟨s.toNat, by omega⟩
    have HL2 := hid HL
    have H0 : uvar g ++ uvar n = accB (g : Int) ops 0 := by
      rw [accB, hl]; rfl
    have HA0 := hid H0
    have hu1 := uvar_len g
    clear hE hX m5 HL H0 hz2 hl
    have hgn : g < 18446744073709551616 := by omega
    have hnn : n < 18446744073709551616 := by omega
    go_enter Try.func8, Try.ntmps8
    go_wp2_with (go_at_call 10; (with_reducible refine (refmay_any g A n c ops _ (H.out.below (below_alloc' (Below.refl _ _) _)) hs).mono ?_); rintro e w1 ⟨rfl, hbx⟩; rw [← HE.out]; have hx0 := below_cell hbx (box_cell w 0 rfl); have hx1 := below_cell hbx (box_cell w 1 rfl); have hb1 := below_then (below_alloc' (Below.refl _ _) _) hbx)
    apply wp_region_txt [none, none, none, none, none, some 9, none, none, none, none, none, none, none, some 0, some 1, some 2, some 3, some 4, some 5, some 6, some 7, some 8, none, none, none, none, none, none, none, none, none, none, none, none, none, none, none, none, none, none, none, none, none, none, none, none, none, none, none, none, none] [3, 8, 9] [(3, 8), (8, 9)] [_, _, _, undef, _, _, _, _, undef, undef] [[], [], [], _, [], [], [], [], _, _]
    case hm => rfl
    case hs => rfl
    case hst => kernel_rfl
    case hput => exact OpsOK.cons (fun _ _ => rfl) (OpsOK.cons (fun _ _ => rfl) (OpsOK.cons (fun _ _ => rfl) (OpsOK.cons (fun _ _ => rfl) (OpsOK.cons (fun _ _ => rfl) (OpsOK.cons (fun _ _ => rfl) (OpsOK.cons (fun _ _ => rfl) (OpsOK.cons (fun _ _ => rfl) (OpsOK.cons (fun _ _ => rfl) (OpsOK.cons (fun _ _ => rfl) (OpsOK.nil))))))))))
    case hops =>
      refine OpsOK.cons ?_ ?_
      · intro u W K hB hd hK
        replace hK := hk_val hK (by decide) (by rfl)
        clear hd
        simp only [lay, Act.put, List.setIfInBounds_toArray, List.set_cons_zero, List.set_cons_succ] at hK ⊢
        go_simp
        exact hK.out _ _ rfl (Below.refl _ _)
      refine OpsOK.cons ?_ ?_
      · intro u W K hB hd hK
        have h0 := fact_val (dep_of hd 0 (by kernel_rfl) (by kernel_rfl)) (by decide)
        dsimp only [nth] at h0
        replace hK := hk_val hK (by decide) (by rfl)
        clear hd
        simp only [lay, Act.put, List.setIfInBounds_toArray, List.set_cons_zero, List.set_cons_succ, h0] at hK ⊢
        have q0 := below_cell hB hx0
        go_simp
        exact hK.out _ _ rfl (Below.refl _ _)
      refine OpsOK.cons ?_ ?_
      · intro u W K hB hd hK
        have h1 := fact_val (dep_of hd 1 (by kernel_rfl) (by kernel_rfl)) (by decide)
        dsimp only [nth] at h1
        replace hK := hk_val hK (by decide) (by rfl)
        clear hd
        simp only [lay, Act.put, List.setIfInBounds_toArray, List.set_cons_zero, List.set_cons_succ, h1] at hK ⊢
        go_simp
        exact hK.out _ _ rfl (Below.refl _ _)
      refine OpsOK.cons ?_ ?_
      · intro u W K hB hd hK
        have h2 := fact_val (dep_of hd 2 (by kernel_rfl) (by kernel_rfl)) (by decide)
        dsimp only [nth] at h2
        replace hK := hk_row hB hK (by decide) (by rfl)
        clear hd
        simp only [lay, Act.put, List.setIfInBounds_toArray, List.set_cons_zero, List.set_cons_succ, h2] at hK ⊢
        try simp only [wrap_u64_nat g hgn] at hK ⊢
        go_simp
        first
          | (go_at_call 20; (with_reducible refine (refput_any (.slice none 0 0) W.heap.size [] g W (OB.nil _ _) (Nat.le_refl _) hgn (by decide)).mono ?_); rintro e w2 ⟨v1, rfl, hown1, hgr1, hat1⟩; rw [List.nil_append] at hown1; exact hK.out _ _ hown1 (below_of_none hgr1))
          | (go_at_call 20; (with_reducible refine (refput_any _ _ (uvar g) n W h3 hB.size (by omega) (by omega)).mono ?_); rintro e w2 ⟨v1, rfl, hown1, hgr1, hat1⟩; exact hK.out _ _ hown1 hgr1 hat1)
      refine OpsOK.cons ?_ ?_
      · intro u W K hB hd hK
        replace hK := hk_val hK (by decide) (by rfl)
        clear hd
        simp only [lay, Act.put, List.setIfInBounds_toArray, List.set_cons_zero, List.set_cons_succ] at hK ⊢
        go_simp
        exact hK.out _ _ rfl (Below.refl _ _)
      refine OpsOK.cons ?_ ?_
      · intro u W K hB hd hK
        have h4 := fact_val (dep_of hd 4 (by kernel_rfl) (by kernel_rfl)) (by decide)
        dsimp only [nth] at h4
        replace hK := hk_val hK (by decide) (by rfl)
        clear hd
        simp only [lay, Act.put, List.setIfInBounds_toArray, List.set_cons_zero, List.set_cons_succ, h4] at hK ⊢
        have q1 := below_cell hB hx1
        go_simp
        exact hK.out _ _ rfl (Below.refl _ _)
      refine OpsOK.cons ?_ ?_
      · intro u W K hB hd hK
        have h5 := fact_val (dep_of hd 5 (by kernel_rfl) (by kernel_rfl)) (by decide)
        dsimp only [nth] at h5
        replace hK := hk_val hK (by decide) (by rfl)
        clear hd
        simp only [lay, Act.put, List.setIfInBounds_toArray, List.set_cons_zero, List.set_cons_succ, h5] at hK ⊢
        go_simp
        exact hK.out _ _ rfl (Below.refl _ _)
      refine OpsOK.cons ?_ ?_
      · intro u W K hB hd hK
        have h6 := fact_val (dep_of hd 6 (by kernel_rfl) (by kernel_rfl)) (by decide)
        dsimp only [nth] at h6
        replace hK := hk_val hK (by decide) (by rfl)
        clear hd
        simp only [lay, Act.put, List.setIfInBounds_toArray, List.set_cons_zero, List.set_cons_succ, h6] at hK ⊢
        go_simp
        exact hK.out _ _ rfl (Below.refl _ _)
      refine OpsOK.cons ?_ ?_
      · intro u W K hB hd hK
        have h3 := fact_row (dep_of hd 3 (by kernel_rfl) (by kernel_rfl)) (by decide)
        dsimp only [nth] at h3
        have h7 := fact_val (dep_of hd 7 (by kernel_rfl) (by kernel_rfl)) (by decide)
        dsimp only [nth] at h7
        replace hK := hk_par hK (by decide) 3 (by rfl)
        clear hd
        simp only [lay, Act.put, List.setIfInBounds_toArray, List.set_cons_zero, List.set_cons_succ, h7] at hK ⊢
        try simp only [wrap_u64_nat n hnn] at hK ⊢
        go_simp
        first
          | (go_at_call 20; (with_reducible refine (refput_any (.slice none 0 0) W.heap.size [] g W (OB.nil _ _) (Nat.le_refl _) hgn (by decide)).mono ?_); rintro e w2 ⟨v1, rfl, hown1, hgr1, hat1⟩; rw [List.nil_append] at hown1; exact hK.out _ _ hown1 (below_of_none hgr1))
          | (go_at_call 20; (with_reducible refine (refput_any _ _ (uvar g) n W h3 hB.size (by omega) (by omega)).mono ?_); rintro e w2 ⟨v1, rfl, hown1, hgr1, hat1⟩; exact hK.out _ _ hown1 hgr1 hat1)
      refine OpsOK.cons ?_ ?_
      · intro u W K hB hd hK
        have h8 := fact_row (dep_of hd 8 (by kernel_rfl) (by kernel_rfl)) (by decide)
        dsimp only [nth] at h8
        replace hK := hk_par hK (by decide) 8 (by rfl)
        clear hd
        simp only [lay, Act.put, List.setIfInBounds_toArray, List.set_cons_zero, List.set_cons_succ] at hK ⊢
        go_simp
        exact hK.out _ _ h8 (grown_refl _ _) (AtRow.refl _ _)
      exact OpsOK.nil
    intro u W hB hf
    have h0 := fact_val (hf 0 (by decide) (by decide)) (by decide)
    dsimp only [nth] at h0
    have h1 := fact_val (hf 1 (by decide) (by decide)) (by decide)
    dsimp only [nth] at h1
    have h2 := fact_val (hf 2 (by decide) (by decide)) (by decide)
    dsimp only [nth] at h2
    have h4 := fact_val (hf 4 (by decide) (by decide)) (by decide)
    dsimp only [nth] at h4
    have h5 := fact_val (hf 5 (by decide) (by decide)) (by decide)
    dsimp only [nth] at h5
    have h6 := fact_val (hf 6 (by decide) (by decide)) (by decide)
    dsimp only [nth] at h6
    have h7 := fact_val (hf 7 (by decide) (by decide)) (by decide)
    dsimp only [nth] at h7
    have h9 := fact_row (hf 9 (by decide) (by decide)) (by decide)
    dsimp only [nth] at h9
    clear hf
    simp only [lay, h0, h1, h2, h4, h5, h6, h7]
    clear h0 h1 h2 h4 h5 h6 h7
    have hx1 := below_cell hB hx1
    have hown3 := OB.mono h9 hb1.size
    have hb3 := below_then hb1 hB
    rw [HA0.out] at hown3
    generalize u 9 = v9 at *
    go_wp2
    go_loopw [5, 25] (fun v i wr => ∃ k : Nat, k ≤ n ∧ i = .int .i64 k ∧ OB wr w.heap.size v (accB g ops k) ∧ Below w.heap.size w wr) (fun v i wr => n - (intOf i).toNat)
    case atStart => exact ⟨0, Nat.zero_le _, rfl, hown3, hb3⟩
    case round =>
      obtain ⟨k, hk, rfl, hown, hB⟩ := hrel
      have hbw := hB.size
      by_cases hlt : k < n
      · obtain ⟨ad, rfl, hcells⟩ := H.out.at_ hlt
        have ho := H5.out k hlt
        have hlen := HL2.out k hk
        have hacc : accB (g : Int) ops (k + 1) = opS (elt noOp ops k) (accB g ops k) := rfl
        generalize elt noOp ops k = o at hcells ho hacc
        generalize accB (g : Int) ops k = L at hown hlen hacc
        obtain ⟨_, o1, o2, o3, o4, o5⟩ := opE_zero ho
        obtain ⟨Ak, nk, ck, Av, nv, cv, hc0, hc1, hc2, hc3, hrk, hck, hrv, hcv, hwf⟩ := hcells
        have hc0 := below_cell hB hc0
        have hc1 := below_cell hB hc1
        have hc2 := below_cell hB hc2
        have hc3 := below_cell hB hc3
        obtain ⟨key, hkey⟩ : ∃ key, opKey o = key := ⟨_, rfl⟩
        obtain ⟨val, hval⟩ : ∃ val, opVal o = val := ⟨_, rfl⟩
        obtain ⟨til, htil⟩ : ∃ til : Nat, opTil o = til := ⟨(opTil o).toNat, by omega⟩
        obtain ⟨G, hG⟩ : ∃ G, opGone o = G := ⟨_, rfl⟩
        unfold opS at hacc
        rw [hkey, hval, htil, hG, Int.toNat_natCast] at hacc
        rw [hkey] at hrk o1
        rw [hval] at hrv o2
        rw [htil] at hc2 o4
        rw [hG] at hc1
        have hnk := hrk.1
        have hnv := hrv.1
        have HA := hid hacc
        clear hwf o5 o3 hacc ho
        have o4n : til < 18446744073709551616 := by omega
        have huk := uvar_len key.length
        have hut := uvar_len til
        cases G
        · go_wp2
          have hblk : (wr.alloc (.cells #[.slice Ak nk ck, .bool false, .int .i64 til, .slice Av nv cv] 28)).heap[wr.heap.size]? = some (.cells #[.slice Ak nk ck, .bool false, .int .i64 til, .slice Av nv cv] 28 (0, 0)) := heap_alloc_new wr _
          have hownW := hown.alloc (.cells #[.slice Ak nk ck, .bool false, .int .i64 til, .slice Av nv cv] 28)
          have hBW0 := below_alloc' hB (.cells #[.slice Ak nk ck, .bool false, .int .i64 til, .slice Av nv cv] 28)
          have hneW := hownW.ne_box hblk (by decide)
          have hbW0 := hBW0.size
          have hbs := OB.base_ hownW
          generalize wr.alloc (.cells #[.slice Ak nk ck, .bool false, .int .i64 til, .slice Av nv cv] 28) = W0 at *
          generalize wr.heap.size = b at *
          apply wp_region_txtB (w.heap.size) 0 (u5.ownBlock) [none, none, none, none, none, some 9, none, none, none, none, none, none, none, none, none, none, none, none, none, none, none, none, none, none, none, none, none, none, none, some 0, some 1, some 2, some 3, some 4, some 5, some 6, some 7, some 8, none, none, none, none, none, none, none, none, none, none, none, none, none] [0, 4, 5, 8, 9] [(0, 5), (5, 8), (8, 9)] [undef, _, _, _, undef, undef, _, _, undef, undef] [_, [], [], [], _, _, [], [], _, _]
          case hm => rfl
          case hs => rfl
          case hst => kernel_rfl
          case hrow0 => exact fun k hk => (World.ownsRow.lt hownW k hk).2
          case hput => exact OpsOK.cons (fun _ _ => rfl) (OpsOK.cons (fun _ _ => rfl) (OpsOK.cons (fun _ _ => rfl) (OpsOK.cons (fun _ _ => rfl) (OpsOK.cons (fun _ _ => rfl) (OpsOK.cons (fun _ _ => rfl) (OpsOK.cons (fun _ _ => rfl) (OpsOK.cons (fun _ _ => rfl) (OpsOK.cons (fun _ _ => rfl) (OpsOK.cons (fun _ _ => rfl) (OpsOK.nil))))))))))
          case hops =>
            refine OpsOK.cons ?_ ?_
            · intro u W K hB hz0 hz1 hd hK
              have hbW := Nat.le_trans hbW0 hB.size
              replace hK := hk_oldB hK rfl (by decide) (by rfl)
              clear hd
              have hw : u 9 = (u5) := (was_of hz1 9 (by kernel_rfl)).trans rfl
              clear hz1
              simp only [lay, Act.put, List.setIfInBounds_toArray, List.set_cons_zero, List.set_cons_succ, hw] at hK ⊢
              go_simp
              exact hK.out _ (OB.below hownW (hz0 rfl)) (fun k hk => hk.symm)
            refine OpsOK.cons ?_ ?_
            · intro u W K hB hz0 hz1 hd hK
              have hbW := Nat.le_trans hbW0 hB.size
              replace hK := hk_valB hK (by decide) (by rfl)
              clear hd
              clear hz1
              simp only [lay, Act.put, List.setIfInBounds_toArray, List.set_cons_zero, List.set_cons_succ] at hK ⊢
              go_simp
              exact hK.out _ _ rfl (Below.refl _ _)
            refine OpsOK.cons ?_ ?_
            · intro u W K hB hz0 hz1 hd hK
              have hbW := Nat.le_trans hbW0 hB.size
              have h1 := fact_valB (dep_of hd 1 (by kernel_rfl) (by kernel_rfl)) (by decide)
              dsimp only [nth] at h1
              replace hK := hk_valB hK (by decide) (by rfl)
              clear hd
              clear hz1
              simp only [lay, Act.put, List.setIfInBounds_toArray, List.set_cons_zero, List.set_cons_succ, h1] at hK ⊢
              have q1 := box_at (blk_grown hB hblk hneW) 1 (.bool false) rfl
              go_simp
              exact hK.out _ _ rfl (Below.refl _ _)
            refine OpsOK.cons ?_ ?_
            · intro u W K hB hz0 hz1 hd hK
              have hbW := Nat.le_trans hbW0 hB.size
              have h2 := fact_valB (dep_of hd 2 (by kernel_rfl) (by kernel_rfl)) (by decide)
              dsimp only [nth] at h2
              replace hK := hk_valB hK (by decide) (by rfl)
              clear hd
              clear hz1
              simp only [lay, Act.put, List.setIfInBounds_toArray, List.set_cons_zero, List.set_cons_succ, h2] at hK ⊢
              go_simp
              first
                | (go_at_call 22; (with_reducible refine (flag_any false W).mono ?_); rintro e w1 ⟨rfl, rfl⟩; exact hK.out _ _ rfl (Below.refl _ _))
                | (go_at_call 21; (with_reducible refine (refputbytes_any _ w.heap.size (L ++ [0]) Ak nk ck key W h5 hbW (hrk.below (hBW0.grown hB hbW0 hbs)) (own_key h5 hrk) (by simp only [List.length_append, List.length_singleton]; omega)).mono ?_); rintro e w1 ⟨v1, rfl, hown1, hgr1, hat1⟩; exact hK.out _ _ hown1 hgr1 hat1)
            refine OpsOK.cons ?_ ?_
            · intro u W K hB hz0 hz1 hd hK
              have hbW := Nat.le_trans hbW0 hB.size
              have h3 := fact_valB (dep_of hd 3 (by kernel_rfl) (by kernel_rfl)) (by decide)
              dsimp only [nth] at h3
              replace hK := hk_rowB hbW hK (by decide) (by decide) (by rfl)
              clear hd
              clear hz1
              simp only [lay, Act.put, List.setIfInBounds_toArray, List.set_cons_zero, List.set_cons_succ, h3] at hK ⊢
              (go_simp; exact hK.out _ _ (OB.lit1 _ _ (Nat.le_refl _) 0 0 rfl) (below_alloc' (Below.refl _ _) _))
            refine OpsOK.cons ?_ ?_
            · intro u W K hB hz0 hz1 hd hK
              have hbW := Nat.le_trans hbW0 hB.size
              have h0 := fact_rowB (dep_of hd 0 (by kernel_rfl) (by kernel_rfl)) (by decide)
              dsimp only [nth] at h0
              have h3 := fact_valB (dep_of hd 3 (by kernel_rfl) (by kernel_rfl)) (by decide)
              dsimp only [nth] at h3
              have h4 := fact_rowB (dep_of hd 4 (by kernel_rfl) (by kernel_rfl)) (by decide)
              dsimp only [nth] at h4
              replace hK := hk_parB hK (by decide) 0 (by rfl)
              clear hd
              clear hz1
              (obtain ⟨A4, c4, e4, hr4, _⟩ := h4.open_; refine stepB_append W W w.heap.size (.tmp 29) (.tmp 33) (by rfl) (by rfl) (u 0) L (by rfl) h0 A4 _ c4 [0] (by exact e4) hr4 (by simp only [List.length_singleton]; omega) (Below.refl _ _) hbW ?_; intro v' w' a b d f; exact hK.out _ _ (show OB _ _ _ (L ++ [0]) from a) d f)
            refine OpsOK.cons ?_ ?_
            · intro u W K hB hz0 hz1 hd hK
              have hbW := Nat.le_trans hbW0 hB.size
              replace hK := hk_valB hK (by decide) (by rfl)
              clear hd
              clear hz1
              simp only [lay, Act.put, List.setIfInBounds_toArray, List.set_cons_zero, List.set_cons_succ] at hK ⊢
              go_simp
              exact hK.out _ _ rfl (Below.refl _ _)
            refine OpsOK.cons ?_ ?_
            · intro u W K hB hz0 hz1 hd hK
              have hbW := Nat.le_trans hbW0 hB.size
              have h6 := fact_valB (dep_of hd 6 (by kernel_rfl) (by kernel_rfl)) (by decide)
              dsimp only [nth] at h6
              replace hK := hk_valB hK (by decide) (by rfl)
              clear hd
              clear hz1
              simp only [lay, Act.put, List.setIfInBounds_toArray, List.set_cons_zero, List.set_cons_succ, h6] at hK ⊢
              have q0 := box_at (blk_grown hB hblk hneW) 0 (.slice Ak nk ck) rfl
              go_simp
              exact hK.out _ _ rfl (Below.refl _ _)
            refine OpsOK.cons ?_ ?_
            · intro u W K hB hz0 hz1 hd hK
              have hbW := Nat.le_trans hbW0 hB.size
              have h5 := fact_rowB (dep_of hd 5 (by kernel_rfl) (by kernel_rfl)) (by decide)
              dsimp only [nth] at h5
              have h7 := fact_valB (dep_of hd 7 (by kernel_rfl) (by kernel_rfl)) (by decide)
              dsimp only [nth] at h7
              replace hK := hk_parB hK (by decide) 5 (by rfl)
              clear hd
              clear hz1
              simp only [lay, Act.put, List.setIfInBounds_toArray, List.set_cons_zero, List.set_cons_succ, h7] at hK ⊢
              go_simp
              first
                | (go_at_call 22; (with_reducible refine (flag_any false W).mono ?_); rintro e w1 ⟨rfl, rfl⟩; exact hK.out _ _ rfl (Below.refl _ _))
                | (go_at_call 21; (with_reducible refine (refputbytes_any _ w.heap.size (L ++ [0]) Ak nk ck key W h5 hbW (hrk.below (hBW0.grown hB hbW0 hbs)) (own_key h5 hrk) (by simp only [List.length_append, List.length_singleton]; omega)).mono ?_); rintro e w1 ⟨v1, rfl, hown1, hgr1, hat1⟩; exact hK.out _ _ hown1 hgr1 hat1)
            refine OpsOK.cons ?_ ?_
            · intro u W K hB hz0 hz1 hd hK
              have hbW := Nat.le_trans hbW0 hB.size
              have h8 := fact_rowB (dep_of hd 8 (by kernel_rfl) (by kernel_rfl)) (by decide)
              dsimp only [nth] at h8
              replace hK := hk_parB hK (by decide) 8 (by rfl)
              clear hd
              clear hz1
              simp only [lay, Act.put, List.setIfInBounds_toArray, List.set_cons_zero, List.set_cons_succ] at hK ⊢
              go_simp
              exact hK.out _ _ h8 (grown_refl _ _) (AtRow.refl _ _)
            exact OpsOK.nil
          intro u W hB hf
          have h1 := fact_valB (hf 1 (by decide) (by decide)) (by decide)
          dsimp only [nth] at h1
          have h2 := fact_valB (hf 2 (by decide) (by decide)) (by decide)
          dsimp only [nth] at h2
          have h3 := fact_valB (hf 3 (by decide) (by decide)) (by decide)
          dsimp only [nth] at h3
          have h4 := fact_rowB (hf 4 (by decide) (by decide)) (by decide)
          dsimp only [nth] at h4
          have h6 := fact_valB (hf 6 (by decide) (by decide)) (by decide)
          dsimp only [nth] at h6
          have h7 := fact_valB (hf 7 (by decide) (by decide)) (by decide)
          dsimp only [nth] at h7
          have h9 := fact_rowB (hf 9 (by decide) (by decide)) (by decide)
          dsimp only [nth] at h9
          clear hf
          simp only [lay, h1, h2, h3, h6, h7]
          clear h1 h2 h3 h6 h7
          have hBW1 := hBW0.grown hB hbW0 hbs
          have hblk1 := blk_grown hB hblk hneW
          have hneW1 := OB.ne_box h9 hblk1 (by decide)
          have q1 := box_at hblk1 1 (.bool false) rfl
          have hbs1 := OB.base_ h9
          have hbW1 := hBW1.size
          generalize u 9 = v6 at *
          have HA := HA.out
          have hl2 : (L ++ [0] ++ uvar key.length ++ key).length ≤ L.length + 523 := by simp only [List.length_append, List.length_singleton]; omega
          generalize L ++ [0] ++ uvar key.length ++ key = L2 at HA h9 hl2
          have HA := hid HA
          go_wp2
          apply wp_region_txtB (w.heap.size) 0 (v6.ownBlock) [none, none, none, none, none, some 8, none, none, none, none, none, none, none, none, none, none, none, none, none, none, none, none, none, none, none, none, none, none, none, none, none, none, none, none, none, none, none, none, none, none, none, some 0, some 1, some 2, some 3, some 4, some 5, some 6, some 7, none, none] [0, 4, 7, 8] [(0, 4), (4, 7), (7, 8)] [undef, _, _, _, undef, _, _, undef, undef] [_, [], [], [], _, [], [], _, _]
          case hm => rfl
          case hs => rfl
          case hst => kernel_rfl
          case hrow0 => exact fun k hk => (World.ownsRow.lt h9 k hk).2
          case hput => exact OpsOK.cons (fun _ _ => rfl) (OpsOK.cons (fun _ _ => rfl) (OpsOK.cons (fun _ _ => rfl) (OpsOK.cons (fun _ _ => rfl) (OpsOK.cons (fun _ _ => rfl) (OpsOK.cons (fun _ _ => rfl) (OpsOK.cons (fun _ _ => rfl) (OpsOK.cons (fun _ _ => rfl) (OpsOK.cons (fun _ _ => rfl) (OpsOK.nil)))))))))
          case hops =>
            refine OpsOK.cons ?_ ?_
            · intro u W K hB hz0 hz1 hd hK
              have hbW := Nat.le_trans hbW1 hB.size
              replace hK := hk_oldB hK rfl (by decide) (by rfl)
              clear hd
              have hw : u 8 = (v6) := (was_of hz1 8 (by kernel_rfl)).trans rfl
              clear hz1
              simp only [lay, Act.put, List.setIfInBounds_toArray, List.set_cons_zero, List.set_cons_succ, hw] at hK ⊢
              go_simp
              exact hK.out _ (OB.below h9 (hz0 rfl)) (fun k hk => hk.symm)
            refine OpsOK.cons ?_ ?_
            · intro u W K hB hz0 hz1 hd hK
              have hbW := Nat.le_trans hbW1 hB.size
              replace hK := hk_valB hK (by decide) (by rfl)
              clear hd
              clear hz1
              simp only [lay, Act.put, List.setIfInBounds_toArray, List.set_cons_zero, List.set_cons_succ] at hK ⊢
              go_simp
              exact hK.out _ _ rfl (Below.refl _ _)
            refine OpsOK.cons ?_ ?_
            · intro u W K hB hz0 hz1 hd hK
              have hbW := Nat.le_trans hbW1 hB.size
              have h1 := fact_valB (dep_of hd 1 (by kernel_rfl) (by kernel_rfl)) (by decide)
              dsimp only [nth] at h1
              replace hK := hk_valB hK (by decide) (by rfl)
              clear hd
              clear hz1
              simp only [lay, Act.put, List.setIfInBounds_toArray, List.set_cons_zero, List.set_cons_succ, h1] at hK ⊢
              have q2 := box_at (blk_grown hB hblk1 hneW1) 2 (.int .i64 til) rfl
              go_simp
              exact hK.out _ _ rfl (Below.refl _ _)
            refine OpsOK.cons ?_ ?_
            · intro u W K hB hz0 hz1 hd hK
              have hbW := Nat.le_trans hbW1 hB.size
              have h2 := fact_valB (dep_of hd 2 (by kernel_rfl) (by kernel_rfl)) (by decide)
              dsimp only [nth] at h2
              replace hK := hk_valB hK (by decide) (by rfl)
              clear hd
              clear hz1
              simp only [lay, Act.put, List.setIfInBounds_toArray, List.set_cons_zero, List.set_cons_succ, h2] at hK ⊢
              go_simp
              exact hK.out _ _ rfl (Below.refl _ _)
            refine OpsOK.cons ?_ ?_
            · intro u W K hB hz0 hz1 hd hK
              have hbW := Nat.le_trans hbW1 hB.size
              have h0 := fact_rowB (dep_of hd 0 (by kernel_rfl) (by kernel_rfl)) (by decide)
              dsimp only [nth] at h0
              have h3 := fact_valB (dep_of hd 3 (by kernel_rfl) (by kernel_rfl)) (by decide)
              dsimp only [nth] at h3
              replace hK := hk_parB hK (by decide) 0 (by rfl)
              clear hd
              clear hz1
              simp only [lay, Act.put, List.setIfInBounds_toArray, List.set_cons_zero, List.set_cons_succ, h3] at hK ⊢
              simp only [wrap_u64_nat til o4n] at hK ⊢
              go_simp
              first
                | (go_at_call 20; (with_reducible refine (refput_any _ w.heap.size L2 til W h0 hbW (by omega) (by omega)).mono ?_); rintro e w1 ⟨v1, rfl, hown1, hgr1, hat1⟩; exact hK.out _ _ hown1 hgr1 hat1)
                | (go_at_call 21; (with_reducible refine (refputbytes_any _ w.heap.size (L2 ++ uvar til) Av nv cv val W h4 hbW (hrv.below (hBW1.grown hB hbW1 hbs1)) (own_key h4 hrv) (by simp only [List.length_append]; omega)).mono ?_); rintro e w1 ⟨v1, rfl, hown1, hgr1, hat1⟩; exact hK.out _ _ hown1 hgr1 hat1)
            refine OpsOK.cons ?_ ?_
            · intro u W K hB hz0 hz1 hd hK
              have hbW := Nat.le_trans hbW1 hB.size
              replace hK := hk_valB hK (by decide) (by rfl)
              clear hd
              clear hz1
              simp only [lay, Act.put, List.setIfInBounds_toArray, List.set_cons_zero, List.set_cons_succ] at hK ⊢
              go_simp
              exact hK.out _ _ rfl (Below.refl _ _)
            refine OpsOK.cons ?_ ?_
            · intro u W K hB hz0 hz1 hd hK
              have hbW := Nat.le_trans hbW1 hB.size
              have h5 := fact_valB (dep_of hd 5 (by kernel_rfl) (by kernel_rfl)) (by decide)
              dsimp only [nth] at h5
              replace hK := hk_valB hK (by decide) (by rfl)
              clear hd
              clear hz1
              simp only [lay, Act.put, List.setIfInBounds_toArray, List.set_cons_zero, List.set_cons_succ, h5] at hK ⊢
              have q3 := box_at (blk_grown hB hblk1 hneW1) 3 (.slice Av nv cv) rfl
              go_simp
              exact hK.out _ _ rfl (Below.refl _ _)
            refine OpsOK.cons ?_ ?_
            · intro u W K hB hz0 hz1 hd hK
              have hbW := Nat.le_trans hbW1 hB.size
              have h4 := fact_rowB (dep_of hd 4 (by kernel_rfl) (by kernel_rfl)) (by decide)
              dsimp only [nth] at h4
              have h6 := fact_valB (dep_of hd 6 (by kernel_rfl) (by kernel_rfl)) (by decide)
              dsimp only [nth] at h6
              replace hK := hk_parB hK (by decide) 4 (by rfl)
              clear hd
              clear hz1
              simp only [lay, Act.put, List.setIfInBounds_toArray, List.set_cons_zero, List.set_cons_succ, h6] at hK ⊢
              go_simp
              first
                | (go_at_call 20; (with_reducible refine (refput_any _ w.heap.size L2 til W h0 hbW (by omega) (by omega)).mono ?_); rintro e w1 ⟨v1, rfl, hown1, hgr1, hat1⟩; exact hK.out _ _ hown1 hgr1 hat1)
                | (go_at_call 21; (with_reducible refine (refputbytes_any _ w.heap.size (L2 ++ uvar til) Av nv cv val W h4 hbW (hrv.below (hBW1.grown hB hbW1 hbs1)) (own_key h4 hrv) (by simp only [List.length_append]; omega)).mono ?_); rintro e w1 ⟨v1, rfl, hown1, hgr1, hat1⟩; exact hK.out _ _ hown1 hgr1 hat1)
            refine OpsOK.cons ?_ ?_
            · intro u W K hB hz0 hz1 hd hK
              have hbW := Nat.le_trans hbW1 hB.size
              have h7 := fact_rowB (dep_of hd 7 (by kernel_rfl) (by kernel_rfl)) (by decide)
              dsimp only [nth] at h7
              replace hK := hk_parB hK (by decide) 7 (by rfl)
              clear hd
              clear hz1
              simp only [lay, Act.put, List.setIfInBounds_toArray, List.set_cons_zero, List.set_cons_succ] at hK ⊢
              go_simp
              exact hK.out _ _ h7 (grown_refl _ _) (AtRow.refl _ _)
            exact OpsOK.nil
          intro u W hB hf
          have h1 := fact_valB (hf 1 (by decide) (by decide)) (by decide)
          dsimp only [nth] at h1
          have h2 := fact_valB (hf 2 (by decide) (by decide)) (by decide)
          dsimp only [nth] at h2
          have h3 := fact_valB (hf 3 (by decide) (by decide)) (by decide)
          dsimp only [nth] at h3
          have h5 := fact_valB (hf 5 (by decide) (by decide)) (by decide)
          dsimp only [nth] at h5
          have h6 := fact_valB (hf 6 (by decide) (by decide)) (by decide)
          dsimp only [nth] at h6
          have h8 := fact_rowB (hf 8 (by decide) (by decide)) (by decide)
          dsimp only [nth] at h8
          clear hf
          simp only [lay, h1, h2, h3, h5, h6]
          clear h1 h2 h3 h5 h6
          go_wp2
          go_roundw
          case rel => exact ⟨k + 1, by omega, by go_num, by rw [HA.out]; exact h8, hBW1.grown hB hbW1 hbs1⟩
          case measure => simp [intOf]; omega
        · go_wp2
          have hblk : (wr.alloc (.cells #[.slice Ak nk ck, .bool true, .int .i64 til, .slice Av nv cv] 28)).heap[wr.heap.size]? = some (.cells #[.slice Ak nk ck, .bool true, .int .i64 til, .slice Av nv cv] 28 (0, 0)) := heap_alloc_new wr _
          have hownW := hown.alloc (.cells #[.slice Ak nk ck, .bool true, .int .i64 til, .slice Av nv cv] 28)
          have hBW0 := below_alloc' hB (.cells #[.slice Ak nk ck, .bool true, .int .i64 til, .slice Av nv cv] 28)
          have hneW := hownW.ne_box hblk (by decide)
          have hbW0 := hBW0.size
          have hbs := OB.base_ hownW
          generalize wr.alloc (.cells #[.slice Ak nk ck, .bool true, .int .i64 til, .slice Av nv cv] 28) = W0 at *
          generalize wr.heap.size = b at *
          apply wp_region_txtB (w.heap.size) 0 (u5.ownBlock) [none, none, none, none, none, some 9, none, none, none, none, none, none, none, none, none, none, none, none, none, none, none, none, none, none, none, none, none, none, none, some 0, some 1, some 2, some 3, some 4, some 5, some 6, some 7, some 8, none, none, none, none, none, none, none, none, none, none, none, none, none] [0, 4, 5, 8, 9] [(0, 5), (5, 8), (8, 9)] [undef, _, _, _, undef, undef, _, _, undef, undef] [_, [], [], [], _, _, [], [], _, _]
          case hm => rfl
          case hs => rfl
          case hst => kernel_rfl
          case hrow0 => exact fun k hk => (World.ownsRow.lt hownW k hk).2
          case hput => exact OpsOK.cons (fun _ _ => rfl) (OpsOK.cons (fun _ _ => rfl) (OpsOK.cons (fun _ _ => rfl) (OpsOK.cons (fun _ _ => rfl) (OpsOK.cons (fun _ _ => rfl) (OpsOK.cons (fun _ _ => rfl) (OpsOK.cons (fun _ _ => rfl) (OpsOK.cons (fun _ _ => rfl) (OpsOK.cons (fun _ _ => rfl) (OpsOK.cons (fun _ _ => rfl) (OpsOK.nil))))))))))
          case hops =>
            refine OpsOK.cons ?_ ?_
            · intro u W K hB hz0 hz1 hd hK
              have hbW := Nat.le_trans hbW0 hB.size
              replace hK := hk_oldB hK rfl (by decide) (by rfl)
              clear hd
              have hw : u 9 = (u5) := (was_of hz1 9 (by kernel_rfl)).trans rfl
              clear hz1
              simp only [lay, Act.put, List.setIfInBounds_toArray, List.set_cons_zero, List.set_cons_succ, hw] at hK ⊢
              go_simp
              exact hK.out _ (OB.below hownW (hz0 rfl)) (fun k hk => hk.symm)
            refine OpsOK.cons ?_ ?_
            · intro u W K hB hz0 hz1 hd hK
              have hbW := Nat.le_trans hbW0 hB.size
              replace hK := hk_valB hK (by decide) (by rfl)
              clear hd
              clear hz1
              simp only [lay, Act.put, List.setIfInBounds_toArray, List.set_cons_zero, List.set_cons_succ] at hK ⊢
              go_simp
              exact hK.out _ _ rfl (Below.refl _ _)
            refine OpsOK.cons ?_ ?_
            · intro u W K hB hz0 hz1 hd hK
              have hbW := Nat.le_trans hbW0 hB.size
              have h1 := fact_valB (dep_of hd 1 (by kernel_rfl) (by kernel_rfl)) (by decide)
              dsimp only [nth] at h1
              replace hK := hk_valB hK (by decide) (by rfl)
              clear hd
              clear hz1
              simp only [lay, Act.put, List.setIfInBounds_toArray, List.set_cons_zero, List.set_cons_succ, h1] at hK ⊢
              have q1 := box_at (blk_grown hB hblk hneW) 1 (.bool true) rfl
              go_simp
              exact hK.out _ _ rfl (Below.refl _ _)
            refine OpsOK.cons ?_ ?_
            · intro u W K hB hz0 hz1 hd hK
              have hbW := Nat.le_trans hbW0 hB.size
              have h2 := fact_valB (dep_of hd 2 (by kernel_rfl) (by kernel_rfl)) (by decide)
              dsimp only [nth] at h2
              replace hK := hk_valB hK (by decide) (by rfl)
              clear hd
              clear hz1
              simp only [lay, Act.put, List.setIfInBounds_toArray, List.set_cons_zero, List.set_cons_succ, h2] at hK ⊢
              go_simp
              first
                | (go_at_call 22; (with_reducible refine (flag_any true W).mono ?_); rintro e w1 ⟨rfl, rfl⟩; exact hK.out _ _ rfl (Below.refl _ _))
                | (go_at_call 21; (with_reducible refine (refputbytes_any _ w.heap.size (L ++ [1]) Ak nk ck key W h5 hbW (hrk.below (hBW0.grown hB hbW0 hbs)) (own_key h5 hrk) (by simp only [List.length_append, List.length_singleton]; omega)).mono ?_); rintro e w1 ⟨v1, rfl, hown1, hgr1, hat1⟩; exact hK.out _ _ hown1 hgr1 hat1)
            refine OpsOK.cons ?_ ?_
            · intro u W K hB hz0 hz1 hd hK
              have hbW := Nat.le_trans hbW0 hB.size
              have h3 := fact_valB (dep_of hd 3 (by kernel_rfl) (by kernel_rfl)) (by decide)
              dsimp only [nth] at h3
              replace hK := hk_rowB hbW hK (by decide) (by decide) (by rfl)
              clear hd
              clear hz1
              simp only [lay, Act.put, List.setIfInBounds_toArray, List.set_cons_zero, List.set_cons_succ, h3] at hK ⊢
              (go_simp; exact hK.out _ _ (OB.lit1 _ _ (Nat.le_refl _) 1 1 rfl) (below_alloc' (Below.refl _ _) _))
            refine OpsOK.cons ?_ ?_
            · intro u W K hB hz0 hz1 hd hK
              have hbW := Nat.le_trans hbW0 hB.size
              have h0 := fact_rowB (dep_of hd 0 (by kernel_rfl) (by kernel_rfl)) (by decide)
              dsimp only [nth] at h0
              have h3 := fact_valB (dep_of hd 3 (by kernel_rfl) (by kernel_rfl)) (by decide)
              dsimp only [nth] at h3
              have h4 := fact_rowB (dep_of hd 4 (by kernel_rfl) (by kernel_rfl)) (by decide)
              dsimp only [nth] at h4
              replace hK := hk_parB hK (by decide) 0 (by rfl)
              clear hd
              clear hz1
              (obtain ⟨A4, c4, e4, hr4, _⟩ := h4.open_; refine stepB_append W W w.heap.size (.tmp 29) (.tmp 33) (by rfl) (by rfl) (u 0) L (by rfl) h0 A4 _ c4 [1] (by exact e4) hr4 (by simp only [List.length_singleton]; omega) (Below.refl _ _) hbW ?_; intro v' w' a b d f; exact hK.out _ _ (show OB _ _ _ (L ++ [1]) from a) d f)
            refine OpsOK.cons ?_ ?_
            · intro u W K hB hz0 hz1 hd hK
              have hbW := Nat.le_trans hbW0 hB.size
              replace hK := hk_valB hK (by decide) (by rfl)
              clear hd
              clear hz1
              simp only [lay, Act.put, List.setIfInBounds_toArray, List.set_cons_zero, List.set_cons_succ] at hK ⊢
              go_simp
              exact hK.out _ _ rfl (Below.refl _ _)
            refine OpsOK.cons ?_ ?_
            · intro u W K hB hz0 hz1 hd hK
              have hbW := Nat.le_trans hbW0 hB.size
              have h6 := fact_valB (dep_of hd 6 (by kernel_rfl) (by kernel_rfl)) (by decide)
              dsimp only [nth] at h6
              replace hK := hk_valB hK (by decide) (by rfl)
              clear hd
              clear hz1
              simp only [lay, Act.put, List.setIfInBounds_toArray, List.set_cons_zero, List.set_cons_succ, h6] at hK ⊢
              have q0 := box_at (blk_grown hB hblk hneW) 0 (.slice Ak nk ck) rfl
              go_simp
              exact hK.out _ _ rfl (Below.refl _ _)
            refine OpsOK.cons ?_ ?_
            · intro u W K hB hz0 hz1 hd hK
              have hbW := Nat.le_trans hbW0 hB.size
              have h5 := fact_rowB (dep_of hd 5 (by kernel_rfl) (by kernel_rfl)) (by decide)
              dsimp only [nth] at h5
              have h7 := fact_valB (dep_of hd 7 (by kernel_rfl) (by kernel_rfl)) (by decide)
              dsimp only [nth] at h7
              replace hK := hk_parB hK (by decide) 5 (by rfl)
              clear hd
              clear hz1
              simp only [lay, Act.put, List.setIfInBounds_toArray, List.set_cons_zero, List.set_cons_succ, h7] at hK ⊢
              go_simp
              first
                | (go_at_call 22; (with_reducible refine (flag_any true W).mono ?_); rintro e w1 ⟨rfl, rfl⟩; exact hK.out _ _ rfl (Below.refl _ _))
                | (go_at_call 21; (with_reducible refine (refputbytes_any _ w.heap.size (L ++ [1]) Ak nk ck key W h5 hbW (hrk.below (hBW0.grown hB hbW0 hbs)) (own_key h5 hrk) (by simp only [List.length_append, List.length_singleton]; omega)).mono ?_); rintro e w1 ⟨v1, rfl, hown1, hgr1, hat1⟩; exact hK.out _ _ hown1 hgr1 hat1)
            refine OpsOK.cons ?_ ?_
            · intro u W K hB hz0 hz1 hd hK
              have hbW := Nat.le_trans hbW0 hB.size
              have h8 := fact_rowB (dep_of hd 8 (by kernel_rfl) (by kernel_rfl)) (by decide)
              dsimp only [nth] at h8
              replace hK := hk_parB hK (by decide) 8 (by rfl)
              clear hd
              clear hz1
              simp only [lay, Act.put, List.setIfInBounds_toArray, List.set_cons_zero, List.set_cons_succ] at hK ⊢
              go_simp
              exact hK.out _ _ h8 (grown_refl _ _) (AtRow.refl _ _)
            exact OpsOK.nil
          intro u W hB hf
          have h1 := fact_valB (hf 1 (by decide) (by decide)) (by decide)
          dsimp only [nth] at h1
          have h2 := fact_valB (hf 2 (by decide) (by decide)) (by decide)
          dsimp only [nth] at h2
          have h3 := fact_valB (hf 3 (by decide) (by decide)) (by decide)
          dsimp only [nth] at h3
          have h4 := fact_rowB (hf 4 (by decide) (by decide)) (by decide)
          dsimp only [nth] at h4
          have h6 := fact_valB (hf 6 (by decide) (by decide)) (by decide)
          dsimp only [nth] at h6
          have h7 := fact_valB (hf 7 (by decide) (by decide)) (by decide)
          dsimp only [nth] at h7
          have h9 := fact_rowB (hf 9 (by decide) (by decide)) (by decide)
          dsimp only [nth] at h9
          clear hf
          simp only [lay, h1, h2, h3, h6, h7]
          clear h1 h2 h3 h6 h7
          have hBW1 := hBW0.grown hB hbW0 hbs
          have hblk1 := blk_grown hB hblk hneW
          have hneW1 := OB.ne_box h9 hblk1 (by decide)
          have q1 := box_at hblk1 1 (.bool true) rfl
          have hbs1 := OB.base_ h9
          have hbW1 := hBW1.size
          generalize u 9 = v6 at *
          go_wp2
          go_roundw
          case rel => exact ⟨k + 1, by omega, by go_num, by rw [HA.out]; exact h9, hBW1⟩
          case measure => simp [intOf]; omega
      · obtain rfl : k = n := by omega
        have HO := hid hown
        clear hown
        go_wp2
        go_ret2
        exact ⟨_, rfl, by rw [HX.out]; exact HO.out, hB⟩
  · have HE := hid hE
    have hX2 : X = [] := by unfold encB at hX; rw [if_neg (by rw [← hE]; exact hz)] at hX; exact hX
    subst hX2
    have hzb : (E != 0) = true := by simpa using hz
    clear hX hE hz
    go_enter Try.func8, Try.ntmps8
    go_wp2_with (go_at_call 10; (with_reducible refine (refmay_any s A n c ops _ (H.out.below (below_alloc' (Below.refl _ _) _)) hs).mono ?_); rintro e w1 ⟨rfl, hbx⟩; rw [← HE.out])
    go_ret2
    exact ⟨_, rfl, OB.nil _ _, below_then (below_alloc' (Below.refl _ _) _) hbx⟩
end Go.Proofs.Ytdhmonomhifkkaa
