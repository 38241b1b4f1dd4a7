/- Shared texts, part S08: MmU. -/
import Derived.Test.YtkkclkknpjapcaaDoorS07
/-! ### MmU -/
namespace Go.Proofs.YtkkclkknpjapcaaDoor
open Go.RowKit
set_option linter.unusedVariables false
set_option linter.unusedSimpArgs false

set_option maxHeartbeats 32000000 in
set_option maxRecDepth 100000 in
theorem seek_any (base bm : Nat) (l : List NodeR) (n : Nat) (wt : Int) (A : Option Addr) (nk ck : Nat) (key : List UInt8) (s : Int) (P : Nat) (w : World) (hS : SL w base bm l n wt) (hk : RB w A nk key) (hP : P ≤ l.length)
    (hA : ∀ x ∈ l.take P, aheadK (nEnt x) key s = true) (hN : ∀ x ∈ l.drop P, aheadK (nEnt x) key s = false) :
    Calls Tryd.prog 23 #[ptrTo bm, .slice A nk ck, .int .i64 s] w fun e w' => e = .returned (.agg (pathC (l.take P) bm 0)) ∧ Below w.heap.size w w' := by
  have HStep := hid (fun (w' : World) (hb : Below w.heap.size w w') (b i g : Nat) (h : AtP l bm b i P g) (hi : i < 8) => AtP.step hS hb h hi hP hA hN)
  have HK := hid hk
  clear hS hk hP hA hN
  unfold ptrTo
  go_enter Tryd.func23, Tryd.ntmps23
  go_wp2
  refine wp_scope_ghost 0 (fun m a' w' => ∃ (b k : Nat) (u10 u11 u12 u13 u14 u15 u16 u17 u18 u19 u20 u21 u22 u23 u24 u25 u26 u27 u28 u29 u30 u31 u32 u33 u34 u35 u36 u37 u38 u39 u40 u41 u42 u43 u44 u45 u46 u47 : Value), a' = { tmps := #[.pointer (some ⟨bm, 0, none⟩), .slice A nk ck, .int .i64 s, undef, undef, undef, .pointer (some ⟨w.heap.size, 0, none⟩), .pointer (some ⟨w.heap.size + 1, 0, none⟩), .pointer (some ⟨b, 0, none⟩), .int .i64 (k : Int), u10, u11, u12, u13, u14, u15, u16, u17, u18, u19, u20, u21, u22, u23, u24, u25, u26, u27, u28, u29, u30, u31, u32, u33, u34, u35, u36, u37, u38, u39, u40, u41, u42, u43, u44, u45, u46, u47], defers := [] } ∧ k < 8 ∧ m = k + 1 ∧ SeekW w w' bm (l.take P) (k + 1) ∧ ∃ g, AtP l bm b k P g) rfl ?_ ?_
  · rintro m a' w' ⟨b, k, u10, u11, u12, u13, u14, u15, u16, u17, u18, u19, u20, u21, u22, u23, u24, u25, u26, u27, u28, u29, u30, u31, u32, u33, u34, u35, u36, u37, u38, u39, u40, u41, u42, u43, u44, u45, u46, u47, rfl, hk8, rfl, hW, g, hg⟩
    have HW := hid hW
    have HG := hid hg
    clear hW hg
    go_wp2
    go_loopg [8] g (fun g at_ wr => ∃ b, at_ = .pointer (some ⟨b, 0, none⟩) ∧ AtP l bm b k P g ∧ SeekW w wr bm (l.take P) (k + 1))
    case atStart => exact ⟨b, rfl, HG.out, HW.out⟩
    case round =>
      clear HW HG
      obtain ⟨b, rfl, hg, hW⟩ := hrel
      have HW := hid hW
      have hKw := hid (HK.out.below hW.1)
      have hst := HStep.out wr hW.1 b k gk hg hk8
      have HG := hid hg
      clear hW hg
      rcases hst with ⟨hc, hl⟩ | ⟨b', e, Ak, nk', ck', Av, nv', cv', hc, ⟨h0, h1, h2, h3, h4, hrk⟩, hst⟩
      · have HL := hid hl
        clear hl HStep
        rcases Nat.eq_zero_or_pos k with hk0 | hk0
        · subst hk0
          have hbk : (Value.pointer (some ⟨b, 0, none⟩)) = ptrTo (lastAt 0 bm (l.take P)) := by rw [← HL.out]; rfl
          have HW2 : Hid (SeekW w (wr.setCell ⟨w.heap.size + 1, 0, none⟩ (.pointer (some ⟨b, 0, none⟩))) bm (l.take P) 0) := by rw [hbk]; exact SeekW.store HW.out (by omega)
          clear hbk
          have fz := fun i => frozen_of_row wr (w.heap.size + 1) i _ _ (HW.out).2.1
          have hcur : wr.cell? ⟨w.heap.size + 1, 0, none⟩ = some (pc (l.take P) bm (0 + 1) 0) := box_at (HW.out).2.1 _ _ (pathC_get _ _ _ _ (by omega))
          have q0 := box_at HW2.out.2.1 0 (.pointer (some ⟨lastAt 0 bm (l.take P), 0, none⟩)) rfl
          have q1 := box_at HW2.out.2.1 1 (.pointer (some ⟨lastAt 1 bm (l.take P), 0, none⟩)) rfl
          have q2 := box_at HW2.out.2.1 2 (.pointer (some ⟨lastAt 2 bm (l.take P), 0, none⟩)) rfl
          have q3 := box_at HW2.out.2.1 3 (.pointer (some ⟨lastAt 3 bm (l.take P), 0, none⟩)) rfl
          have q4 := box_at HW2.out.2.1 4 (.pointer (some ⟨lastAt 4 bm (l.take P), 0, none⟩)) rfl
          have q5 := box_at HW2.out.2.1 5 (.pointer (some ⟨lastAt 5 bm (l.take P), 0, none⟩)) rfl
          have q6 := box_at HW2.out.2.1 6 (.pointer (some ⟨lastAt 6 bm (l.take P), 0, none⟩)) rfl
          have q7 := box_at HW2.out.2.1 7 (.pointer (some ⟨lastAt 7 bm (l.take P), 0, none⟩)) rfl
          have z0 := box_at HW2.out.2.2.1 0 (.pointer none) rfl
          have z1 := box_at HW2.out.2.2.1 1 (.pointer none) rfl
          have z2 := box_at HW2.out.2.2.1 2 (.pointer none) rfl
          have z3 := box_at HW2.out.2.2.1 3 (.pointer none) rfl
          have z4 := box_at HW2.out.2.2.1 4 (.pointer none) rfl
          have z5 := box_at HW2.out.2.2.1 5 (.pointer none) rfl
          have z6 := box_at HW2.out.2.2.1 6 (.pointer none) rfl
          have z7 := box_at HW2.out.2.2.1 7 (.pointer none) rfl
          have f4 := fun i => frozen_of_row _ w.heap.size i _ _ HW2.out.2.2.1
          go_wp2
          have hfin := set8 (.pointer (some ⟨lastAt 0 bm (l.take P), 0, none⟩)) (.pointer (some ⟨lastAt 1 bm (l.take P), 0, none⟩)) (.pointer (some ⟨lastAt 2 bm (l.take P), 0, none⟩)) (.pointer (some ⟨lastAt 3 bm (l.take P), 0, none⟩)) (.pointer (some ⟨lastAt 4 bm (l.take P), 0, none⟩)) (.pointer (some ⟨lastAt 5 bm (l.take P), 0, none⟩)) (.pointer (some ⟨lastAt 6 bm (l.take P), 0, none⟩)) (.pointer (some ⟨lastAt 7 bm (l.take P), 0, none⟩)) HW2.out.2.2.1
          have hgf := grown_set8 (wr.setCell ⟨w.heap.size + 1, 0, none⟩ (.pointer (some ⟨b, 0, none⟩))) w.heap.size (.pointer (some ⟨lastAt 0 bm (l.take P), 0, none⟩)) (.pointer (some ⟨lastAt 1 bm (l.take P), 0, none⟩)) (.pointer (some ⟨lastAt 2 bm (l.take P), 0, none⟩)) (.pointer (some ⟨lastAt 3 bm (l.take P), 0, none⟩)) (.pointer (some ⟨lastAt 4 bm (l.take P), 0, none⟩)) (.pointer (some ⟨lastAt 5 bm (l.take P), 0, none⟩)) (.pointer (some ⟨lastAt 6 bm (l.take P), 0, none⟩)) (.pointer (some ⟨lastAt 7 bm (l.take P), 0, none⟩))
          try simp only [Exit.jump]
          refine bodyPost_ret (v := .agg (pathC (l.take P) bm 0)) (results_cell_row (P := Tryd.prog) (fn := Tryd.f23) (p := 6) (ty := 50) rfl _ _ w.heap.size 50 _ (0, 0) _ rfl hfin Tryd.underlying50 rfl node8) rfl ⟨rfl, ?_⟩
          exact HW2.out.1.grown hgf (Nat.le_trans (by omega) HW2.out.2.2.2) (fun k hk => by cases hk; omega)
        · obtain ⟨j, hj⟩ : ∃ j, k = j + 1 := ⟨k - 1, by omega⟩
          have hkm : (k : Int) - 1 = (j : Int) := by omega
          have HJ := hid hj
          clear hj
          have hbk : (Value.pointer (some ⟨b, 0, none⟩)) = ptrTo (lastAt k bm (l.take P)) := by rw [← HL.out]; rfl
          have HW2 : Hid (SeekW w (wr.setCell ⟨w.heap.size + 1, k, none⟩ (.pointer (some ⟨b, 0, none⟩))) bm (l.take P) k) := by rw [hbk]; exact SeekW.store HW.out hk8
          clear hbk
          have fz := fun i => frozen_of_row wr (w.heap.size + 1) i _ _ (HW.out).2.1
          have hcur : wr.cell? ⟨w.heap.size + 1, k, none⟩ = some (pc (l.take P) bm (k + 1) k) := box_at (HW.out).2.1 _ _ (pathC_get _ _ _ _ (by omega))
          go_wp2
          refine wp_goto_k (Jumped.mk k (by omega) ⟨b, j, _, _, _, _, _, _, _, _, _, _, _, _, _, _, _, _, _, _, _, _, _, _, _, _, _, _, _, _, _, _, _, _, _, _, _, _, _, _, rfl, by have := HJ.out; omega, by have := HJ.out; omega, ?_, _, HG.out.mono (by have := HJ.out; omega)⟩)
          have := HW2.out
          rwa [HJ.out] at this ⊢
      · have HRK := hid hrk
        have h5 := HRK.out
        clear HStep
        rcases hst with ⟨ha, hl⟩ | ⟨ha, g', hg', hat⟩
        · have HL := hid hl
          clear hl h5 hrk
          rcases Nat.eq_zero_or_pos k with hk0 | hk0
          · subst hk0
            go_wp2_with (go_at_call 46; (with_reducible refine (ahead_any Ak nk' ck' Av nv' cv' e A nk ck key s _ HRK.out hKw.out).mono ?_); rintro r w1 ⟨rfl, hB1⟩; rw [ha]; have HW1 := hid (HW.out.below hB1); have hbk : (Value.pointer (some ⟨b, 0, none⟩)) = ptrTo (lastAt 0 bm (l.take P)) := (by rw [← HL.out]; rfl); have HW2 : Hid (SeekW w (w1.setCell ⟨w.heap.size + 1, 0, none⟩ (.pointer (some ⟨b, 0, none⟩))) bm (l.take P) 0) := (by rw [hbk]; exact SeekW.store HW1.out (by omega)); clear hbk; have fz := fun i => frozen_of_row w1 (w.heap.size + 1) i _ _ (HW1.out).2.1; have hcur : w1.cell? ⟨w.heap.size + 1, 0, none⟩ = some (pc (l.take P) bm (0 + 1) 0) := box_at (HW1.out).2.1 _ _ (pathC_get _ _ _ _ (by omega)); have q0 := box_at HW2.out.2.1 0 (.pointer (some ⟨lastAt 0 bm (l.take P), 0, none⟩)) rfl; have q1 := box_at HW2.out.2.1 1 (.pointer (some ⟨lastAt 1 bm (l.take P), 0, none⟩)) rfl; have q2 := box_at HW2.out.2.1 2 (.pointer (some ⟨lastAt 2 bm (l.take P), 0, none⟩)) rfl; have q3 := box_at HW2.out.2.1 3 (.pointer (some ⟨lastAt 3 bm (l.take P), 0, none⟩)) rfl; have q4 := box_at HW2.out.2.1 4 (.pointer (some ⟨lastAt 4 bm (l.take P), 0, none⟩)) rfl; have q5 := box_at HW2.out.2.1 5 (.pointer (some ⟨lastAt 5 bm (l.take P), 0, none⟩)) rfl; have q6 := box_at HW2.out.2.1 6 (.pointer (some ⟨lastAt 6 bm (l.take P), 0, none⟩)) rfl; have q7 := box_at HW2.out.2.1 7 (.pointer (some ⟨lastAt 7 bm (l.take P), 0, none⟩)) rfl; have z0 := box_at HW2.out.2.2.1 0 (.pointer none) rfl; have z1 := box_at HW2.out.2.2.1 1 (.pointer none) rfl; have z2 := box_at HW2.out.2.2.1 2 (.pointer none) rfl; have z3 := box_at HW2.out.2.2.1 3 (.pointer none) rfl; have z4 := box_at HW2.out.2.2.1 4 (.pointer none) rfl; have z5 := box_at HW2.out.2.2.1 5 (.pointer none) rfl; have z6 := box_at HW2.out.2.2.1 6 (.pointer none) rfl; have z7 := box_at HW2.out.2.2.1 7 (.pointer none) rfl; have f4 := fun i => frozen_of_row _ w.heap.size i _ _ HW2.out.2.2.1)
            have hfin := set8 (.pointer (some ⟨lastAt 0 bm (l.take P), 0, none⟩)) (.pointer (some ⟨lastAt 1 bm (l.take P), 0, none⟩)) (.pointer (some ⟨lastAt 2 bm (l.take P), 0, none⟩)) (.pointer (some ⟨lastAt 3 bm (l.take P), 0, none⟩)) (.pointer (some ⟨lastAt 4 bm (l.take P), 0, none⟩)) (.pointer (some ⟨lastAt 5 bm (l.take P), 0, none⟩)) (.pointer (some ⟨lastAt 6 bm (l.take P), 0, none⟩)) (.pointer (some ⟨lastAt 7 bm (l.take P), 0, none⟩)) HW2.out.2.2.1
            have hgf := grown_set8 (w1.setCell ⟨w.heap.size + 1, 0, none⟩ (.pointer (some ⟨b, 0, none⟩))) w.heap.size (.pointer (some ⟨lastAt 0 bm (l.take P), 0, none⟩)) (.pointer (some ⟨lastAt 1 bm (l.take P), 0, none⟩)) (.pointer (some ⟨lastAt 2 bm (l.take P), 0, none⟩)) (.pointer (some ⟨lastAt 3 bm (l.take P), 0, none⟩)) (.pointer (some ⟨lastAt 4 bm (l.take P), 0, none⟩)) (.pointer (some ⟨lastAt 5 bm (l.take P), 0, none⟩)) (.pointer (some ⟨lastAt 6 bm (l.take P), 0, none⟩)) (.pointer (some ⟨lastAt 7 bm (l.take P), 0, none⟩))
            try simp only [Exit.jump]
            refine bodyPost_ret (v := .agg (pathC (l.take P) bm 0)) (results_cell_row (P := Tryd.prog) (fn := Tryd.f23) (p := 6) (ty := 50) rfl _ _ w.heap.size 50 _ (0, 0) _ rfl hfin Tryd.underlying50 rfl node8) rfl ⟨rfl, ?_⟩
            exact HW2.out.1.grown hgf (Nat.le_trans (by omega) HW2.out.2.2.2) (fun k hk => by cases hk; omega)
          · obtain ⟨j, hj⟩ : ∃ j, k = j + 1 := ⟨k - 1, by omega⟩
            have hkm : (k : Int) - 1 = (j : Int) := by omega
            have HJ := hid hj
            clear hj
            go_wp2_with (go_at_call 46; (with_reducible refine (ahead_any Ak nk' ck' Av nv' cv' e A nk ck key s _ HRK.out hKw.out).mono ?_); rintro r w1 ⟨rfl, hB1⟩; rw [ha]; have HW1 := hid (HW.out.below hB1); have hbk : (Value.pointer (some ⟨b, 0, none⟩)) = ptrTo (lastAt k bm (l.take P)) := (by rw [← HL.out]; rfl); have HW2 : Hid (SeekW w (w1.setCell ⟨w.heap.size + 1, k, none⟩ (.pointer (some ⟨b, 0, none⟩))) bm (l.take P) k) := (by rw [hbk]; exact SeekW.store HW1.out hk8); clear hbk; have fz := fun i => frozen_of_row w1 (w.heap.size + 1) i _ _ (HW1.out).2.1; have hcur : w1.cell? ⟨w.heap.size + 1, k, none⟩ = some (pc (l.take P) bm (k + 1) k) := box_at (HW1.out).2.1 _ _ (pathC_get _ _ _ _ (by omega)))
            refine wp_goto_k (Jumped.mk k (by omega) ⟨b, j, _, _, _, _, _, _, _, _, _, _, _, _, _, _, _, _, _, _, _, _, _, _, _, _, _, _, _, _, _, _, _, _, _, _, _, _, _, _, rfl, by have := HJ.out; omega, by have := HJ.out; omega, ?_, _, HG.out.mono (by have := HJ.out; omega)⟩)
            have := HW2.out
            rwa [HJ.out] at this ⊢
        · have HAT := hid hat
          clear hat h5 hrk
          go_wp2_with (go_at_call 46; (with_reducible refine (ahead_any Ak nk' ck' Av nv' cv' e A nk ck key s _ HRK.out hKw.out).mono ?_); rintro r w1 ⟨rfl, hB1⟩; rw [ha]; have hc1 := below_cell hB1 hc; have HW1 := hid (HW.out.below hB1))
          go_roundg g'
          case measure => exact hg'
          case rel => exact ⟨b', rfl, HAT.out, HW1.out⟩
  · intro hpass
    go_wp2
    refine wp_label_k (by assumption) (hpass 8 _ _ ?_)
    refine ⟨bm, 7, _, _, _, _, _, _, _, _, _, _, _, _, _, _, _, _, _, _, _, _, _, _, _, _, _, _, _, _, _, _, _, _, _, _, _, _, _, _, rfl, by omega, rfl, ?_, P, 0, .inl ⟨rfl, rfl⟩, Nat.zero_le _, rfl⟩
    have e0 : (w.alloc (.cells zero8 50)).heap.size = w.heap.size + 1 := by simp
    refine ⟨below_alloc' (below_alloc' (Below.refl _ _) _) _, ?_, ?_, by simp⟩
    · have := heap_alloc_new (w.alloc (.cells zero8 50)) (.cells zero8 50)
      rw [e0] at this
      exact this
    · exact blk_below (below_alloc' (Below.refl _ _) _) (heap_alloc_new w _)
end Go.Proofs.YtkkclkknpjapcaaDoor
