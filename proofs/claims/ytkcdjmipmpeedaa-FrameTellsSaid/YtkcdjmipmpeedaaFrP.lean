/- Layer 6: Put and Take: the walks. -/
import Derived.Test.YtkcdjmipmpeedaaFr
namespace Go.Proofs.Ytkcdjmipmpeedaa
open Go.RowKit
set_option linter.unusedVariables false
set_option linter.unusedSimpArgs false

theorem wrap_u64_nat (a : Nat) (h : a < 18446744073709551616) : IntKind.u64.wrap (a : Int) = a := by rw [IntKind.wrap_u64]; omega
theorem below_of_none {w w1 : World} (h : w.grownBy w1 (Value.slice none 0 0).ownBlock) : Below w.heap.size w w1 := ⟨h.os, h.tape, h.output, h.size, fun k hk => h.block k hk (by intro e; cases e)⟩
theorem own_apart {w w1 : World} {v0 : Value} {A : Option Addr} {n c : Nat} {xs : List UInt8} (h : OB w1 w.heap.size (.slice A n c) xs) (hlt : ∀ k, v0.ownBlock = some k → k < w.heap.size) : ∀ ad, A = some ad → some ad.block ≠ v0.ownBlock := by
  intro ad e hx
  subst e
  have h1 := OB.base_ h ad.block rfl
  have h2 := hlt ad.block hx.symm
  omega
def fputE (m : Nat) : Nat := if 1048576 < m then 2 else 0
def fputB (xs rs : List UInt8) : List UInt8 := if 1048576 < rs.length then [] else xs ++ frameB rs
theorem fput_any (A : Option Addr) (n c : Nat) (xs : List UInt8) (A' : Option Addr) (m c' : Nat) (rs : List UInt8) (w : World) (h : RB w A n xs) (h' : RB w A' m rs) (hsz : n + 1048600 ≤ 140737488355328) :
    Calls Try.prog 8 #[.slice A n c, .slice A' m c'] w fun e w' => ∃ v, e = .returned (.tuple #[v, .int .i64 (fputE m : Nat)]) ∧ OB w' w.heap.size v (fputB xs rs) ∧ Below w.heap.size w w' := by
  have hl := h.1
  have hl' := h'.1
  have hm63 := h'.2.1
  by_cases hbig : 1048576 < m
  · have e1 : fputE m = 2 := by unfold fputE; rw [if_pos hbig]
    have e2 : fputB xs rs = [] := by unfold fputB; rw [hl', if_pos hbig]
    rw [e1, e2]
    clear hl hl'
    go_enter Try.func8, Try.ntmps8
    go_wp2
    go_ret2
    exact ⟨_, rfl, OB.nil _ _, Below.refl _ _⟩
  · have e1 : fputE m = 0 := by unfold fputE; rw [if_neg hbig]
    have e2 : fputB xs rs = xs ++ frameB rs := by unfold fputB; rw [hl', if_neg hbig]
    rw [e1, e2]
    obtain ⟨L, hL⟩ : ∃ L, (frameR rs).length = L := ⟨_, rfl⟩
    have hL2 := frameR_len rs
    rw [hL, hl'] at hL2
    obtain ⟨M, hM⟩ : ∃ M, M = sumR (frameR rs) := ⟨_, rfl⟩
    have hM32 := sumR_lt (frameR rs)
    rw [← hM] at hM32
    have hM64 := wrap_u64_nat M (by omega)
    have HL := hid hl
    have HL' := hid hl'
    have HLL := hid hL
    have HM := hid hM
    clear hl hl' hL hM e1 e2
    go_enter Try.func8, Try.ntmps8
    go_wp2_with (first
      | (go_at_call 18; (with_reducible refine (putbytes_any none 0 0 [] A' m c' rs _ ((OB.nil _ 0).rb.1) h' (by omega)).mono ?_); rintro e w1 ⟨v1, rfl, hown1, hb1⟩; obtain ⟨A1, c1, rfl, hr1, hc1⟩ := OB.openN (xs := frameR rs) hown1 L HLL.out)
      | (go_at_call 21; (with_reducible refine (sum_any A1 L c1 (frameR rs) _ hr1).mono ?_); rintro e w2 ⟨rfl, rfl⟩)
      | (go_at_call 20; (with_reducible refine (mask_any (crcMore 0 (frameR rs)) (crcMore_lt _ _) _).mono ?_); rintro e w2 ⟨rfl, rfl⟩; rw [show crcMask (crcMore 0 (frameR rs)) = M from HM.out.symm])
      | (go_at_call 19; (with_reducible refine (fixed_any A n c xs M 4 _ (h.below hb1) (by omega) (by omega) (by omega)).mono ?_); rintro e w2 ⟨v2, rfl, hown2, hb2⟩; rw [fixB_four] at hown2)
      | (at_builtin; refine wpB_append w1 w2 w1.heap.size rfl (.tmp 17) (.tmp 18) rfl v2 _ rfl hown2 A1 L c1 (frameR rs) rfl (hr1.below hb2) (by rw [List.length_append, fixedU_len, HL.out, HLL.out]; omega) hb2 hb2.size ?_; intro v3 w3 hown3 hb3 _ _))
    go_ret2
    refine ⟨_, rfl, ?_, below_then hb1 hb3⟩
    have : xs ++ frameB rs = xs ++ fixedU M 4 ++ frameR rs := by unfold frameB; rw [← HM.out, List.append_assoc]
    rw [this]
    exact hown3.mono hb1.size
theorem reffput_any (v0 : Value) (base : Nat) (xs : List UInt8) (A' : Option Addr) (m c' : Nat) (rs : List UInt8) (w : World) (h : OB w base v0 xs) (hb : base ≤ w.heap.size) (h' : RB w A' m rs) (hsz : xs.length + 1048600 ≤ 140737488355328) :
    Calls Try.prog 9 #[v0, .slice A' m c'] w fun e w' => ∃ v, e = .returned (.tuple #[v, .int .i64 (fputE m : Nat)]) ∧ OB w' base v (fputB xs rs) ∧ w.grownBy w' v0.ownBlock := by
  have hl' := h'.1
  have hm63 := h'.2.1
  by_cases hbig : 1048576 < m
  · have e1 : fputE m = 2 := by unfold fputE; rw [if_pos hbig]
    have e2 : fputB xs rs = [] := by unfold fputB; rw [hl', if_pos hbig]
    rw [e1, e2]
    clear hl'
    go_enter Try.func9, Try.ntmps9
    go_wp2
    go_ret2
    exact ⟨_, rfl, OB.nil _ _, grown_refl _ _⟩
  · have e1 : fputE m = 0 := by unfold fputE; rw [if_neg hbig]
    have e2 : fputB xs rs = xs ++ frameB rs := by unfold fputB; rw [hl', if_neg hbig]
    rw [e1, e2]
    obtain ⟨L, hL⟩ : ∃ L, (frameR rs).length = L := ⟨_, rfl⟩
    have hL2 := frameR_len rs
    rw [hL, hl'] at hL2
    obtain ⟨M, hM⟩ : ∃ M, M = sumR (frameR rs) := ⟨_, rfl⟩
    have hM32 := sumR_lt (frameR rs)
    rw [← hM] at hM32
    have hM64 := wrap_u64_nat M (by omega)
    have HL' := hid hl'
    have HLL := hid hL
    have HM := hid hM
    clear hl' hL hM e1 e2
    have hne0 : 0 < m → ∀ ad, A' = some ad → (Value.slice none 0 0).ownBlock ≠ some ad.block := fun _ ad _ hx => by cases hx
    have hlt0 : ∀ k, v0.ownBlock = some k → k < w.heap.size := fun k hk => (World.ownsRow.lt h k hk).2
    have hxlen : xs.length + 1048600 ≤ 140737488355328 := hsz
    go_enter Try.func9, Try.ntmps9
    go_wp2_with (first
      | (go_at_call 22; (with_reducible refine (refputbytes_any (.slice none 0 0) w.heap.size [] A' m c' rs _ (OB.nil _ _) (Nat.le_refl _) h' hne0 (by simp; omega)).mono ?_); rintro e w1 ⟨v1, rfl, hown1, hgr1, hat1⟩; have hb1 := below_of_none hgr1; obtain ⟨A1, c1, rfl, hr1, hc1⟩ := OB.openN (xs := frameR rs) hown1 L HLL.out; have hv0 := h.below hb1)
      | (go_at_call 25; (with_reducible refine (refsum_any A1 L c1 (frameR rs) _ hr1).mono ?_); rintro e w2 ⟨rfl, rfl⟩)
      | (go_at_call 24; (with_reducible refine (refmask_any (crcMore 0 (frameR rs)) (crcMore_lt _ _) _).mono ?_); rintro e w2 ⟨rfl, rfl⟩; rw [show crcMask (crcMore 0 (frameR rs)) = M from HM.out.symm])
      | (go_at_call 23; (with_reducible refine (reffixed_any v0 base xs M 4 _ hv0 (Nat.le_trans hb hb1.size) (by omega) (by omega) (by omega)).mono ?_); rintro e w2 ⟨v2, rfl, hown2, hgr2, hat2⟩; rw [fixB_four] at hown2; have hr2 := hr1.grown hgr2 (own_apart hown1 hlt0))
      | (at_builtin; refine wpB_append w2 w2 base rfl (.tmp 17) (.tmp 18) rfl v2 _ rfl hown2 A1 L c1 (frameR rs) rfl hr2 (by rw [List.length_append, fixedU_len, HLL.out]; omega) (Below.refl _ _) (Nat.le_trans hb (Nat.le_trans hb1.size hgr2.size)) ?_; intro v3 w3 hown3 _ hgr3 _))
    go_ret2
    refine ⟨_, rfl, ?_, grown_step (below_grown hb1 v0.ownBlock) (AtRow.refl _ v0) (grown_step hgr2 hat2 hgr3)⟩
    have : xs ++ frameB rs = xs ++ fixedU M 4 ++ frameR rs := by unfold frameB; rw [← HM.out, List.append_assoc]
    rw [this]
    exact hown3
end Go.Proofs.Ytkcdjmipmpeedaa
