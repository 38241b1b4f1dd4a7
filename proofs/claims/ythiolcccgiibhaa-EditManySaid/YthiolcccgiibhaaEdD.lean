/- Layer 14: the reader of an edit: its methods. -/
import Derived.Test.YthiolcccgiibhaaEdX
import Derived.Test.YthiolcccgiibhaaVintT
import Derived.Test.YthiolcccgiibhaaVintZ
namespace Go.Proofs.Ythiolcccgiibhaa
open Go.RowKit
set_option linter.unusedVariables false
set_option linter.unusedSimpArgs false

/-- The reader's box: what is left of the bytes, the error. -/
def Rd (w : World) (b : Nat) (A : Option Addr) (n c : Nat) (xs : List UInt8) (er : Nat) : Prop :=
  w.heap[b]? = some (.cells #[.slice A n c, .int .i64 (er : Int)] 50 (0, 0)) ∧ RB w A n xs ∧ n ≤ c ∧ n ≤ 140737488351232
theorem RB.set_box {w : World} {A A0 : Option Addr} {n n0 c0 b : Nat} {xs : List UInt8} {z : Int} {T : TypeId} {fr : Nat × Nat} (h : RB w A n xs) (hb : w.heap[b]? = some (.cells #[.slice A0 n0 c0, .int .i64 z] T fr)) (i : Nat) (v : Value) : RB (w.setCell ⟨b, i, none⟩ v) A n xs := by
  refine h.keep fun ad _ j _ hc => ?_
  have hne : (⟨b, i, none⟩ : Addr) ≠ ad.add j := by
    intro e
    rw [← e, cell_of_row _ _ _ _ _ _ hb] at hc
    match i with
    | 0 => cases hc
    | 1 => cases hc
    | i + 2 => simp at hc
  exact (World.cell?_setCell_other w _ _ _ hne).trans hc
/-- The box with another error. -/
theorem Rd.err {w : World} {b : Nat} {A : Option Addr} {n c : Nat} {xs : List UInt8} {er : Nat} (h : Rd w b A n c xs er) (e2 : Nat) : Rd (w.setCell ⟨b, 1, none⟩ (.int .i64 (e2 : Int))) b A n c xs e2 :=
  ⟨heap_setCell_same w b 1 _ _ _ h.1, h.2.1.set_box h.1 _ _, h.2.2⟩
/-- The box with fewer bytes. -/
theorem Rd.cut {w : World} {b : Nat} {A A2 : Option Addr} {n c n2 c2 : Nat} {xs ys : List UInt8} {er : Nat} (h : Rd w b A n c xs er) (h2 : RB w A2 n2 ys) (hc : n2 ≤ c2) (hn : n2 ≤ n) : Rd (w.setCell ⟨b, 0, none⟩ (.slice A2 n2 c2)) b A2 n2 c2 ys er :=
  ⟨heap_setCell_same w b 0 _ _ _ h.1, h2.set_box h.1 _ _, hc, Nat.le_trans hn h.2.2.2⟩
def numR (most : Nat) (xs : List UInt8) (er : Nat) : Nat × List UInt8 × Nat :=
  if er ≠ 0 then (0, xs, er)
  else if (takeU xs).2.2 ≠ 0 then (0, xs, (takeU xs).2.2)
  else if most < (takeU xs).1 then (0, xs, 3)
  else ((takeU xs).1, xs.drop (takeU xs).2.1, 0)
/-- The reader has gone on: what is left is of the same bytes. -/
def RdC (w w' : World) (b : Nat) (A : Option Addr) (n : Nat) (xs ys : List UInt8) (er : Nat) : Prop := (∃ A' n' c', Rd w' b A' n' c' ys er ∧ ∀ w0, RB w0 A n xs → RB w0 A' n' ys) ∧ w.grownBy w' (some b)
/-- What number tells where it tells an error: nothing. -/
def NumZ (w : World) (b : Nat) (A : Option Addr) (n most : Nat) (xs : List UInt8) (er : Nat) (w' : World) : Prop := (numR most xs er).1 = 0 ∧ RdC w w' b A n xs (numR most xs er).2.1 (numR most xs er).2.2
set_option maxHeartbeats 8000000 in
set_option maxRecDepth 100000 in
theorem number_any (b : Nat) (A : Option Addr) (n c : Nat) (xs : List UInt8) (er most : Nat) (w : World) (h : Rd w b A n c xs er) (her : er ≤ 100) (hm : most < 9223372036854775808) :
    Calls Try.prog 24 #[.pointer (some ⟨b, 0, none⟩), .int .u64 (most : Int)] w fun e w' => e = .returned (.int .i64 ((numR most xs er).1 : Nat)) ∧ RdC w w' b A n xs (numR most xs er).2.1 (numR most xs er).2.2 := by
  have hq0 := box_at h.1 0 (.slice A n c) rfl
  have hq1 := box_at h.1 1 (.int .i64 (er : Int)) rfl
  have hf := fun i => frozen_of_row w b i _ _ h.1
  go_enter Try.func24, Try.ntmps24
  go_wp2
  refine wp_scope_ghost 0 (fun k a' w' => ∃ (u2 u3 u4 u5 u6 u7 u8 u9 u10 u11 u12 u13 u14 u15 u16 u17 u18 u19 u20 u21 u22 u23 u24 u25 u26 u27 u28 u29 u30 u31 u32 u33 u34 u35 u36 u37 u38 u39 u40 u41 u42 u43 u44 u45 : Value), a' = { tmps := #[.pointer (some ⟨b, 0, none⟩), .int .u64 (most : Int), u2, u3, u4, u5, u6, u7, u8, u9, u10, u11, u12, u13, u14, u15, u16, u17, u18, u19, u20, u21, u22, u23, u24, u25, u26, u27, u28, u29, u30, u31, u32, u33, u34, u35, u36, u37, u38, u39, u40, u41, u42, u43, u44, u45], defers := [] } ∧ NumZ w b A n most xs er w') rfl ?_ ?_
  · rintro k a' w' ⟨u2, u3, u4, u5, u6, u7, u8, u9, u10, u11, u12, u13, u14, u15, u16, u17, u18, u19, u20, u21, u22, u23, u24, u25, u26, u27, u28, u29, u30, u31, u32, u33, u34, u35, u36, u37, u38, u39, u40, u41, u42, u43, u44, u45, rfl, hz, hr⟩
    go_wp2
    simp only [Exit.jump]
    go_ret
    exact ⟨by rw [hz]; rfl, hr⟩
  intro hpass
  by_cases he : er = 0
  · subst he
    obtain ⟨u, k, e2, hT, hu, hk, hk10, he2⟩ : ∃ u k e2, takeU xs = (u, k, e2) ∧ u < 18446744073709551616 ∧ k ≤ n ∧ k ≤ 10 ∧ e2 ≤ 5 := by
      have := takeU_lt xs
      rw [h.2.1.1] at this
      exact ⟨_, _, _, rfl, this⟩
    have HC := take_any A n c xs w h.2.1
    rw [hT] at HC
    have HC' := hid HC
    have HN : Hid (numR most xs 0 = if e2 ≠ 0 then (0, xs, e2) else if most < u then (0, xs, 3) else (u, xs.drop k, 0)) := by unfold Hid numR; rw [hT]; simp
    have HH := hid h
    clear HC hT h
    by_cases hz : e2 = 0
    · subst hz
      have hg := HH.out.err 0
      have hq2 := box_at hg.1 0 (.slice A n c) rfl
      have hq3 := box_at hg.1 1 (.int .i64 0) rfl
      have hf2 := fun i => frozen_of_row _ b i _ _ hg.1
      by_cases hbig : most < u
      · have hbi : (most : Int) < (u : Int) := by omega
        have HR : Hid (numR most xs 0 = (0, xs, 3)) := by rw [HN.out, if_neg (by omega), if_pos hbig]; rfl
        have HG := hid (hg.err 3)
        clear hg
        go_wp2_with (go_at_call 29; refine (HC'.out).mono ?_; rintro e w' ⟨rfl, rfl⟩)
        refine wp_goto ⟨rfl, 0, _, _, _, _, _, _, _, _, _, _, _, _, _, _, _, _, _, _, _, _, _, _, _, _, _, _, _, _, _, _, _, _, _, _, _, _, _, _, _, _, _, _, _, _, rfl, ?_⟩
        unfold NumZ
        rw [HR.out]
        exact ⟨rfl, ⟨_, _, _, HG.out, fun _ h => h⟩, grown_trans (grown_set w b 1 _) (grown_set _ b 1 _)⟩
      · have hbi : ¬ (most : Int) < (u : Int) := by omega
        have HR : Hid (numR most xs 0 = (u, xs.drop k, 0)) := by rw [HN.out, if_neg (by omega), if_neg hbig]; rfl
        obtain ⟨A2, c2, hcut, hrb, hc2⟩ := cutB_lo HH.out.2.2.1 hk (k : Int) rfl
        have HRB := hid hrb
        have HG := hid (hg.cut (hrb _ _ hg.2.1) hc2 (by omega : n - k ≤ n))
        have hwr : IntKind.i64.wrap (u : Int) = (u : Int) := by rw [IntKind.wrap_i64]; omega
        clear hg hrb
        go_wp2_with (go_at_call 29; refine (HC'.out).mono ?_; rintro e w' ⟨rfl, rfl⟩)
        simp only [Exit.jump]
        go_ret
        rw [HR.out]
        exact ⟨rfl, ⟨_, _, _, HG.out, fun w0 h => HRB.out w0 _ h⟩, grown_trans (grown_set w b 1 _) (grown_set _ b 0 _)⟩
    · have hzb : ((e2 : Int) == 0) = false := by rw [beq_eq_false_iff_ne]; omega
      have hzc : ((e2 : Int) != 0) = true := by simp; omega
      have HR : Hid (numR most xs 0 = (0, xs, e2)) := by rw [HN.out, if_pos hz]; rfl
      have hg := HH.out.err e2
      have hq3 := box_at hg.1 1 (.int .i64 (e2 : Int)) rfl
      have HG := hid hg
      clear hg
      go_wp2_with (go_at_call 29; refine (HC'.out).mono ?_; rintro e w' ⟨rfl, rfl⟩)
      refine wp_goto ⟨rfl, 0, _, _, _, _, _, _, _, _, _, _, _, _, _, _, _, _, _, _, _, _, _, _, _, _, _, _, _, _, _, _, _, _, _, _, _, _, _, _, _, _, _, _, _, _, rfl, ?_⟩
      unfold NumZ
      rw [HR.out]
      exact ⟨rfl, ⟨_, _, _, HG.out, fun _ h => h⟩, grown_set w b 1 _⟩
  · have hez : ((er : Int) != 0) = true := by simp; omega
    have HR : Hid (numR most xs er = (0, xs, er)) := by unfold Hid numR; rw [if_pos he]
    have HH := hid h
    clear h he
    go_wp2
    refine wp_goto ⟨rfl, 0, _, _, _, _, _, _, _, _, _, _, _, _, _, _, _, _, _, _, _, _, _, _, _, _, _, _, _, _, _, _, _, _, _, _, _, _, _, _, _, _, _, _, _, _, rfl, ?_⟩
    unfold NumZ
    rw [HR.out]
    exact ⟨rfl, ⟨_, _, _, HH.out, fun _ h => h⟩, grown_refl _ _⟩
def bytesR (most : Int) (xs : List UInt8) (er : Nat) : List UInt8 × List UInt8 × Nat :=
  if er ≠ 0 then ([], xs, er) else ((takeB xs most).1, xs.drop (takeB xs most).2.1, (takeB xs most).2.2)
theorem takeB_k (l : List UInt8) (most : Int) : (takeB l most).2.1 ≤ l.length := by
  have := (takeU_lt l).2.1
  unfold takeB
  split
  · exact Nat.zero_le _
  · split
    · exact Nat.zero_le _
    · split
      · exact Nat.zero_le _
      · show (takeU l).2.1 + (takeU l).1 ≤ l.length
        omega
set_option maxHeartbeats 8000000 in
theorem key_any (b : Nat) (A : Option Addr) (n c : Nat) (xs : List UInt8) (er : Nat) (w : World) (h : Rd w b A n c xs er) (her : er ≤ 100) :
    Calls Try.prog 25 #[.pointer (some ⟨b, 0, none⟩)] w fun e w' => ∃ v, e = .returned v ∧ OB w' w.heap.size v (bytesR 512 xs er).1 ∧ RdC w w' b A n xs (bytesR 512 xs er).2.1 (bytesR 512 xs er).2.2 := by
  have hq0 := box_at h.1 0 (.slice A n c) rfl
  have hq1 := box_at h.1 1 (.int .i64 (er : Int)) rfl
  have HH := hid h
  clear h
  by_cases he : er = 0
  · subst he
    obtain ⟨k, hk⟩ : ∃ k, k = (takeB xs 512).2.1 := ⟨_, rfl⟩
    obtain ⟨e2, he2⟩ : ∃ e2, e2 = (takeB xs 512).2.2 := ⟨_, rfl⟩
    obtain ⟨L, hL⟩ : ∃ L, L = (takeB xs 512).1 := ⟨_, rfl⟩
    have hkn : k ≤ n := by rw [hk, ← HH.out.2.1.1]; exact takeB_k xs 512
    have HC := takebytes_any A n c xs 512 w HH.out.2.1 HH.out.2.2.1 (by omega) (by have := HH.out.2.2.2; omega)
    have HR : Hid (bytesR 512 xs 0 = (L, xs.drop k, e2)) := by unfold Hid bytesR; rw [if_neg (by omega), hk, he2, hL]
    rw [← hk, ← he2, ← hL] at HC
    have HC' := hid HC
    clear HC hk he2 hL
    obtain ⟨A2, c2, hcut, hrb, hc2⟩ := cutB_lo (A := A) HH.out.2.2.1 hkn (k : Int) rfl
    have HRB := hid hrb
    go_enter Try.func25, Try.ntmps25
    go_wp2_with (go_at_call 30; refine (HC'.out).mono ?_; rintro e w1 ⟨v, rfl, hown, hb1⟩; have hR1 : Rd w1 b A n c xs 0 := ⟨blk_below hb1 HH.out.1, HH.out.2.1.below hb1, HH.out.2.2⟩; have hq2 := box_at hR1.1 0 (.slice A n c) rfl; have hq3 := box_at hR1.1 1 (.int .i64 0) rfl; have hf2 := fun i => frozen_of_row w1 b i _ _ hR1.1)
    go_ret
    rw [HR.out]
    have r1 := hR1.cut (hrb _ _ hR1.2.1) hc2 (by omega : n - k ≤ n)
    have r2 := r1.err e2
    have g1 := grown_set w1 b 0 (.slice A2 (n - k) c2)
    have g2 := grown_set (w1.setCell ⟨b, 0, none⟩ (.slice A2 (n - k) c2)) b 1 (.int .i64 (e2 : Int))
    have o1 := hown.other g1 (.inr (hown.ne_blk hR1.1 (by decide)))
    exact ⟨_, rfl, o1.other g2 (.inr (o1.ne_blk r1.1 (by decide))), ⟨_, _, _, r2, fun w0 h => hrb w0 _ h⟩, grown_trans (below_grown hb1 _) (grown_trans g1 g2)⟩
  · have hez : ((er : Int) != 0) = true := by simp; omega
    have HR : Hid (bytesR 512 xs er = ([], xs, er)) := by unfold Hid bytesR; rw [if_pos he]
    clear he
    go_enter Try.func25, Try.ntmps25
    go_wp2
    go_ret
    rw [HR.out]
    exact ⟨_, rfl, OB.nil _ _, ⟨_, _, _, HH.out, fun _ h => h⟩, grown_refl _ _⟩
end Go.Proofs.Ythiolcccgiibhaa
