/- Layer 16: container/heap: Init, Fix at the top. -/
import Derived.Test.YtnjhiiakpndnnaaMgD
namespace Go.Proofs.Ytnjhiiakpndnnaa
open Go.RowKit
set_option linter.unusedVariables false
set_option linter.unusedSimpArgs false

theorem down_at (w W : World) (base bh g n c lo : Nat) (L : List (List Value)) (H : List HeadR) (I : Int) (hI : I = (lo : Int)) (h : HJ w W base bh g n c L H) (hb : w.heap.size ≤ base) (hn : n ≤ 1000) (hlo : lo < n) (hf : HF H (lo + 1)) :
    Calls Try.prog 33 #[hIf bh, .int .i64 I, .int .i64 (n : Int)] W fun e w' => IsB e ∧ DownC w W w' base bh g n c lo H := by
  subst hI
  exact down_any w W base bh g n c lo L H h hb hn hlo hf
theorem HF.half {H : List HeadR} {n : Nat} (h : H.length = n) : HF H (n / 2) := by
  intro k h1 h2 h3
  omega
set_option maxHeartbeats 8000000 in
theorem init_none (W : World) (bh : Nat) (A : Option Addr) (c : Nat) (h : W.heap[bh]? = some (.cells #[.slice A 0 c] 59 (0, 0))) :
    Calls Try.prog 26 #[hIf bh] W fun e w' => e = .returned (.tuple #[]) ∧ W = w' := by
  have hm := run_method W bh A 0 c "Len" _ mLen (box_at h 0 _ rfl)
  clear h
  go_enter Try.func26, Try.ntmps26
  go_wp2_with (go_at_call 52; (with_reducible refine (len_any A 0 c _).mono ?_); rintro r w1 ⟨rfl, rfl⟩)
  go_loopw [3] (fun i wr => i = .int .i64 (-1) ∧ wr = W) (fun i wr => 0)
  case atStart => exact ⟨rfl, rfl⟩
  case round =>
    obtain ⟨rfl, rfl⟩ := hrel
    go_wp2
    go_end0
    exact ⟨rfl, rfl⟩
set_option maxHeartbeats 16000000 in
theorem init_any (w W : World) (base bh g n c : Nat) (L : List (List Value)) (H : List HeadR) (h : HJ w W base bh g n c L H) (hb : w.heap.size ≤ base) (hn : n ≤ 1000) :
    Calls Try.prog 26 #[hIf bh] W fun e w' => e = .returned (.tuple #[]) ∧ DownC w W w' base bh g n c 0 H := by
  have hm := run_method W bh (some ⟨g, 0, none⟩) n c "Len" _ mLen (box_at h.box 0 _ rfl)
  have HD := hid (⟨L, H, h, .refl _, HF.half h.len, grown_refl _ _⟩ : DownC w W W base bh g n c (n / 2) H)
  clear h
  go_enter Try.func26, Try.ntmps26
  go_wp2_with (go_at_call 52; (with_reducible refine (len_any (some ⟨g, 0, none⟩) n c _).mono ?_); rintro r w1 ⟨rfl, rfl⟩)
  go_loopw [3] (fun i wr => ∃ f : Nat, f ≤ n / 2 ∧ i = .int .i64 ((f : Int) - 1) ∧ DownC w W wr base bh g n c f H) (fun i wr => (intOf i + 1).toNat)
  case atStart => exact ⟨n / 2, Nat.le_refl _, by first | rfl | (congr 1; omega) | (simp; omega), HD.out⟩
  case round =>
    clear HD
    obtain ⟨f, hf, rfl, hD⟩ := hrel
    have HD := hid hD
    obtain ⟨L', H', hJ, hP, hF, hG⟩ := hD
    rcases Nat.eq_zero_or_pos f with h0 | h0
    · subst h0
      clear hJ hP hF hG
      go_wp2
      go_end0
      exact ⟨rfl, HD.out⟩
    · have HJ := hid hJ
      have HFf : Hid (HF H' (f - 1 + 1)) := by unfold Hid; rw [Nat.sub_add_cancel h0]; exact hF
      have HPG := hid (⟨hP, hG⟩ : _ ∧ _)
      have hge : (0 : Int) ≤ (f : Int) - 1 := by omega
      clear hJ hP hF hG HD
      go_wp2_with (go_at_call 33; (with_reducible refine (down_at w _ base bh g n c (f - 1) L' H' _ (by omega) HJ.out hb hn (by omega) HFf.out).mono ?_); rintro r w1 ⟨⟨b, rfl⟩, L2, H2, hJ2, hP2, hF2, hG2⟩; have HD2 := hid (⟨L2, H2, hJ2, hP2.trans HPG.out.1, hF2, grown_trans HPG.out.2 hG2⟩ : DownC w W w1 base bh g n c (f - 1) H); clear hJ2 hP2 hF2 hG2)
      go_roundw
      case rel => exact ⟨f - 1, by omega, by first | (congr 1; omega) | (simp; omega), HD2.out⟩
      case measure => simp [intOf]; omega
set_option maxHeartbeats 8000000 in
theorem up_top (W : World) (bh : Nat) : Calls Try.prog 34 #[hIf bh, .int .i64 0] W fun e w' => e = .returned (.tuple #[]) ∧ W = w' := by
  go_enter Try.func34, Try.ntmps34
  go_wp2
  go_loopw [1] (fun i wr => i = .int .i64 0 ∧ wr = W) (fun i wr => 0)
  case atStart => exact ⟨rfl, rfl⟩
  case round =>
    obtain ⟨rfl, rfl⟩ := hrel
    go_wp2
    go_end0
    exact ⟨rfl, rfl⟩
set_option maxHeartbeats 16000000 in
theorem fix_any (w W : World) (base bh g n c : Nat) (L : List (List Value)) (H : List HeadR) (h : HJ w W base bh g n c L H) (hb : w.heap.size ≤ base) (hn : n ≤ 1000) (h0 : 0 < n) (hf : HF H (0 + 1)) :
    Calls Try.prog 28 #[hIf bh, .int .i64 0] W fun e w' => e = .returned (.tuple #[]) ∧ DownC w W w' base bh g n c 0 H := by
  have hm := run_method W bh (some ⟨g, 0, none⟩) n c "Len" _ mLen (box_at h.box 0 _ rfl)
  have HH := hid h
  have HFf := hid hf
  clear h hf
  go_enter Try.func28, Try.ntmps28
  go_wp2_with (first
    | (go_at_call 52; (with_reducible refine (len_any (some ⟨g, 0, none⟩) n c _).mono ?_); rintro r w1 ⟨rfl, rfl⟩)
    | (go_at_call 33; (with_reducible refine (down_at w _ base bh g n c 0 L H 0 rfl HH.out hb hn h0 HFf.out).mono ?_); rintro r w1 ⟨⟨b, rfl⟩, hD⟩; have HD := hid hD; clear hD; cases b)
    | (go_at_call 34; (with_reducible refine (up_top _ bh).mono ?_); rintro r w2 ⟨rfl, rfl⟩))
  all_goals
    go_end0
    exact ⟨rfl, HD.out⟩
end Go.Proofs.Ytnjhiiakpndnnaa
