/- Layer 8: rows of changes of one's own; the batch that every program must know; too much to be gone through. -/
import Derived.Test.YtdhmonomhifkkaaBaG
import Derived.Test.YtdhmonomhifkkaaOV
namespace Go.Proofs.Ytdhmonomhifkkaa
open Go.RowKit
set_option linter.unusedVariables false
set_option linter.unusedSimpArgs false

theorem opinfo : (Try.prog.info? 28).map (fun i => (i.zero, i.size, i.bytes)) = some (some (.agg #[.slice none 0 0, .bool false, .int .i64 0, .slice none 0 0]), 4, 64) := by kernel_rfl
def POp (w : World) (base : Nat) (x : List Value) (o : OpR) : Prop :=
  ∃ kv vv, x = [kv, .bool (opGone o), .int .i64 (opTil o), vv] ∧ OB w base kv (opKey o) ∧ OB w base vv (opVal o) ∧ (Lit.int .i64 (opTil o)).wf = true
theorem ROps_of_OV {w : World} {base base' : Nat} {v : Value} {V : List (List Value)} {ops : List OpR} (h : OV w base 28 4 v V) (hr : RelV noOp (POp w base') V ops) (hm : ops.length ≤ 9223372036854775807) :
    ∃ A c, v = .slice A ops.length c ∧ ops.length ≤ c ∧ ROps w A ops.length ops := by
  have hl := hr.1
  rcases Nat.eq_zero_or_pos V.length with h0 | h0
  · obtain ⟨A, c, rfl, hc⟩ := h.open_
    exact ⟨A, c, by rw [hl], by omega, rfl, hm, fun hn => absurd hn (by omega)⟩
  · obtain ⟨g, c, rfl, _, _, hc⟩ := h.form h0
    refine ⟨_, c, by rw [hl], by omega, rfl, hm, fun _ => ⟨_, rfl, fun j hj => ?_⟩⟩
    obtain ⟨kv, vv, hx, h1, h2, h3⟩ := hr.2 j (by omega)
    obtain ⟨Ak, ck, rfl, hrk, hck⟩ := h1.open_
    obtain ⟨Av, cv, rfl, hrv, hcv⟩ := h2.open_
    have hc4 := fun i hi => h.cell (j := j) (i := i) (by omega) hi
    rw [add_plain, Nat.zero_add]
    refine ⟨Ak, _, ck, Av, _, cv, ?_, ?_, ?_, ?_, hrk, hck, hrv, hcv, h3⟩
    · have := hc4 0 (by omega); rw [hx] at this; exact this
    · have := hc4 1 (by omega); rw [hx] at this; exact this
    · have := hc4 2 (by omega); rw [hx] at this; exact this
    · have := hc4 3 (by omega); rw [hx] at this; exact this
theorem known_may : mayE 5 [([98], true, 0, [])] = 0 := by decide +kernel
theorem known_enc : encB 5 [([98], true, 0, [])] = [5, 1, 1, 1, 98] := by decide +kernel
theorem known_str : (bstr [5, 1, 1, 1, 98]) = ⟨#[5, 1, 1, 1, 98]⟩ := by decide +kernel
set_option maxHeartbeats 4000000 in
theorem awake_any (w : World) : Calls Try.prog 11 #[] w fun e w' => e = .returned (.bool true) ∧ Below w.heap.size w w' := by
  have kc := fun (w : World) (C : Array Value) (n c : Nat) => Lib.run_convert_bytes_const (P := Try.prog) w 26 5 C n c Try.underlying26 Try.underlying5
  have hr : RB (w.alloc (.cells #[.int .u8 98] 5 (1, 2))) (some ⟨w.heap.size, 0, none⟩) 1 [98] := RB.lit w [98] _ _ _ rfl (by decide)
  have hr2 := hr.alloc (.cells #[.slice (some ⟨w.heap.size, 0, none⟩) 1 1, .bool true, .int .i64 0, .slice none 0 0] 28)
  have hblk := heap_alloc_new (w.alloc (.cells #[.int .u8 98] 5 (1, 2))) (.cells #[.slice (some ⟨w.heap.size, 0, none⟩) 1 1, .bool true, .int .i64 0, .slice none 0 0] 28)
  have hO : ROps ((w.alloc (.cells #[.int .u8 98] 5 (1, 2))).alloc (.cells #[.slice (some ⟨w.heap.size, 0, none⟩) 1 1, .bool true, .int .i64 0, .slice none 0 0] 28)) (some ⟨w.heap.size + 1, 0, none⟩) 1 [([98], true, 0, [])] := by
    refine ⟨rfl, by decide, fun _ => ⟨_, rfl, fun j hj => ?_⟩⟩
    obtain rfl : j = 0 := by omega
    have e : (w.alloc (.cells #[.int .u8 98] 5 (1, 2))).heap.size = w.heap.size + 1 := by simp
    rw [e] at hblk
    rw [add_plain]
    exact ⟨_, _, _, _, _, _, box_at hblk 0 _ rfl, box_at hblk 1 _ rfl, box_at hblk 2 _ rfl, box_at hblk 3 _ rfl, hr2, by decide, RB.nil _, by decide, by decide⟩
  have HO := hid hO
  clear hO hr hr2 hblk
  go_enter Try.func11, Try.ntmps11
  go_wp2_with (go_at_call 7; (with_reducible refine (encode_any 5 _ 1 1 _ _ HO.out (by decide)).mono ?_); rintro e w1 ⟨v1, rfl, hown, hb⟩; rw [known_may]; rw [known_enc] at hown; have hcv := hown.conv; rw [known_str] at hcv)
  go_ret
  exact ⟨rfl, below_then (below_alloc' (below_alloc' (Below.refl _ _) _) _) hb⟩
def IsB (e : Ending) : Prop := ∃ b, e = .returned (.bool b)
set_option maxHeartbeats 4000000 in
theorem heavy_any (s : Int) (A : Option Addr) (n c : Nat) (ops : List OpR) (w : World) (h : ROps w A n ops) (hs : -9223372036854775808 ≤ s ∧ s ≤ 9223372036854775807) :
    Calls Try.prog 12 #[.agg #[.int .i64 s, .slice A n c]] w fun e w' => IsB e ∧ Below w.heap.size w w' := by
  have hl := h.1
  have hm := h.2.1
  have H := hid h
  clear h hl
  go_enter Try.func12, Try.ntmps12
  go_wp2
  go_loopw [8] (fun i wr => ∃ k : Nat, k ≤ n ∧ i = .int .i64 k ∧ Below w.heap.size w wr) (fun i wr => n - (intOf i).toNat)
  case atStart => exact ⟨0, Nat.zero_le _, rfl, below_alloc' (Below.refl _ _) _⟩
  case round =>
    obtain ⟨k, hk, rfl, hB⟩ := hrel
    by_cases hlt : k < n
    · obtain ⟨ad, rfl, hcells⟩ := H.out.at_ hlt
      obtain ⟨Ak, nk, ck, Av, nv, cv, hc0, hc1, hc2, hc3, hrk, hck, hrv, hcv, hwf⟩ := hcells.below hB
      have hnk := hrk.2.1
      have hnv := hrv.2.1
      clear hrk hrv hck hcv hwf hcells
      go_wp2
      all_goals
        first
        | (go_ret
           exact ⟨⟨_, rfl⟩, below_alloc' hB _⟩)
        | (go_roundw
           case rel => exact ⟨k + 1, by omega, by go_num, below_alloc' hB _⟩
           case measure => simp [intOf]; omega)
    · obtain rfl : k = n := by omega
      go_wp2
      go_ret
      exact ⟨⟨_, rfl⟩, hB⟩
end Go.Proofs.Ytdhmonomhifkkaa
