/- Layer 8: batches alike. -/
import Derived.Test.YtdhmonomhifkkaaBaD
namespace Go.Proofs.Ytdhmonomhifkkaa
open Go.RowKit
set_option linter.unusedVariables false
set_option linter.unusedSimpArgs false

set_option maxHeartbeats 8000000 in
set_option maxRecDepth 100000 in
theorem sameops_any (A : Option Addr) (c : Nat) (A' : Option Addr) (c' n : Nat) (ops : List OpR) (w : World) (h : ROps w A n ops) (h' : ROps w A' n ops) :
    Calls Try.prog 28 #[.slice A n c, .slice A' n c'] w fun e w' => e = .returned (.bool true) ∧ Below w.heap.size w w' := by
  have hm := h.2.1
  have H := hid h
  have H' := hid h'
  clear h h'
  go_enter Try.func28, Try.ntmps28
  go_wp2
  go_loopw [15] (fun i wr => ∃ k : Nat, k ≤ n ∧ i = .int .i64 k ∧ Below w.heap.size w wr) (fun i wr => n - (intOf i).toNat)
  case atStart => exact ⟨0, Nat.zero_le _, rfl, Below.refl _ _⟩
  case round =>
    obtain ⟨k, hk, rfl, hB⟩ := hrel
    by_cases hlt : k < n
    · obtain ⟨ad, rfl, hcells⟩ := H.out.at_ hlt
      obtain ⟨ad', rfl, hcells'⟩ := H'.out.at_ hlt
      obtain ⟨Ak, nk, ck, Av, nv, cv, hc0, hc1, hc2, hc3, hrk, hck, hrv, hcv, hwf⟩ := hcells.below hB
      obtain ⟨Bk, mk, dk, Bv, mv, dv, e0, e1, e2, e3, hsk, hdk, hsv, hdv, _⟩ := hcells'.below hB
      clear hcells hcells' hwf
      generalize elt noOp ops k = o at *
      have al := fun (ob : Obj) => below_alloc' (Below.refl wr.heap.size wr) ob
      have hq0 := fun ob => below_cell (al ob) e0
      have hq1 := fun ob => below_cell (al ob) e1
      have hq2 := fun ob => below_cell (al ob) e2
      have hq3 := fun ob => below_cell (al ob) e3
      have hcK : ∀ ob ob' : Obj, (convert 26 9 (.slice Ak nk ck)).run Try.prog ((wr.alloc ob).alloc ob') = .ok (.string (bstr (opKey o))) ((wr.alloc ob).alloc ob') := fun ob ob' => RB.conv ((hrk.alloc ob).alloc ob') ck
      have hcV : ∀ ob ob' : Obj, (convert 26 9 (.slice Av nv cv)).run Try.prog ((wr.alloc ob).alloc ob') = .ok (.string (bstr (opVal o))) ((wr.alloc ob).alloc ob') := fun ob ob' => RB.conv ((hrv.alloc ob).alloc ob') cv
      have hcK2 : ∀ ob ob' : Obj, (convert 26 9 (.slice Bk mk dk)).run Try.prog ((wr.alloc ob).alloc ob') = .ok (.string (bstr (opKey o))) ((wr.alloc ob).alloc ob') := fun ob ob' => RB.conv ((hsk.alloc ob).alloc ob') dk
      have hcV2 : ∀ ob ob' : Obj, (convert 26 9 (.slice Bv mv dv)).run Try.prog ((wr.alloc ob).alloc ob') = .ok (.string (bstr (opVal o))) ((wr.alloc ob).alloc ob') := fun ob ob' => RB.conv ((hsv.alloc ob).alloc ob') dv
      clear al e0 e1 e2 e3 hrk hrv hsk hsv
      go_wp2
      go_roundw
      case rel => exact ⟨k + 1, by omega, by go_num, below_alloc' (below_alloc' hB _) _⟩
      case measure => simp [intOf]; omega
    · obtain rfl : k = n := by omega
      go_wp2
      go_ret
      exact ⟨rfl, hB⟩
theorem samebatch_any (s : Int) (A : Option Addr) (c : Nat) (A' : Option Addr) (c' n : Nat) (ops : List OpR) (w : World) (h : ROps w A n ops) (h' : ROps w A' n ops) :
    Calls Try.prog 17 #[.agg #[.int .i64 s, .slice A n c], .agg #[.int .i64 s, .slice A' n c']] w fun e w' => e = .returned (.bool true) ∧ Below w.heap.size w w' := by
  have hb := fun (x y : Obj) => below_alloc' (below_alloc' (Below.refl w.heap.size w) x) y
  have H := hid (fun x y => h.below (hb x y))
  have H' := hid (fun x y => h'.below (hb x y))
  clear h h'
  go_enter Try.func17, Try.ntmps17
  go_wp2_with (go_at_call 28; (with_reducible refine (sameops_any A c A' c' n ops _ (H.out _ _) (H'.out _ _)).mono ?_); rintro e w1 ⟨rfl, hb1⟩)
  go_ret
  exact ⟨rfl, below_then (hb _ _) hb1⟩
end Go.Proofs.Ytdhmonomhifkkaa
