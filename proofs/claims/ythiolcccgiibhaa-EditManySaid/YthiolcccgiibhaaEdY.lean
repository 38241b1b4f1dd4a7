/- Layer 14: edits alike. -/
import Derived.Test.YthiolcccgiibhaaEdDe
namespace Go.Proofs.Ythiolcccgiibhaa
open Go.RowKit
set_option linter.unusedVariables false
set_option linter.unusedSimpArgs false

set_option maxHeartbeats 16000000 in
set_option maxRecDepth 100000 in
theorem sametables_any (A : Option Addr) (c : Nat) (A' : Option Addr) (c' n : Nat) (ts : List TabR) (w : World) (h : RTabs w A n ts) (h' : RTabs w A' n ts) :
    Calls Try.prog 26 #[.slice A n c, .slice A' n c'] w fun e w' => e = .returned (.bool true) ∧ Below w.heap.size w w' := by
  have hm := h.2.1
  have H := hid h
  have H' := hid h'
  clear h h'
  go_enter Try.func26, Try.ntmps26
  go_wp2
  go_loopw [15] (fun i wr => ∃ k : Nat, k ≤ n ∧ i = .int .i64 k ∧ Below w.heap.size w wr) (fun i wr => n - (intOf i).toNat)
  case atStart => exact ⟨0, Nat.zero_le _, rfl, Below.refl _ _⟩
  case round =>
    obtain ⟨k, hk, rfl, hB⟩ := hrel
    by_cases hlt : k < n
    · obtain ⟨ad, rfl, hcells⟩ := H.out.at_ hlt
      obtain ⟨ad', rfl, hcells'⟩ := H'.out.at_ hlt
      obtain ⟨Ak, nk, ck, Av, nv, cv, hc0, hc1, hc2, hc3, hc4, hrk, hck, hrv, hcv, hwf, _, _⟩ := hcells.below hB
      obtain ⟨Bk, mk, dk, Bv, mv, dv, e0, e1, e2, e3, e4, hsk, hdk, hsv, hdv, _, _, _⟩ := hcells'.below hB
      clear hcells hcells' hwf
      generalize elt noTab ts k = o at *
      have al := fun (ob : Obj) => below_alloc' (Below.refl wr.heap.size wr) ob
      have hq0 := fun ob => below_cell (al ob) e0
      have hq1 := fun ob => below_cell (al ob) e1
      have hq2 := fun ob => below_cell (al ob) e2
      have hq3 := fun ob => below_cell (al ob) e3
      have hq4 := fun ob => below_cell (al ob) e4
      have hcK : ∀ ob ob' : Obj, (convert 22 9 (.slice Ak nk ck)).run Try.prog ((wr.alloc ob).alloc ob') = .ok (.string (bstr (tLeast o))) ((wr.alloc ob).alloc ob') := fun ob ob' => RB.conv ((hrk.alloc ob).alloc ob') ck
      have hcV : ∀ ob ob' : Obj, (convert 22 9 (.slice Av nv cv)).run Try.prog ((wr.alloc ob).alloc ob') = .ok (.string (bstr (tMost o))) ((wr.alloc ob).alloc ob') := fun ob ob' => RB.conv ((hrv.alloc ob).alloc ob') cv
      have hcK2 : ∀ ob ob' : Obj, (convert 22 9 (.slice Bk mk dk)).run Try.prog ((wr.alloc ob).alloc ob') = .ok (.string (bstr (tLeast o))) ((wr.alloc ob).alloc ob') := fun ob ob' => RB.conv ((hsk.alloc ob).alloc ob') dk
      have hcV2 : ∀ ob ob' : Obj, (convert 22 9 (.slice Bv mv dv)).run Try.prog ((wr.alloc ob).alloc ob') = .ok (.string (bstr (tMost o))) ((wr.alloc ob).alloc ob') := fun ob ob' => RB.conv ((hsv.alloc ob).alloc ob') dv
      clear al e0 e1 e2 e3 e4 hrk hrv hsk hsv
      go_wp2
      go_roundw
      case rel => exact ⟨k + 1, by omega, by go_num, below_alloc' (below_alloc' hB _) _⟩
      case measure => simp [intOf]; omega
    · obtain rfl : k = n := by omega
      go_wp2
      go_ret
      exact ⟨rfl, hB⟩
set_option maxHeartbeats 8000000 in
theorem samenumbers_any (A : Option Addr) (c : Nat) (A' : Option Addr) (c' n : Nat) (zs : List Int) (w : World) (h : RN .i64 w A n zs) (h' : RN .i64 w A' n zs) :
    Calls Try.prog 27 #[.slice A n c, .slice A' n c'] w fun e w' => e = .returned (.bool true) ∧ Below w.heap.size w w' := by
  have hm := h.2.1
  have H := hid h
  have H' := hid h'
  clear h h'
  go_enter Try.func27, Try.ntmps27
  go_wp2
  go_loopw [13] (fun i wr => ∃ k : Nat, k ≤ n ∧ i = .int .i64 k ∧ Below w.heap.size w wr) (fun i wr => n - (intOf i).toNat)
  case atStart => exact ⟨0, Nat.zero_le _, rfl, Below.refl _ _⟩
  case round =>
    obtain ⟨k, hk, rfl, hB⟩ := hrel
    by_cases hlt : k < n
    · obtain ⟨ad, rfl, hc0⟩ := (H.out.below hB).at_ hlt
      obtain ⟨ad', rfl, hc1⟩ := (H'.out.below hB).at_ hlt
      have hd0 : wr.drew.cell? (ad.add k) = some (.int .i64 (elt 0 zs k)) := hc0
      have hd1 : wr.drew.cell? (ad'.add k) = some (.int .i64 (elt 0 zs k)) := hc1
      go_wp2
      go_region
      all_goals
        go_wp2
        go_roundw
        case rel => exact ⟨k + 1, by omega, by go_num, below_drew hB⟩
        case measure => simp [intOf]; omega
    · obtain rfl : k = n := by omega
      go_wp2
      go_ret
      exact ⟨rfl, hB⟩
set_option maxHeartbeats 8000000 in
set_option maxRecDepth 100000 in
theorem sameedit_any (l x s : Int) (A : Option Addr) (c : Nat) (A' : Option Addr) (c' n : Nat) (ts : List TabR) (B : Option Addr) (d : Nat) (B' : Option Addr) (d' m : Nat) (zs : List Int) (w : World) (h : RTabs w A n ts) (h' : RTabs w A' n ts) (k : RN .i64 w B m zs) (k' : RN .i64 w B' m zs) :
    Calls Try.prog 16 #[.agg #[.int .i64 l, .int .i64 x, .int .i64 s, .slice A n c, .slice B m d], .agg #[.int .i64 l, .int .i64 x, .int .i64 s, .slice A' n c', .slice B' m d']] w fun e w' => e = .returned (.bool true) ∧ Below w.heap.size w w' := by
  have hb := fun (x y : Obj) => below_alloc' (below_alloc' (Below.refl w.heap.size w) x) y
  have H := hid (fun x y => h.below (hb x y))
  have H' := hid (fun x y => h'.below (hb x y))
  have K := hid (fun x y => k.below (hb x y))
  have K' := hid (fun x y => k'.below (hb x y))
  have g1 := blk_below (below_alloc' (Below.refl _ _) (.cells #[.int .i64 l, .int .i64 x, .int .i64 s, .slice A' n c', .slice B' m d'] 30)) (heap_alloc_new w (.cells #[.int .i64 l, .int .i64 x, .int .i64 s, .slice A n c, .slice B m d] 30))
  have g2 := heap_alloc_new (w.alloc (.cells #[.int .i64 l, .int .i64 x, .int .i64 s, .slice A n c, .slice B m d] 30)) (.cells #[.int .i64 l, .int .i64 x, .int .i64 s, .slice A' n c', .slice B' m d'] 30)
  have e0 : (w.alloc (.cells #[.int .i64 l, .int .i64 x, .int .i64 s, .slice A n c, .slice B m d] 30)).heap.size = w.heap.size + 1 := by simp
  rw [e0] at g2
  clear h h' k k' e0
  go_enter Try.func16, Try.ntmps16
  go_wp2_with (first
    | (go_at_call 26; (with_reducible refine (sametables_any A c A' c' n ts _ (H.out _ _) (H'.out _ _)).mono ?_); rintro e w1 ⟨rfl, hb1⟩; have q1 := box_at (blk_below hb1 g1) 4 (.slice B m d) rfl; have q2 := box_at (blk_below hb1 g2) 4 (.slice B' m d') rfl; have k1 := (K.out _ _).below hb1; have k2 := (K'.out _ _).below hb1)
    | (go_at_call 27; (with_reducible refine (samenumbers_any B d B' d' m zs _ k1 k2).mono ?_); rintro e w2 ⟨rfl, hb2⟩))
  go_ret
  exact ⟨rfl, below_then (below_then (hb _ _) hb1) hb2⟩
end Go.Proofs.Ythiolcccgiibhaa
