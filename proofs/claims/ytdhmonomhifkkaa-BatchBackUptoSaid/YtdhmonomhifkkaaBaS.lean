/- Layer 8: each change has its number: the walk. -/
import Derived.Test.YtdhmonomhifkkaaBaQ
import Derived.Test.YtdhmonomhifkkaaBaR
namespace Go.Proofs.Ytdhmonomhifkkaa
open Go.RowKit
set_option linter.unusedVariables false
set_option linter.unusedSimpArgs false

theorem entL_get (s : Int) (ops : List OpR) : ∀ n k, k < n → elt noEn (entL s ops n) k = mkEn (s + k) (elt noOp ops k) := by
  intro n
  induction n with
  | zero => intro k hk; omega
  | succ n ih =>
    intro k hk
    rw [entL]
    by_cases h : k < n
    · rw [elt_left' _ _ _ (by rw [entL_len]; exact h)]
      exact ih k h
    · obtain rfl : k = n := by omega
      rw [elt_right' _ _ _ (by rw [entL_len]; exact Nat.le_refl _), entL_len, Nat.sub_self]
      rfl
theorem entries_bad (s : Int) (A : Option Addr) (n c : Nat) (ops : List OpR) (w : World) (h : ROps w A n ops) (hs : -9223372036854775808 ≤ s ∧ s ≤ 9223372036854775807) (hz : mayE s ops ≠ 0) :
    Calls Try.prog 13 #[.agg #[.int .i64 s, .slice A n c]] w fun e w' => e = .returned (.tuple #[.slice none 0 0, .int .i64 (mayE s ops)]) ∧ Below w.heap.size w w' := by
  obtain ⟨E, hE⟩ : ∃ E, E = mayE s ops := ⟨_, rfl⟩
  rw [← hE] at hz ⊢
  have hzb : (E != 0) = true := by simpa using hz
  have HE := hid hE
  clear hE hz
  go_enter Try.func13, Try.ntmps13
  go_wp2_with (go_at_call 9; (with_reducible refine (may_any s A n c ops _ (h.below (below_alloc' (Below.refl _ _) _)) hs).mono ?_); rintro e w1 ⟨rfl, hbx⟩; rw [← HE.out])
  go_ret2
  exact ⟨rfl, below_then (below_alloc' (Below.refl _ _) _) hbx⟩
set_option maxHeartbeats 16000000 in
set_option maxRecDepth 100000 in
theorem BatchNumbers_walk (s : Int) (A : Option Addr) (n c : Nat) (ops : List OpR) (w : World) (h : ROps w A n ops) (hs : -9223372036854775808 ≤ s ∧ s ≤ 9223372036854775807) :
    Calls Try.prog 5 #[.agg #[.int .i64 s, .slice A n c]] w fun e w' => e = .returned (.bool true) ∧ Below w.heap.size w w' := by
  obtain ⟨E, hE⟩ : ∃ E, E = mayE s ops := ⟨_, rfl⟩
  have hh := h.below (below_alloc' (Below.refl _ _) (.cells #[.int .i64 s, .slice A n c] 24))
  have hlen := h.1
  by_cases hz : E = 0
  · subst hz
    have hz2 := hE.symm
    obtain ⟨m1, m2, m3, m4, _⟩ := mayE_zero hz2
    rw [hlen] at m1 m2 m4
    have HH := hid hh
    have HZ := hid hz2
    clear hh h hE hz2 hlen
    go_enter Try.func5, Try.ntmps5
    go_wp2_with (fail)
    go_at_call 13
    (with_reducible refine (entries_any s A n c ops _ HH.out hs HZ.out).mono ?_)
    rintro e w1 ⟨v, V, rfl, hown, hrel, hbx⟩
    have hVl : V.length = n := by rw [hrel.1, entL_len]
    obtain ⟨g, d, e1, hg1, hg2, hg3⟩ := hown.form (by omega)
    rw [hVl] at e1
    subst e1
    have hbk := blk_grown' (below_grown hbx none) (heap_alloc_new w _) (by simp)
    have hx1 := box_at hbk 1 (.slice A n c) rfl
    have hO := HH.out.below hbx
    have hb1 := below_then (below_alloc' (Below.refl _ _) _) hbx
    go_wp2
    have HVL := hid hVl
    have HR := hid hrel
    clear hVl hrel
    go_loopw [35] (fun i wr => ∃ k : Nat, k ≤ n ∧ i = .int .i64 k ∧ Below w1.heap.size w1 wr) (fun i wr => n - (intOf i).toNat)
    case atStart => exact ⟨0, Nat.zero_le _, rfl, Below.refl _ _⟩
    case round =>
      obtain ⟨k, hk, rfl, hB⟩ := hrel
      by_cases hlt : k < n
      · obtain ⟨ad, rfl, hcells⟩ := hO.at_ hlt
        obtain ⟨Ak, nk, ck, Av, nv, cv, hc0, hc1, hc2, hc3, hrk, hck, hrv, hcv, hwf⟩ := hcells.below hB
        obtain ⟨kv, vv, hx, hkv, hvv⟩ := HR.out.2 k (by rw [HVL.out]; exact hlt)
        have hcell := fun i (hi : i < 5) => (OV.cell (V := V) (by rw [HVL.out]; exact hown) (by rw [HVL.out]; exact hlt : k < V.length) hi)
        rw [hx] at hcell
        have eg := entL_get s ops n k hlt
        have hwt := wf_i64 hwf
        rw [eg] at hkv hvv hcell
        have hws : IntKind.i64.wrap (s + (k : Int)) = s + (k : Int) := by rw [IntKind.wrap_i64]; omega
        have hws2 : wrap64 (s + (k : Int)) = s + (k : Int) := by unfold wrap64; omega
        have hns : ¬ 4611686018427387904 < s + (k : Int) := by omega
        clear hcells hx eg
        generalize elt noOp ops k = o at *
        have hd0 : w1.cell? ⟨g, k * 5, none⟩ = some kv := hcell 0 (by omega)
        have hd1 : w1.cell? ⟨g, k * 5 + 1, none⟩ = some (.int .i64 (s + (k : Int))) := hcell 1 (by omega)
        have hd2 : w1.cell? ⟨g, k * 5 + 2, none⟩ = some (.bool (opGone o)) := hcell 2 (by omega)
        have hd3 : w1.cell? ⟨g, k * 5 + 3, none⟩ = some (.int .i64 (opTil o)) := hcell 3 (by omega)
        have hd4 : w1.cell? ⟨g, k * 5 + 4, none⟩ = some vv := hcell 4 (by omega)
        have hkv : OB w1 _ kv (opKey o) := hkv
        have hvv : OB w1 _ vv (opVal o) := hvv
        have hcK : ∀ ob ob' : Obj, (convert 26 9 kv).run Try.prog ((wr.alloc ob).alloc ob') = .ok (.string (bstr (opKey o))) ((wr.alloc ob).alloc ob') := fun ob ob' => OB.conv (((hkv.below hB).alloc ob).alloc ob')
        have hcV : ∀ ob ob' : Obj, (convert 26 9 vv).run Try.prog ((wr.alloc ob).alloc ob') = .ok (.string (bstr (opVal o))) ((wr.alloc ob).alloc ob') := fun ob ob' => OB.conv (((hvv.below hB).alloc ob).alloc ob')
        obtain ⟨Bk, dk, rfl, _, _⟩ := hkv.open_
        obtain ⟨Bv, dv, rfl, _, _⟩ := hvv.open_
        have hcK2 : ∀ ob ob' : Obj, (convert 26 9 (.slice Ak nk ck)).run Try.prog ((wr.alloc ob).alloc ob') = .ok (.string (bstr (opKey o))) ((wr.alloc ob).alloc ob') := fun ob ob' => RB.conv ((hrk.alloc ob).alloc ob') ck
        have hcV2 : ∀ ob ob' : Obj, (convert 26 9 (.slice Av nv cv)).run Try.prog ((wr.alloc ob).alloc ob') = .ok (.string (bstr (opVal o))) ((wr.alloc ob).alloc ob') := fun ob ob' => RB.conv ((hrv.alloc ob).alloc ob') cv
        have hd0 := below_cell hB hd0
        have hd1 := below_cell hB hd1
        have hd2 := below_cell hB hd2
        have hd3 := below_cell hB hd3
        have hd4 := below_cell hB hd4
        have al := fun (ob : Obj) => below_alloc' (Below.refl wr.heap.size wr) ob
        have hq0 := fun ob => below_cell (al ob) hc0
        have hq1 := fun ob => below_cell (al ob) hc1
        have hq2 := fun ob => below_cell (al ob) hc2
        have hq3 := fun ob => below_cell (al ob) hc3
        have hbw := blk_below hB hbk
        have hq4 := fun ob => box_at (blk_below (al ob) hbw) 1 (.slice (some ad) n c) rfl
        have hq5 := fun ob ob' => box_at (blk_below (below_alloc' (al ob) ob') hbw) 0 (.int .i64 s) rfl
        clear hcell hkv hvv hwf hrk hrv hc0 hc1 hc2 hc3 al hx1 hbw
        go_wp2
        go_roundw
        case rel => exact ⟨k + 1, by omega, by go_num, below_alloc' (below_alloc' hB _) _⟩
        case measure => simp [intOf]; omega
      · obtain rfl : k = n := by omega
        go_wp2_with (go_at_call 11; (with_reducible refine (awake_any _).mono ?_); rintro e w2 ⟨rfl, hb2⟩)
        go_ret
        exact ⟨rfl, below_then (below_then hb1 hB) hb2⟩
  · have hzb : (E != 0) = true := by simpa using hz
    have HH := hid hh
    have HZ : Hid (mayE s ops ≠ 0) := by rw [← hE]; exact hz
    have HE := hid hE
    clear hh h hE hz hlen
    go_enter Try.func5, Try.ntmps5
    go_wp2_with (first
      | (go_at_call 13; (with_reducible refine (entries_bad s A n c ops _ HH.out hs HZ.out).mono ?_); rintro e w1 ⟨rfl, hbx⟩; rw [← HE.out]; have hbk := blk_grown' (below_grown hbx none) (heap_alloc_new w _) (by simp); have hx0 := box_at hbk 0 (.int .i64 s) rfl; have hx1 := box_at hbk 1 (.slice A n c) rfl; have hO := HH.out.below hbx; have hb1 := below_then (below_alloc' (Below.refl _ _) _) hbx)
      | (go_at_call 9; (with_reducible refine (may_any s A n c ops _ hO hs).mono ?_); rintro e w2 ⟨rfl, hb2⟩; rw [← HE.out])
      | (go_at_call 11; (with_reducible refine (awake_any _).mono ?_); rintro e w3 ⟨rfl, hb3⟩))
    go_ret
    exact ⟨rfl, below_then (below_then hb1 hb2) hb3⟩
end Go.Proofs.Ytdhmonomhifkkaa
