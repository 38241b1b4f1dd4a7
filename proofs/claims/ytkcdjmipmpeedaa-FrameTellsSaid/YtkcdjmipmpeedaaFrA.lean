/- Layer 6: the record that every program must know; two rows of records alike; the first statements' walks. -/
import Derived.Test.YtkcdjmipmpeedaaFrV
import Derived.Test.YtkcdjmipmpeedaaO
import Derived.Test.YtkcdjmipmpeedaaRF
namespace Go.Proofs.Ytkcdjmipmpeedaa
open Go.RowKit
set_option linter.unusedVariables false
set_option linter.unusedSimpArgs false

theorem known_scan : scanB (fputB [] [97]) = ([[97]], 6) := by decide +kernel
theorem known_len : (fputB [] [97]).length = 6 := by decide +kernel
/-- A row of rows of one's own, opened. -/
theorem own_rows {w : World} {base base' : Nat} {v : Value} {V : List Value} {recs : List (List UInt8)} (h : OS w base v V) (hb : OBs w base' V recs) (n : Nat) (hn : recs.length = n) (hm : n ≤ 9223372036854775807) : ∃ A c, v = .slice A n c ∧ RBs w A n recs ∧ n ≤ c := by
  obtain ⟨A, c, e, h1, h2⟩ := h.readsN n (by rw [hb.1, hn])
  exact ⟨A, c, e, RBs_of_reads h2 hb.rbw hm, h1⟩
set_option maxHeartbeats 4000000 in
theorem awake_any (w : World) : Calls Try.prog 10 #[] w fun e w' => e = .returned (.bool true) ∧ Below w.heap.size w w' := by
  have hr := RB.lit w [97] #[.int .u8 97] 5 (1, 2) rfl (by decide)
  have HR := hid hr
  have HK := hid known_scan
  clear hr
  have kc := fun (w : World) (C : Array Value) (n c : Nat) => Lib.run_convert_bytes_const (P := Try.prog) w 22 5 C n c Try.underlying22 Try.underlying5
  have hstr : bstr [97] = ({ data := #[97] } : ByteArray) := rfl
  go_enter Try.func10, Try.ntmps10
  go_wp2_with (first
    | (go_at_call 8; (with_reducible refine (fput_any none 0 0 [] _ 1 1 [97] _ (RB.nil _) (HR.out) (by omega)).mono ?_); rintro e w1 ⟨v1, rfl, hown1, hb1⟩; obtain ⟨A1, c1, rfl, hr1, hc1⟩ := hown1.openN 6 known_len; have hB1 := (below_then (below_alloc' (Below.refl _ _) _) hb1))
    | (go_at_call 13; (with_reducible refine (fscan_any A1 6 c1 _ _ hr1 hc1 (by omega)).mono ?_); rintro e w2 ⟨v2, V, rfl, hos, hobs, hb2⟩; rw [HK.out] at hobs ⊢; obtain ⟨A2, c2, rfl, hrs, hc2⟩ := own_rows hos hobs 1 rfl (by omega); obtain ⟨ad, rfl, Aj, nj, cj, hcell, hrb, hle⟩ := hrs.at_ (k := 0) (by omega); rw [show ad.add 0 = ad from by unfold Addr.add; simp] at hcell; have hcv := RB.conv hrb cj; rw [show elt [] [[97]] 0 = ([97] : List UInt8) from rfl, hstr] at hcv))
  go_ret
  exact ⟨rfl, below_then hB1 hb2⟩
end Go.Proofs.Ytkcdjmipmpeedaa
