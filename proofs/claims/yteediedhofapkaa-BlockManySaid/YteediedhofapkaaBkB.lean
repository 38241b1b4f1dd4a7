/- Layer 11's laws: BlockBack. -/
import Derived.Test.YteediedhofapkaaBkDe
import Derived.Test.YteediedhofapkaaBkA
import Derived.Test.YteediedhofapkaaBkL
import Derived.Test.YteediedhofapkaaMmI
import Derived.Test.YteediedhofapkaaER
import Derived.StillTailTactics
import Derived.Deep.Cut
namespace Go.Proofs.Yteediedhofapkaa
open Go.RowKit
set_option linter.unusedVariables false
set_option linter.unusedSimpArgs false

theorem back_mod (z : Int) (m : Nat) (hm : 1 ≤ m ∧ m ≤ 4000000) (hz : -9223372036854775808 ≤ z ∧ z ≤ 9223372036854775807) : ∃ p : Nat, p < m ∧ (wrap64 (z.tmod m + m)).tmod m = (p : Int) := by
  have h1 := Int.tmod_lt_of_pos z (show (0 : Int) < m by omega)
  have h2 := Int.lt_tmod_of_pos z (show (0 : Int) < m by omega)
  generalize z.tmod m = t at *
  have e1 : wrap64 (t + m) = t + m := by unfold wrap64; omega
  have h3 : (t + m).tmod m = (t + m) % m := Int.tmod_eq_emod_of_nonneg (by omega)
  have h4 := Int.emod_nonneg (t + m) (show (m : Int) ≠ 0 by omega)
  have h5 := Int.emod_lt_of_pos (t + m) (show (0 : Int) < m by omega)
  rw [e1, h3]
  exact ⟨((t + m) % m).toNat, by omega, by omega⟩
theorem enc_size {es : List EntR} (h : FitK es) (h60 : es.length ≤ 60) : 8 ≤ (encK es).length ∧ (encK es).length ≤ 1000000 := by
  have hl := accK_len h.2.2.1 es.length (Nat.le_refl _)
  have hs := stK_len es es.length
  have h1 := h.1
  unfold encK
  rw [List.length_append, fix4_len, fixK_len, hs]
  have h2 : es.length * 2700 ≤ 162000 := Nat.mul_le_mul_right 2700 h60
  omega
/-- Decode of what Encode leaves. -/
theorem decode_enc (A : Option Addr) (n c : Nat) (es : List EntR) (w : World) (h : RB w A n (encK es)) (hc : n ≤ c) (hsz : n ≤ 100000000000) (hf : FitK es) :
    Calls Try.prog 8 #[.slice A n c] w fun r w' => ∃ A2 c2, r = .returned (.tuple #[.slice A2 es.length c2, .int .i64 0]) ∧ REnts w' A2 es.length es ∧ es.length ≤ c2 ∧ Below w.heap.size w w' := by
  refine (decode_any A n c (encK es) w h hc hsz).mono ?_
  intro r w' hd
  unfold DecC at hd
  rw [decF_enc hf] at hd
  obtain ⟨v, rfl, hr, hb⟩ := hd
  obtain ⟨A2, c2, rfl, hc2, hr2⟩ := hr.len (by have := hf.2.1; omega)
  exact ⟨A2, c2, rfl, hr2, hc2, hb⟩
/-- Decode of any bytes: what it tells is what was encoded to them. -/
def DecB (w w' : World) (xs : List UInt8) (r : Ending) : Prop := (∃ v, ∃ e : Int, e ≠ 0 ∧ r = .returned (.tuple #[v, .int .i64 e]) ∧ Below w.heap.size w w') ∨ (∃ A c es, r = .returned (.tuple #[.slice A es.length c, .int .i64 0]) ∧ REnts w' A es.length es ∧ FitK es ∧ encK es = xs ∧ Below w.heap.size w w')
theorem decode_back (A : Option Addr) (n c : Nat) (xs : List UInt8) (w : World) (h : RB w A n xs) (hc : n ≤ c) (hsz : n ≤ 100000000000) :
    Calls Try.prog 8 #[.slice A n c] w fun r w' => DecB w w' xs r := by
  refine (decode_any A n c xs w h hc hsz).mono ?_
  intro r w' hd
  unfold DecC at hd
  cases hx : decF xs with
  | none =>
    rw [hx] at hd
    obtain ⟨⟨e, he, rfl⟩, hb⟩ := hd
    exact .inl ⟨_, e, he, rfl, hb⟩
  | some es =>
    rw [hx] at hd
    obtain ⟨v, rfl, hr, hb⟩ := hd
    obtain ⟨hf, he⟩ := decF_some hx
    obtain ⟨A2, c2, rfl, hc2, hr2⟩ := hr.len (by have := hf.2.1; omega)
    exact .inr ⟨A2, c2, es, rfl, hr2, hf, he, hb⟩
set_option maxHeartbeats 32000000 in
set_option maxRecDepth 100000 in
theorem BlockBack_walk (A : Option Addr) (n c : Nat) (es : List EntR) (z : Int) (w : World) (h : REnts w A n es) (hc : n ≤ c) (hz0 : (Lit.int .i64 z).wf = true) :
    Calls Try.prog 4 #[.slice A n c, .int .i64 z] w fun e w' => e = .returned (.bool true) ∧ Below w.heap.size w w' := by
  have hz := wf_i64 hz0
  have H := hid h
  clear h hz0
  go_enter Try.func4, Try.ntmps4
  go_upto_region 2 with (go_at_call 11; (with_reducible refine (sorted_any A n c es _ H.out).mono ?_); rintro r w1 ⟨A1, c1, L, rfl, hc1, hr1, hs1, hm1, hl1, hb1⟩; have HR1 := hid hr1; have HS1 := hid (⟨hs1, hm1⟩ : _ ∧ _); clear hr1 hs1 hm1)
  by_cases h0 : L.length = 0
  · have hz1 : ((L.length : Int) == 0) = true := by rw [beq_iff_eq]; omega
    have HH0 := hid h0
    clear h0 hl1
    go_wp2_with (first
      | (go_at_call 6; (with_reducible refine (encode_none A1 L.length c1 L _ HR1.out (.inl HH0.out)).mono ?_); rintro r w2 ⟨rfl, hb2⟩)
      | (go_at_call 10; (with_reducible refine (awake_any _).mono ?_); rintro r w9 ⟨rfl, hb9⟩))
    go_ret
    exact ⟨rfl, below_then hb1 (below_then hb2 hb9)⟩
  · have HF : Hid (FitK L) := hid ⟨by omega, by omega, HS1.out.2, HS1.out.1⟩
    obtain ⟨hsz1, hsz2⟩ := enc_size HF.out hl1
    obtain ⟨K, hK⟩ : ∃ K, (encK L).length = K := ⟨_, rfl⟩
    rw [hK] at hsz1 hsz2
    obtain ⟨p, hp, hpe⟩ := back_mod z K (by omega) hz
    have HKl := hid hK
    have HTp : Hid (((encK L).take p).length = p) := hid (by rw [List.length_take, hK]; omega)
    have hd8 : decide ((K : Int) < 8) = false := decide_eq_false (by omega)
    have hkz : ¬ (K : Int) = 0 := by omega
    clear hK hz
    go_wp2_with (first
      | (go_at_call 6; (with_reducible refine (encode_fit A1 L.length c1 L _ HR1.out HF.out).mono ?_); rintro r w2 ⟨v2, rfl, ho2, hb2⟩; obtain ⟨A2, c2, rfl, hr2, hc2⟩ := ho2.openN K HKl.out; have HO2 := hid ho2; have HR2 := hid hr2; have hcv := hr2.conv c2; clear ho2 hr2; have hB2 := below_then hb1 hb2; obtain ⟨c5, hcut, hrb5, hc5⟩ := cutB_hi (A := A2) hc2 (hi := p) (by omega) (p : Int) rfl; have HRB5 := hid hrb5; clear hrb5)
      | (go_at_call 8; (with_reducible refine (decode_enc A2 K c2 L _ HR2.out hc2 (by omega) HF.out).mono ?_); rintro r w3 ⟨A3, c3, rfl, hr3, hc3, hb3⟩; have HR3 := hid hr3; clear hr3; have hB3 := below_then hB2 hb3)
      | (go_at_call 9; (with_reducible refine (sameentries_any A3 c3 A1 c1 _ L _ HR3.out (HR1.out.below (below_then hb2 hb3))).mono ?_); rintro r w4 ⟨rfl, hb4⟩; have hB4 := below_then hB3 hb4; have HRp := hid (HRB5.out _ _ (HR2.out.below (below_then hb3 hb4)))))
    go_upto_region 10 with (go_at_call 8; (with_reducible refine (decode_back A2 p c5 _ _ HRp.out hc5 (by omega)).mono ?_); rintro r w5 hd5; have HD5 := hid hd5; rcases HD5.out with ⟨v5, e5, he5, rfl, hb5⟩ | ⟨A5, c6, es5, rfl, hr5, hf5, hx5, hb5⟩)
    · have hzb : (e5 == 0) = false := by rw [beq_eq_false_iff_ne]; exact he5
      go_wp2_with (go_at_call 10; (with_reducible refine (awake_any _).mono ?_); rintro r w9 ⟨rfl, hb9⟩)
      go_ret
      exact ⟨rfl, below_then hB4 (below_then hb5 hb9)⟩
    · have HR5 := hid hr5
      have HF5 := hid hf5
      have HX5 := hid hx5
      clear hr5 hf5 hx5
      go_upto_region 12 with (go_at_call 6; (with_reducible refine (encode_fit A5 es5.length c6 es5 _ HR5.out HF5.out).mono ?_); rintro r w6 ⟨v6, rfl, ho6, hb6⟩; rw [HX5.out] at ho6; obtain ⟨A6, c7, rfl, hr6, hc7⟩ := ho6.openN p HTp.out; have HR6 := hid hr6; have HB6 := hid hb6; clear ho6 hr6 hb6)
      have hcv1 := HR6.out.drew.conv c7
      have hcv2 := (HRp.out.below (below_then hb5 HB6.out)).drew.conv c5
      have hcv3 := hcv1
      have hcv4 := hcv2
      simp only [World.drew] at hcv3 hcv4
      have hB6 := below_then hB4 (below_then hb5 HB6.out)
      go_still_tail 12, (by kernel_rfl)
      change wpList _ _ _ _ _ w6.drew
      have hBd : Below w.heap.size w w6.drew := below_drew hB6
      generalize w6.drew = wz at *
      go_wp2_with (go_at_call 10; (with_reducible refine (awake_any _).mono ?_); rintro r w9 ⟨rfl, hb9⟩)
      go_ret
      exact ⟨rfl, below_then hBd hb9⟩
end Go.Proofs.Yteediedhofapkaa
