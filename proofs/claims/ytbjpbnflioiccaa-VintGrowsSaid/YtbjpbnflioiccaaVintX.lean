/- Layer 2: greater numbers have no fewer bytes: the walk of the statement. -/
import Derived.Test.YtbjpbnflioiccaaVintJ
namespace Go.Proofs.Ytbjpbnflioiccaa
open Go.RowKit
set_option linter.unusedVariables false
set_option linter.unusedSimpArgs false

theorem u64_in (a : Nat) (h : a < 18446744073709551616) : IntKind.u64.wrap (a : Int) = a := by rw [IntKind.wrap_u64]; omega
theorem u64_and_nat (a b : Nat) (ha : a < 18446744073709551616) (hb : b < 18446744073709551616) : bits .and .u64 (a : Int) (b : Int) = ((a &&& b : Nat) : Int) := by
  have hx : a &&& b < 2 ^ 64 := Nat.and_lt_two_pow _ (by omega)
  show IntKind.u64.wrap ((BitVec.ofInt 64 (a : Int) &&& BitVec.ofInt 64 (b : Int)).toNat : Int) = _
  rw [BitVec.toNat_and, ofInt_u64 a (by omega), ofInt_u64 b (by omega)]
  exact u64_in _ (by omega)
theorem u64_or_nat (a b : Nat) (ha : a < 18446744073709551616) (hb : b < 18446744073709551616) : bits .or .u64 (a : Int) (b : Int) = ((a ||| b : Nat) : Int) := by
  have hx : a ||| b < 2 ^ 64 := Nat.or_lt_two_pow (by omega) (by omega)
  show IntKind.u64.wrap ((BitVec.ofInt 64 (a : Int) ||| BitVec.ofInt 64 (b : Int)).toNat : Int) = _
  rw [BitVec.toNat_or, ofInt_u64 a (by omega), ofInt_u64 b (by omega)]
  exact u64_in _ (by omega)
theorem cut64 {a s : Nat} (hs : s ≤ 8) : a * 2 ^ (64 - 8 * s) % 18446744073709551616 / 2 ^ (64 - 8 * s) = a % 256 ^ s := by
  have e : (18446744073709551616 : Nat) = 256 ^ s * 2 ^ (64 - 8 * s) := by
    rw [show (256 : Nat) = 2 ^ 8 from rfl, ← Nat.pow_mul, ← Nat.pow_add, show 8 * s + (64 - 8 * s) = 64 from by omega]
  rw [e, Nat.mul_mod_mul_right, Nat.mul_div_cancel _ (Nat.two_pow_pos _)]
theorem cut64_int {a s : Nat} (hs : s ≤ 8) : IntKind.u64.wrap ((a : Int) * 2 ^ (64 - 8 * s)) / 2 ^ (64 - 8 * s) = (a : Int) % 256 ^ s := by
  have e := congrArg (fun x : Nat => (x : Int)) (cut64 (a := a) hs)
  simp only [Int.natCast_ediv, Int.natCast_emod, Int.natCast_mul, Int.natCast_pow] at e
  rw [IntKind.wrap_u64]
  exact e
theorem fixB_in {g : Nat} {s : Nat} (h1 : 1 ≤ s) (h8 : s ≤ 8) : fixB g (s : Int) = fixedU g s := by
  unfold fixB
  rw [if_neg (by omega)]
  rfl
theorem readB_fix {g : Nat} {s : Nat} (h1 : 1 ≤ s) (h8 : s ≤ 8) : readB (fixedU g s) (s : Int) = (g % 256 ^ s, 0) := by
  unfold readB
  rw [if_neg (by omega), if_neg (by rw [fixedU_len]; omega), List.take_of_length_le (by rw [fixedU_len]; omega), fixed_read]

set_option maxHeartbeats 8000000 in
set_option maxRecDepth 100000 in
theorem grows_walk (a b lo hi : Nat) (z : Int) (A : Option Addr) (n c : Nat) (xs : List UInt8) (w : World) (hhi : hi < 18446744073709551616) (hab : (lo = a ∧ hi = b ∧ lo ≤ hi) ∨ (lo = b ∧ hi = a ∧ lo < hi)) (hz : -9223372036854775808 ≤ z ∧ z ≤ 9223372036854775807) (h : RB w A n xs) (hc : n ≤ c) (hsz : n ≤ 140737488351232) :
    Calls Try.prog 10 #[.int .u64 (a : Int), .int .u64 (b : Int), .int .i64 z, .slice A n c] w fun e w' => e = .returned (.bool true) ∧ Below w.heap.size w w' := by
  have hl := h.1
  have HL := hid hl
  clear hl
  have hlo : lo < 18446744073709551616 := by omega
  have hle : lo ≤ hi := by omega
  obtain ⟨x, hx, hx1, ha⟩ : ∃ x : Nat, x < 128 ∧ (uvar x).length = 1 ∧ bits .and .u64 (lo : Int) 127 = (x : Int) := by
    refine ⟨lo % 128, Nat.mod_lt _ (by omega), uvar_one (Nat.mod_lt _ (by omega)), ?_⟩
    have := u64_and_nat lo 127 hlo (by omega)
    rw [show (127 : Nat) = 2 ^ 7 - 1 from rfl, Nat.and_two_pow_sub_one_eq_mod] at this
    exact this
  obtain ⟨y, hy, hy2, ho⟩ : ∃ y : Nat, y < 18446744073709551616 ∧ 2 ≤ (uvar y).length ∧ bits .or .u64 (lo : Int) 128 = (y : Int) := by
    refine ⟨lo ||| 128, Nat.or_lt_two_pow (n := 64) (by omega) (by omega), uvar_two ?_, u64_or_nat lo 128 hlo (by omega)⟩
    have := Nat.right_le_or (n := lo) (m := 128)
    omega
  obtain ⟨l1, h1⟩ : ∃ l, (uvar lo).length = l := ⟨_, rfl⟩
  obtain ⟨l2, h2⟩ : ∃ l, (uvar hi).length = l := ⟨_, rfl⟩
  obtain ⟨l3, h3⟩ : ∃ l, (uvar y).length = l := ⟨_, rfl⟩
  have hmono := uvar_mono hle
  rw [h1, h2] at hmono
  rw [h3] at hy2
  have H1 := hid h1
  have H2 := hid h2
  have H3 := hid h3
  have HX1 := hid hx1
  clear h1 h2 h3 hx1
  obtain ⟨q, hq0⟩ : ∃ l, (uvar n).length = l := ⟨_, rfl⟩
  have hq10 := uvar_len n
  rw [hq0] at hq10
  have HTB : Hid (takeB ([] ++ uvar xs.length ++ xs) (n : Int) = (xs, q + n, 0)) := by
    have := takeB_put xs [] (n : Int) (by rw [HL.out]; omega) (by rw [HL.out]; exact Int.le_refl _)
    rw [List.append_nil, HL.out, hq0] at this
    rw [List.nil_append, HL.out]
    exact this
  have HQ := hid hq0
  clear hq0
  have hwn : IntKind.u64.wrap (n : Int) = n := u64_in n (by omega)
  have hu : IntKind.u64.wrap (64 - 8 * z) = (64 - 8 * z) % 18446744073709551616 := IntKind.wrap_u64 _
  by_cases hs : 1 ≤ z ∧ z ≤ 8
  · obtain ⟨s, rfl⟩ : ∃ s : Nat, z = s := ⟨z.toNat, by omega⟩
    have hs1 : 1 ≤ s := by omega
    have hs8 : s ≤ 8 := by omega
    have HF := hid (fixB_in (g := lo) hs1 hs8)
    have HR := hid (readB_fix (g := lo) hs1 hs8)
    have hexp : (64 - 8 * s) % 18446744073709551616 = 64 - 8 * s := by omega
    have hcut := cut64_int (a := lo) hs8
    rw [← hexp] at hcut
    have HCUT := hid hcut
    clear hexp hcut
    rcases hab with ⟨e1, e2, hq⟩ | ⟨e1, e2, hq⟩
    all_goals
      subst e1 e2
      go_enter Try.func10, Try.ntmps10
      go_wp2_with (first
        | (go_at_call 15; (with_reducible refine (len_any lo _ hlo).mono ?_); rintro e w5 ⟨rfl, rfl⟩; rw [H1.out])
        | (go_at_call 15; (with_reducible refine (len_any hi _ hhi).mono ?_); rintro e w5 ⟨rfl, rfl⟩; rw [H2.out])
        | (go_at_call 15; (with_reducible refine (len_any x _ (by omega)).mono ?_); rintro e w5 ⟨rfl, rfl⟩; rw [HX1.out])
        | (go_at_call 15; (with_reducible refine (len_any y _ hy).mono ?_); rintro e w5 ⟨rfl, rfl⟩; rw [H3.out])
        | (go_at_call 15; (with_reducible refine (len_any n _ (by omega)).mono ?_); rintro e w5 ⟨rfl, rfl⟩; rw [HQ.out])
        | (go_at_call 24; (with_reducible refine (putbytes_any none 0 0 [] A n c xs _ ((OB.nil _ 0).rb.1) h (by omega)).mono ?_); rintro e w1 ⟨v1, rfl, hown1, hb1⟩; obtain ⟨A1, c1, rfl, hr1, hc1⟩ := hown1.openN (q + n) (by rw [List.nil_append, List.length_append, HL.out, HQ.out]))
        | (go_at_call 22; (with_reducible refine (takebytes_any A1 (q + n) c1 _ (n : Int) _ hr1 hc1 (by omega) (by omega)).mono ?_); rintro e w2 ⟨v2, rfl, hown2, hb2⟩; rw [HTB.out] at hown2 ⊢; have hcv2 := OB.conv hown2; have hB2 := below_then hb1 hb2; have hcvx := RB.conv (h.below hB2) c; clear hb1 hb2 hr1 hown1)
        | (go_at_call 20; (with_reducible refine (fixed_any none 0 0 [] lo (s : Int) _ ((OB.nil _ 0).rb.1) hlo (by omega) (by omega)).mono ?_); rintro e w3 ⟨v3, rfl, hown3, hb3⟩; rw [List.nil_append, HF.out] at hown3; obtain ⟨A3, c3, rfl, hr3, hc3⟩ := hown3.openN s (fixedU_len _ _))
        | (go_at_call 18; (with_reducible refine (read_any A3 s c3 _ (s : Int) _ hr3 hc3 (by omega)).mono ?_); rintro e w4 ⟨rfl, rfl⟩; rw [HR.out])
        | (go_at_call 17; (with_reducible refine (awake_any _).mono ?_); rintro e w7 ⟨rfl, hb7⟩))
      all_goals first
        | (go_ret; exact ⟨rfl, below_then (below_then hB2 hb3) hb7⟩)
        | (exfalso; rename_i hne; exact hne HCUT.out.symm)
  · have HF := hid (show fixB lo z = [] by unfold fixB; rw [if_pos (by omega)])
    rcases hab with ⟨e1, e2, hq⟩ | ⟨e1, e2, hq⟩
    all_goals
      subst e1 e2
      go_enter Try.func10, Try.ntmps10
      go_wp2_with (first
        | (go_at_call 15; (with_reducible refine (len_any lo _ hlo).mono ?_); rintro e w5 ⟨rfl, rfl⟩; rw [H1.out])
        | (go_at_call 15; (with_reducible refine (len_any hi _ hhi).mono ?_); rintro e w5 ⟨rfl, rfl⟩; rw [H2.out])
        | (go_at_call 15; (with_reducible refine (len_any x _ (by omega)).mono ?_); rintro e w5 ⟨rfl, rfl⟩; rw [HX1.out])
        | (go_at_call 15; (with_reducible refine (len_any y _ hy).mono ?_); rintro e w5 ⟨rfl, rfl⟩; rw [H3.out])
        | (go_at_call 15; (with_reducible refine (len_any n _ (by omega)).mono ?_); rintro e w5 ⟨rfl, rfl⟩; rw [HQ.out])
        | (go_at_call 24; (with_reducible refine (putbytes_any none 0 0 [] A n c xs _ ((OB.nil _ 0).rb.1) h (by omega)).mono ?_); rintro e w1 ⟨v1, rfl, hown1, hb1⟩; obtain ⟨A1, c1, rfl, hr1, hc1⟩ := hown1.openN (q + n) (by rw [List.nil_append, List.length_append, HL.out, HQ.out]))
        | (go_at_call 22; (with_reducible refine (takebytes_any A1 (q + n) c1 _ (n : Int) _ hr1 hc1 (by omega) (by omega)).mono ?_); rintro e w2 ⟨v2, rfl, hown2, hb2⟩; rw [HTB.out] at hown2 ⊢; have hcv2 := OB.conv hown2; have hB2 := below_then hb1 hb2; have hcvx := RB.conv (h.below hB2) c; clear hb1 hb2 hr1 hown1)
        | (go_at_call 20; (with_reducible refine (fixed_any none 0 0 [] lo z _ ((OB.nil _ 0).rb.1) hlo (by omega) (by omega)).mono ?_); rintro e w3 ⟨v3, rfl, hown3, hb3⟩; rw [List.nil_append, HF.out] at hown3; obtain ⟨A3, c3, rfl, hr3, hc3⟩ := hown3.openN 0 rfl)
        | (go_at_call 17; (with_reducible refine (awake_any _).mono ?_); rintro e w7 ⟨rfl, hb7⟩))
      all_goals
        go_ret
        exact ⟨rfl, below_then (below_then hB2 hb3) hb7⟩
theorem VintGrows_walk (a b z : Int) (A : Option Addr) (n c : Nat) (xs : List UInt8) (w : World) (ha : (Lit.int .u64 a).wf = true) (hb : (Lit.int .u64 b).wf = true) (hz : (Lit.int .i64 z).wf = true) (h : RB w A n xs) (hc : n ≤ c) (hsz : n ≤ 140737488351232) :
    Calls Try.prog 10 #[.int .u64 a, .int .u64 b, .int .i64 z, .slice A n c] w fun e w' => e = .returned (.bool true) ∧ Below w.heap.size w w' := by
  have h1 := wf_u64 ha
  have h2 := wf_u64 hb
  obtain ⟨x, rfl⟩ : ∃ g : Nat, a = g := ⟨a.toNat, by omega⟩
  obtain ⟨y, rfl⟩ : ∃ g : Nat, b = g := ⟨b.toNat, by omega⟩
  by_cases hle : x ≤ y
  · exact grows_walk x y x y z A n c xs w (by omega) (.inl ⟨rfl, rfl, hle⟩) (wf_i64 hz) h hc hsz
  · exact grows_walk x y y x z A n c xs w (by omega) (.inr ⟨rfl, rfl, by omega⟩) (wf_i64 hz) h hc hsz
end Go.Proofs.Ytbjpbnflioiccaa
