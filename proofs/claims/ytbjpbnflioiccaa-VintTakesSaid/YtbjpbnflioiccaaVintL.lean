/- Layer 2: the number that every program must know; the walks of the first statements. -/
import Derived.Test.YtbjpbnflioiccaaVintU
import Derived.Test.YtbjpbnflioiccaaVintG
import Derived.Test.YtbjpbnflioiccaaO
import Derived.Test.YtbjpbnflioiccaaRT
import Derived.Deep.DeepMust
namespace Go.Proofs.Ytbjpbnflioiccaa
open Go.RowKit
set_option linter.unusedVariables false
set_option linter.unusedSimpArgs false

theorem known_take : takeU [0xac, 2, 7] = (300, 2, 0) := by decide +kernel
theorem awake_any (w : World) : Calls Try.prog 17 #[] w fun e w' => e = .returned (.bool true) ∧ Below w.heap.size w w' := by
  have hr := RB.lit w [0xac, 2, 7] #[.int .u8 172, .int .u8 2, .int .u8 7] 5 (0, 0) rfl (by decide)
  have hk := take_any (some ⟨w.heap.size, 0, none⟩) 3 3 _ _ hr
  rw [known_take] at hk
  have HK := hid hk
  clear hk
  go_enter Try.func17, Try.ntmps17
  go_wp2_with (go_at_call 11; refine (HK.out).mono ?_; rintro e w' ⟨rfl, rfl⟩)
  go_ret
  exact ⟨rfl, (Below.refl _ _).alloc (Nat.le_refl _) _⟩

set_option maxHeartbeats 8000000 in
set_option maxRecDepth 100000 in
theorem VintTakes_walk0 (A : Option Addr) (n c : Nat) (xs : List UInt8) (g : Nat) (w : World) (h : RB w A n xs) (hc : n ≤ c) (hsz : n ≤ 140737488351232) (hg : g < 18446744073709551616) :
    Calls Try.prog 3 #[.slice A n c, .int .u64 (g : Int)] w fun e w' => e = .returned (.bool true) ∧ Below w.heap.size w w' := by
  have hl := h.1
  have HL := hid hl
  clear hl
  obtain ⟨tv, tu, te, hT⟩ : ∃ a b d, takeU xs = (a, b, d) := ⟨_, _, _, rfl⟩
  have HC1 := take_any A n c xs w h
  have HC2 := reftake_any A n c xs w h
  rw [hT] at HC1 HC2
  have HD1 := hid HC1
  have HD2 := hid HC2
  clear HC1 HC2 hT
  have hS0 := Below.refl w.heap.size w
  go_enter Try.func3, Try.ntmps3
  go_wp2_with (first
    | (go_at_call 11; refine (HD1.out).mono ?_; rintro e w' ⟨rfl, rfl⟩)
    | (go_at_call 12; refine (HD2.out).mono ?_; rintro e w' ⟨rfl, rfl⟩))
  have hB0 := hS0
  clear hS0
  go_inv [16, 18, 20, 22] [18 => 20, 20 => 22] (first
    | (go_at_call 13; (with_reducible refine (put_any A n c xs g _ (h.below hB) hg (by omega)).mono ?_); rintro e w1 ⟨v1, rfl, hown, hb⟩; exact hK.out _ _ hown hb)
    | (have hcv := OB.conv ‹OB W _ _ _›; go_simp; exact hK.out _ _ rfl (Below.refl _ _))
    | (refine stepB_append w _ _ _ _ (by rfl) (by rfl) _ [] (by rfl) h18 A n c xs (by rfl) (h.below hB) (by rw [HL.out]; simp; omega) hB hB.size ?_; intro v' w' a b d f; exact hK.out _ _ (show OB _ _ _ xs from a) d f)
    | (go_at_call 14; (with_reducible refine (refput_any _ _ xs g _ h20 hB.size hg (by rw [HL.out]; omega)).mono ?_); rintro e w1 ⟨v1, rfl, hown, hgr, hat⟩; exact hK.out _ _ hown hgr hat)
    | (go_at_call 15; (with_reducible refine (len_any g _ hg).mono ?_); rintro e w1 ⟨rfl, rfl⟩; exact hK.out _ _ rfl (Below.refl _ _))
    | (go_at_call 16; (with_reducible refine (reflen_any g _ hg).mono ?_); rintro e w1 ⟨rfl, hb⟩; exact hK.out _ _ rfl hb)
    | (go_at_call 17; (with_reducible refine (awake_any _).mono ?_); rintro e w1 ⟨rfl, hb⟩; exact hK.out _ _ rfl hb))
  go_wp2
  go_ret
  exact ⟨rfl, hB⟩
theorem VintTakes_walk (A : Option Addr) (n c : Nat) (xs : List UInt8) (a : Int) (w : World) (h : RB w A n xs) (hc : n ≤ c) (hsz : n ≤ 140737488351232) (ha : (Lit.int .u64 a).wf = true) :
    Calls Try.prog 3 #[.slice A n c, .int .u64 a] w fun e w' => e = .returned (.bool true) ∧ Below w.heap.size w w' := by
  have hb := wf_u64 ha
  obtain ⟨g, rfl⟩ : ∃ g : Nat, a = g := ⟨a.toNat, by omega⟩
  exact VintTakes_walk0 A n c xs g w h hc hsz (by omega)
end Go.Proofs.Ytbjpbnflioiccaa
