/- Layer 2: a needless byte behind a length: the plain law. -/
import Derived.Test.YtbjpbnflioiccaaVintO
namespace Go.Proofs.Ytbjpbnflioiccaa
open Go.RowKit
set_option linter.unusedVariables false
set_option linter.unusedSimpArgs false

theorem bAt_0 (x : UInt8) (l : List UInt8) : bAt (x :: l) 0 = x.toNat := rfl
theorem bAt_s (x : UInt8) (l : List UInt8) (k : Nat) : bAt (x :: l) (k + 1) = bAt l k := rfl
theorem bAt_1 (x y : UInt8) (l : List UInt8) : bAt (x :: y :: l) 1 = y.toNat := rfl
theorem bAt_2 (x y z : UInt8) (l : List UInt8) : bAt (x :: y :: z :: l) 2 = z.toNat := rfl
theorem bAt_3 (x y z u : UInt8) (l : List UInt8) : bAt (x :: y :: z :: u :: l) 3 = u.toNat := rfl
theorem toNat_low (m : Nat) : (UInt8.ofNat (m % 128 + 128)).toNat = m % 128 + 128 := by rw [UInt8.toNat_ofNat']; omega
theorem toNat_small {m : Nat} (h : m < 256) : (UInt8.ofNat m).toNat = m := by rw [UInt8.toNat_ofNat']; omega
theorem uvar_1 {g : Nat} (h : g < 128) : uvar g = [UInt8.ofNat g] := uvarF_small h
theorem uvar_2 {g : Nat} (h : ¬ g < 128) (h2 : g < 16384) : uvar g = [UInt8.ofNat (g % 128 + 128), UInt8.ofNat (g / 128)] := by
  unfold uvar
  rw [uvarF_big h, uvarF_small (by omega)]
theorem uvar_3 {g : Nat} (h : ¬ g < 16384) (h2 : g < 2097152) : uvar g = [UInt8.ofNat (g % 128 + 128), UInt8.ofNat (g / 128 % 128 + 128), UInt8.ofNat (g / 128 / 128)] := by
  unfold uvar
  rw [uvarF_big (by omega), uvarF_big (by omega), uvarF_small (by omega)]
theorem need1 (x : UInt8) (h : 128 ≤ x.toNat) : takeL [x, 0] = (x.toNat - 128, 2, 0) ∧ takeU [x, 0] = (0, 0, 3) := by
  have := x.toNat_lt
  constructor
  · unfold takeL
    rw [takeLF_more (by simp) (by rw [bAt_0]; omega), takeLF_last (by simp) (by rw [bAt_1]; decide), bAt_0, bAt_1, show (0 : UInt8).toNat = 0 from rfl]
    simp; omega
  · have hl : leadU [x, 0] = 1 := by simp [leadU, h]
    unfold takeU
    rw [hl, if_neg (by simp), if_pos (Or.inr (Or.inr ⟨by omega, rfl⟩))]
theorem need2 (x y : UInt8) (h : 128 ≤ x.toNat) (h' : 128 ≤ y.toNat) : takeL [x, y, 0] = (x.toNat - 128 + (y.toNat - 128) * 128, 3, 0) ∧ takeU [x, y, 0] = (0, 0, 3) := by
  have := x.toNat_lt
  have := y.toNat_lt
  constructor
  · unfold takeL
    rw [takeLF_more (by simp) (by rw [bAt_0]; omega), takeLF_more (by simp) (by rw [bAt_1]; omega), takeLF_last (by simp) (by rw [bAt_2]; decide), bAt_0, bAt_1, bAt_2, show (0 : UInt8).toNat = 0 from rfl]
    simp; omega
  · have hl : leadU [x, y, 0] = 2 := by simp [leadU, h, h']
    unfold takeU
    rw [hl, if_neg (by simp), if_pos (Or.inr (Or.inr ⟨by omega, rfl⟩))]
theorem need3 (x y z : UInt8) (h : 128 ≤ x.toNat) (h' : 128 ≤ y.toNat) (h'' : 128 ≤ z.toNat) : takeL [x, y, z, 0] = (x.toNat - 128 + (y.toNat - 128) * 128 + (z.toNat - 128) * 16384, 4, 0) ∧ takeU [x, y, z, 0] = (0, 0, 3) := by
  have := x.toNat_lt
  have := y.toNat_lt
  have := z.toNat_lt
  constructor
  · unfold takeL
    rw [takeLF_more (by simp) (by rw [bAt_0]; omega), takeLF_more (by simp) (by rw [bAt_1]; omega), takeLF_more (by simp) (by rw [bAt_2]; omega), takeLF_last (by simp) (by rw [bAt_3]; decide), bAt_0, bAt_1, bAt_2, bAt_3, show (0 : UInt8).toNat = 0 from rfl]
    simp; omega
  · have hl : leadU [x, y, z, 0] = 3 := by simp [leadU, h, h', h'']
    unfold takeU
    rw [hl, if_neg (by simp), if_pos (Or.inr (Or.inr ⟨by omega, rfl⟩))]
/-- The last byte of a short uvarint is small; with its highest bit set and a 0 behind, it is the same length and no uvarint. -/
theorem needless {g : Nat} (hg : g < 2097152) : ∃ k, (uvar g).length = k + 1 ∧ k < 3 ∧ bAt (uvar g) k < 128 ∧ ∀ y : UInt8, y.toNat = bAt (uvar g) k + 128 → takeL ((uvar g).set k y ++ [0]) = (g, k + 2, 0) ∧ takeU ((uvar g).set k y ++ [0]) = (0, 0, 3) := by
  by_cases h1 : g < 128
  · rw [uvar_1 h1]
    refine ⟨0, rfl, by omega, by rw [bAt_0, toNat_small (by omega)]; exact h1, fun y hy => ?_⟩
    rw [bAt_0, toNat_small (by omega)] at hy
    have := need1 y (by omega)
    rw [hy, Nat.add_sub_cancel] at this
    exact this
  · by_cases h2 : g < 16384
    · rw [uvar_2 h1 h2]
      refine ⟨1, rfl, by omega, by rw [bAt_1, toNat_small (by omega)]; omega, fun y hy => ?_⟩
      rw [bAt_1, toNat_small (by omega)] at hy
      have := need2 (UInt8.ofNat (g % 128 + 128)) y (by rw [toNat_low]; omega) (by omega)
      rw [hy, toNat_low, Nat.add_sub_cancel, Nat.add_sub_cancel, show g % 128 + g / 128 * 128 = g from by omega] at this
      exact this
    · rw [uvar_3 h2 hg]
      refine ⟨2, rfl, by omega, by rw [bAt_2, toNat_small (by omega)]; omega, fun y hy => ?_⟩
      rw [bAt_2, toNat_small (by omega)] at hy
      have := need3 (UInt8.ofNat (g % 128 + 128)) (UInt8.ofNat (g / 128 % 128 + 128)) y (by rw [toNat_low]; omega) (by rw [toNat_low]; omega) (by omega)
      rw [hy, toNat_low, toNat_low, Nat.add_sub_cancel, Nat.add_sub_cancel, Nat.add_sub_cancel, show g % 128 + g / 128 % 128 * 128 + g / 128 / 128 * 16384 = g from by omega] at this
      exact this
theorem or128_small {m : Nat} (h : m < 128) : bits .or .u8 (m : Int) 128 = ((UInt8.ofNat (m + 128)).toNat : Int) := by
  have h1 := u8_or_nat m 128 (by omega) (by omega)
  rw [show ((128 : Nat) : Int) = 128 from rfl] at h1
  rw [h1, or128_all _ (by omega), UInt8.toNat_ofNat', Nat.mod_eq_of_lt h]
  omega
theorem wpB_append1' {ops : Array Oper} {rest : List Oper} {o : Oper} {a : Act} {Q : Exit → Act → World → Prop} (w0 w : World) (base : Nat) (hgd : o.guard = none) (s x : Operand)
    (ho : o.op = .call { callee := .builtin .append, args := #[s, x], argTypes := #[22, 22] })
    (v : Value) (xs : List UInt8) (hs : a.eval s = v) (hown : OB w base v xs) (y : UInt8) (z : Int) (hz : z = y.toNat) (c g : Nat) (hg : g = w.heap.size) (hx : a.eval x = .slice (some ⟨g, 0, none⟩) 1 c)
    (hbytes : xs.length + 1 ≤ 140737488355328) (hB : Below base w0 w) (hbase : base ≤ w.heap.size)
    (h : ∀ v' w', OB w' base v' (xs ++ [y]) → Below base w0 w' → w.grownBy w' v.ownBlock → AtRow w.heap.size v v' → wpList Try.prog ops Q rest (a.put o.dst v') w') : wpList Try.prog ops Q (o :: rest) a (w.alloc (.cells #[.int .u8 z] 5)) := by
  subst hg
  exact wpB_append1 w0 w base hgd s x ho v xs hs hown y z hz c hx hbytes hB hbase h
theorem OB.formN {w : World} {base : Nat} {v : Value} {xs : List UInt8} (h : OB w base v xs) (n : Nat) (hl : xs.length = n) (hn : 0 < n) : ∃ g cap, v = .slice (some ⟨g, 0, none⟩) n cap ∧ base ≤ g ∧ g < w.heap.size ∧ n ≤ cap := by
  subst hl
  exact h.form hn

set_option maxHeartbeats 8000000 in
set_option maxRecDepth 100000 in
theorem VintNeedless_walk (z : Int) (w : World) (hz : (Lit.int .i64 z).wf = true) :
    Calls Try.prog 8 #[.int .i64 z] w fun e w' => e = .returned (.bool true) ∧ Below w.heap.size w w' := by
  have hm := wf_i64 hz
  obtain ⟨g, hg2, hgi⟩ : ∃ g : Nat, g < 2097152 ∧ wrap64 ((IntKind.u64.wrap z).tmod 2097152) = (g : Int) := by
    have h1 : IntKind.u64.wrap z = z % 18446744073709551616 := IntKind.wrap_u64 z
    refine ⟨(IntKind.u64.wrap z % 2097152).toNat, by omega, ?_⟩
    rw [Int.tmod_eq_emod_of_nonneg (by omega)]
    unfold wrap64
    omega
  have eB : lenB (g : Int) = uvar g := by unfold lenB; rw [if_neg (by omega)]; rfl
  have eE : lenE (g : Int) = 0 := by unfold lenE; rw [if_neg (by omega)]
  obtain ⟨k, hk, hk3, hlast, hlaw⟩ := needless hg2
  have hlaw1 := hlaw (UInt8.ofNat (bAt (uvar g) k + 128)) (toNat_small (by omega))
  have hor := or128_small hlast
  have hy : (((bAt (uvar g) k : Nat) : Int) + 128) = ((UInt8.ofNat (bAt (uvar g) k + 128)).toNat : Int) := by rw [toNat_small (by omega)]; rfl
  have HY := hid hy
  have hmod : (((bAt (uvar g) k : Nat) : Int) + 128) % 256 = ((bAt (uvar g) k : Nat) : Int) + 128 := by omega
  clear hy
  have HE := hid eB
  have HE2 := hid eE
  have HL := hid hlaw1
  have HK := hid hk
  clear eB eE hlaw hlaw1 hk
  go_enter Try.func8, Try.ntmps8
  go_wp2_with (first
    | (go_at_call 28; (with_reducible refine (length_any (g : Int) _ (by omega)).mono ?_); rintro e w1 ⟨v1, rfl, hown1, hb1⟩; rw [HE2.out]; rw [HE.out] at hown1; obtain ⟨A1, c1, rfl, hr1, hc1⟩ := hown1.openN (k + 1) HK.out)
    | (at_builtin; refine wpB_append _ _ w.heap.size rfl (.tmp 33) (.tmp 34) rfl _ [] rfl (OB.empty _ _ (by first | omega | exact hb1.size)) A1 (k + 1) c1 (uvar g) rfl (hr1.alloc _) (by rw [HK.out]; simp; omega) (below_alloc' hb1 _) (below_alloc' hb1 _).size ?_; intro v2 w2 hown2 hb2 _ _; obtain ⟨g2, c2, rfl, hg0, hgs, hc2⟩ := hown2.formN (k + 1) (by rw [List.nil_append, HK.out]) (by omega); have k0 := hown2.cell (j := k) (by omega); have f0 := hown2.frozen k; rw [List.nil_append] at k0)
    | (at_builtin; refine wpB_append1' w (w2.setCell ⟨g2, k, none⟩ (.int .u8 (((bAt (uvar g) k : Nat) : Int) + 128))) w.heap.size rfl (.tmp 44) (.tmp 45) rfl (.slice (some ⟨g2, 0, none⟩) (k + 1) c2) ((uvar g).set k (UInt8.ofNat (bAt (uvar g) k + 128))) rfl ((show OB w2 w.heap.size _ (uvar g) from hown2).set k _ HY.out) 0 0 (by decide) 1 w2.heap.size (by simp) rfl (by rw [List.length_set, HK.out]; omega) (hb2.setCell hg0 _) (hb2.setCell hg0 _).size ?_; intro v3 w3 hown3 hb3 _ _; obtain ⟨A3, c3, rfl, hr3, hc3⟩ := hown3.openN (k + 2) (by simp [HK.out]); have hq3 := takelen_any A3 (k + 2) c3 _ _ hr3; have hu3 := take_any A3 (k + 2) c3 _ _ hr3; rw [HL.out.1] at hq3; rw [HL.out.2] at hu3; have HQ3 := hid hq3; have HU3 := hid hu3; clear hq3 hu3 k0 f0)
    | (go_at_call 26; refine (HQ3.out).mono ?_; rintro e w4 ⟨rfl, rfl⟩)
    | (go_at_call 11; refine (HU3.out).mono ?_; rintro e w4 ⟨rfl, rfl⟩)
    | (go_at_call 17; (with_reducible refine (awake_any _).mono ?_); rintro e w5 ⟨rfl, hb5⟩))

  go_ret
  exact ⟨rfl, below_then hb3 hb5⟩
end Go.Proofs.Ytbjpbnflioiccaa
