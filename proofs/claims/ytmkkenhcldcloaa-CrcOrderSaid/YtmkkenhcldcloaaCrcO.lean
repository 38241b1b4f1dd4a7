/- Layer 3: the walk of CrcOrder. -/
import Derived.Test.YtmkkenhcldcloaaCrcA
import Derived.Test.YtmkkenhcldcloaaRF
import Derived.Deep.DeepMust
namespace Go.Proofs.Ytmkkenhcldcloaa
open Go.RowKit
set_option linter.unusedVariables false
set_option linter.unusedSimpArgs false

theorem split_at {xs : List UInt8} {p : Nat} (h : p + 1 < xs.length) : xs = xs.take p ++ [elt 0 xs p, elt 0 xs (p + 1)] ++ xs.drop (p + 2) := by
  rw [elt_get 0 (by omega), elt_get 0 h]
  conv => lhs; rw [← List.take_append_drop p xs, List.drop_eq_getElem_cons (by omega), List.drop_eq_getElem_cons (by omega)]
  simp
theorem swap_at {xs : List UInt8} {p : Nat} (h : p + 1 < xs.length) : (xs.set p (elt 0 xs (p + 1))).set (p + 1) (elt 0 xs p) = xs.take p ++ [elt 0 xs (p + 1), elt 0 xs p] ++ xs.drop (p + 2) := by
  have e := split_at h
  generalize elt 0 xs p = a at *
  generalize elt 0 xs (p + 1) = b at *
  have hl : (xs.take p).length = p := by simp; omega
  generalize xs.take p = u at *
  generalize xs.drop (p + 2) = v at *
  subst e
  rw [List.append_assoc, List.set_append_right _ _ (by omega), hl, Nat.sub_self]
  rw [List.set_append_right _ _ (by omega), hl, Nat.add_sub_cancel_left]
  simp
theorem swap_sum {xs : List UInt8} {p : Nat} (h : p + 1 < xs.length) : crcMore 0 ((xs.set p (elt 0 xs (p + 1))).set (p + 1) (elt 0 xs p)) = crcMore 0 xs ↔ bAt xs p = bAt xs (p + 1) := by
  have key := crc_tells (s := 0) (by omega) (xs.take p) [(elt 0 xs (p + 1), elt 0 xs p), (elt 0 xs p, elt 0 xs (p + 1))] (xs.drop (p + 2)) (by simp)
  simp only [List.map_cons, List.map_nil] at key
  rw [← swap_at h, ← split_at h] at key
  rw [key, bAt_get (by omega), bAt_get h, elt_get 0 h, elt_get 0 (show p < xs.length by omega)]
  constructor
  · intro e
    have := List.cons.inj e
    rw [this.1]
  · intro e
    rw [UInt8.toNat_inj] at e
    rw [e]
theorem CrcOrder_short (A : Option Addr) (n c : Nat) (a : Int) (xs : List UInt8) (w : World) (h : RB w A n xs) (hc : n ≤ c) (hn : n < 2) :
    Calls Try.prog 6 #[.slice A n c, .int .i64 a] w fun e w' => e = .returned (.bool true) ∧ Below w.heap.size w w' := by
  have hm := h.max
  go_enter Try.func6, Try.ntmps6
  go_wp2_with (go_at_call 12; refine (awake_any _).mono ?_; rintro e w' ⟨rfl, hb⟩)
  go_ret
  exact ⟨rfl, hb⟩
theorem OB.lit1 (w : World) (base : Nat) (hb : base ≤ w.heap.size) : OB (w.alloc (.cells #[.int .u8 0] 5)) base (.slice (some ⟨w.heap.size, 0, none⟩) 1 1) [0] := World.ownsRow_lit w #[.int .u8 0] 1 hb (by decide) rfl
theorem sum_own {v : Value} {base : Nat} {xs : List UInt8} (w : World) (h : OB w base v xs) :
    Calls Try.prog 8 #[v] w fun e w' => e = .returned (.int .u32 (crcMore 0 xs : Nat)) ∧ w = w' := by
  obtain ⟨A, c, rfl, hr, hc⟩ := h.open_
  exact sum_any A _ c xs w hr
theorem more_own {v : Value} {base : Nat} {xs : List UInt8} (s : Nat) (hs : s < 4294967296) (w : World) (h : OB w base v xs) :
    Calls Try.prog 10 #[.int .u32 (s : Int), v] w fun e w' => e = .returned (.int .u32 (crcMore s xs : Nat)) ∧ w = w' := by
  obtain ⟨A, c, rfl, hr, hc⟩ := h.open_
  exact more_any s hs A _ c xs w hr
set_option maxHeartbeats 20000000 in
set_option maxRecDepth 100000 in
theorem CrcOrder_long (A : Option Addr) (n c : Nat) (a : Int) (xs : List UInt8) (w : World) (h : RB w A n xs) (hc : n ≤ c) (hsz : n ≤ 140737488351232) (hn : 2 ≤ n) :
    Calls Try.prog 6 #[.slice A n c, .int .i64 a] w fun e w' => e = .returned (.bool true) ∧ Below w.heap.size w w' := by
  have hm := h.max
  have hl := h.1
  obtain ⟨p, hp, hpl⟩ : ∃ p : Nat, IntKind.u64.wrap a % ((n : Int) - 1) = (p : Int) ∧ p + 1 < n := by
    have h1 := Int.emod_nonneg (IntKind.u64.wrap a) (b := (n : Int) - 1) (by omega)
    have h2 := Int.emod_lt_of_pos (IntKind.u64.wrap a) (b := (n : Int) - 1) (by omega)
    exact ⟨(IntKind.u64.wrap a % ((n : Int) - 1)).toNat, by omega, by omega⟩
  have hu : 0 ≤ IntKind.u64.wrap a := by rw [IntKind.wrap_u64]; omega
  obtain ⟨ab, ao, rfl, hca⟩ := h.form (by omega)
  have HL := hid hl
  have HC := hid hca
  clear hl hca
  go_enter Try.func6, Try.ntmps6
  go_wp2_with (first
    | (at_builtin; refine wpB_append w _ w.heap.size rfl (.tmp 18) (.tmp 19) rfl _ [] rfl (OB.empty w _ (Nat.le_refl _)) (some ⟨ab, ao, none⟩) n c xs rfl (h.alloc _) (by rw [HL.out]; simp; omega) ((Below.refl _ _).alloc (Nat.le_refl _) _) (by simp) ?_; intro v1 w1 hown1 hB1 hg1 _))
  have hx0 : 0 < (([] : List UInt8) ++ xs).length := by rw [List.nil_append, HL.out]; omega
  obtain ⟨g, cap, hv, hg0, hg2, hcap⟩ := hown1.form hx0
  have hv' : v1 = .slice (some ⟨g, 0, none⟩) n cap := by rw [hv, List.nil_append, HL.out]
  have hown : OB w1 w.heap.size v1 xs := hown1
  clear hv hown1 hx0
  subst hv'
  have hcap2 : n ≤ cap := hown.rb.2
  have k0 := hown.cell (j := p) (by omega)
  have k1 := hown.cell (j := p + 1) (by omega)
  have f0 := hown.frozen p
  have f1 := hown.frozen (p + 1)
  have hB := hB1
  clear hg1 hB1
  go_region
  go_wp2
  obtain ⟨W2, hW2⟩ : ∃ W : World, W = ((w1.setCell ⟨g, p, none⟩ (.int .u8 ↑(bAt xs (p + 1)))).setCell ⟨g, p + 1, none⟩ (.int .u8 ↑(bAt xs p))).drew := ⟨_, rfl⟩
  rw [← hW2]
  have hown2 : OB W2 w.heap.size (.slice (some ⟨g, 0, none⟩) n cap) ((xs.set p (elt 0 xs (p + 1))).set (p + 1) (elt 0 xs p)) := by
    rw [hW2]
    exact ((hown.set p (elt 0 xs (p + 1)) rfl).set (p + 1) (elt 0 xs p) rfl).drew
  have hB2 : Below w.heap.size w W2 := by
    rw [hW2]
    exact ((hB.setCell hg0 _).setCell hg0 _).drew
  have hca0 := (HC.out) p (by omega)
  have hca1 := (HC.out) (p + 1) (by omega)
  obtain ⟨b, e1, e2⟩ : ∃ b, ((crcMore 0 ((xs.set p (elt 0 xs (p + 1))).set (p + 1) (elt 0 xs p)) : Int) == (crcMore 0 xs : Int)) = b ∧ ((bAt xs p : Int) == (bAt xs (p + 1) : Int)) = b := by
    refine ⟨_, rfl, ?_⟩
    have k := swap_sum (xs := xs) (p := p) (by rw [HL.out]; exact hpl)
    rw [Bool.eq_iff_iff]
    simp only [beq_iff_eq, Int.natCast_inj]
    exact k.symm
  generalize hzs : (xs.set p (elt 0 xs (p + 1))).set (p + 1) (elt 0 xs p) = zs at hown2 e1
  have HZ := hid hzs
  clear hW2 hown k0 k1 f0 f1 hB hzs
  have hrb2 := hown2.rb.1
  have hS0 := below_cell hB2 hca0
  have hS1 := below_cell hB2 hca1
  have hrbx := h.below hB2
  clear hp hu
  have b0 : (0 : Int) ≤ (p : Int) := by omega
  have b1 : (p : Int) < (n : Int) := by omega
  have b2 : (p : Int) + 1 < (n : Int) := by omega
  have b3 : (0 : Int) ≤ (p : Int) + 1 := by omega
  have q1 : IntKind.i64.wrap ((p : Int) + 1) = (p : Int) + 1 := IntWalk.i64_in _ (by omega)
  have q2 : ((p : Int) + 1).toNat = p + 1 := by omega
  have hmlt := crcMore_lt 0 xs
  have e3 : ((crcMore 0 (xs ++ [0]) : Int) == (crcMore (crcMore 0 xs) [0] : Int)) = true := by rw [crcMore_append]; simp
  clear hcap hcap2 hm
  apply wp_region_txt [none, none, none, none, some 32, none, none, none, none, none, none, none, none, none, none, none, none, none, none, none, none, none, none, none, none, none, none, none, none, none, none, none, none, none, none, none, none, some 0, some 1, some 2, some 3, some 4, some 5, some 6, some 7, some 8, some 9, some 10, some 11, some 12, some 13, some 14, some 15, some 16, some 17, some 18, some 19, some 20, some 21, some 22, some 23, some 24, some 25, some 26, some 27, some 28, some 29, some 30, some 31] [17, 19, 20, 21, 25] [(17, 19), (19, 21)] [_, _, _, _, _, _, _, _, _, _, _, _, _, _, _, _, _, undef, _, undef, undef, undef, _, _, _, undef, _, _, _, _, _, _, _] [[], [], [], [], [], [], [], [], [], [], [], [], [], [], [], [], [], _, [], _, _, _, [], [], [], _, [], [], [], [], [], [], []]
  case hm => rfl
  case hs => rfl
  case hst => kernel_rfl
  case hput => exact OpsOK.cons (fun _ _ => rfl) (OpsOK.cons (fun _ _ => rfl) (OpsOK.cons (fun _ _ => rfl) (OpsOK.cons (fun _ _ => rfl) (OpsOK.cons (fun _ _ => rfl) (OpsOK.cons (fun _ _ => rfl) (OpsOK.cons (fun _ _ => rfl) (OpsOK.cons (fun _ _ => rfl) (OpsOK.cons (fun _ _ => rfl) (OpsOK.cons (fun _ _ => rfl) (OpsOK.cons (fun _ _ => rfl) (OpsOK.cons (fun _ _ => rfl) (OpsOK.cons (fun _ _ => rfl) (OpsOK.cons (fun _ _ => rfl) (OpsOK.cons (fun _ _ => rfl) (OpsOK.cons (fun _ _ => rfl) (OpsOK.cons (fun _ _ => rfl) (OpsOK.cons (fun _ _ => rfl) (OpsOK.cons (fun _ _ => rfl) (OpsOK.cons (fun _ _ => rfl) (OpsOK.cons (fun _ _ => rfl) (OpsOK.cons (fun _ _ => rfl) (OpsOK.cons (fun _ _ => rfl) (OpsOK.cons (fun _ _ => rfl) (OpsOK.cons (fun _ _ => rfl) (OpsOK.cons (fun _ _ => rfl) (OpsOK.cons (fun _ _ => rfl) (OpsOK.cons (fun _ _ => rfl) (OpsOK.cons (fun _ _ => rfl) (OpsOK.cons (fun _ _ => rfl) (OpsOK.cons (fun _ _ => rfl) (OpsOK.cons (fun _ _ => rfl) (OpsOK.cons (fun _ _ => rfl) (OpsOK.nil)))))))))))))))))))))))))))))))))
  case hops =>
    refine OpsOK.cons ?_ ?_
    · intro u W K hB hd hK
      replace hK := hk_val hK (by decide) (by rfl)
      clear hd
      simp only [lay, Act.put, List.setIfInBounds_toArray, List.set_cons_zero, List.set_cons_succ] at hK ⊢
      go_simp
      exact hK.out _ _ rfl (Below.refl _ _)
    refine OpsOK.cons ?_ ?_
    · intro u W K hB hd hK
      have h0 := fact_val (dep_of hd 0 (by kernel_rfl) (by kernel_rfl)) (by decide)
      dsimp only [nth] at h0
      replace hK := hk_val hK (by decide) (by rfl)
      clear hd
      simp only [lay, Act.put, List.setIfInBounds_toArray, List.set_cons_zero, List.set_cons_succ, h0] at hK ⊢
      go_simp
      first
        | (go_at_call 8; (with_reducible refine (sum_any (some ⟨g, 0, none⟩) n cap zs _ (hrb2.below hB)).mono ?_); rintro e w' ⟨rfl, rfl⟩; exact hK.out _ _ rfl (Below.refl _ _))
        | (go_at_call 8; (with_reducible refine (sum_any (some ⟨ab, ao, none⟩) n c xs _ (hrbx.below hB)).mono ?_); rintro e w' ⟨rfl, rfl⟩; exact hK.out _ _ rfl (Below.refl _ _))
        | (go_at_call 8; (with_reducible refine (sum_own _ h21).mono ?_); rintro e w' ⟨rfl, rfl⟩; exact hK.out _ _ rfl (Below.refl _ _))
        | (go_at_call 10; (with_reducible refine (more_own _ hmlt _ h25).mono ?_); rintro e w' ⟨rfl, rfl⟩; exact hK.out _ _ rfl (Below.refl _ _))
        | (go_at_call 12; (with_reducible refine (awake_any _).mono ?_); rintro e w1 ⟨rfl, hb⟩; exact hK.out _ _ rfl hb)
    refine OpsOK.cons ?_ ?_
    · intro u W K hB hd hK
      replace hK := hk_val hK (by decide) (by rfl)
      clear hd
      simp only [lay, Act.put, List.setIfInBounds_toArray, List.set_cons_zero, List.set_cons_succ] at hK ⊢
      go_simp
      exact hK.out _ _ rfl (Below.refl _ _)
    refine OpsOK.cons ?_ ?_
    · intro u W K hB hd hK
      have h1 := fact_val (dep_of hd 1 (by kernel_rfl) (by kernel_rfl)) (by decide)
      dsimp only [nth] at h1
      have h2 := fact_val (dep_of hd 2 (by kernel_rfl) (by kernel_rfl)) (by decide)
      dsimp only [nth] at h2
      replace hK := hk_val hK (by decide) (by rfl)
      clear hd
      simp only [lay, Act.put, List.setIfInBounds_toArray, List.set_cons_zero, List.set_cons_succ, h1, h2] at hK ⊢
      go_simp
      first
        | (go_at_call 8; (with_reducible refine (sum_any (some ⟨g, 0, none⟩) n cap zs _ (hrb2.below hB)).mono ?_); rintro e w' ⟨rfl, rfl⟩; exact hK.out _ _ rfl (Below.refl _ _))
        | (go_at_call 8; (with_reducible refine (sum_any (some ⟨ab, ao, none⟩) n c xs _ (hrbx.below hB)).mono ?_); rintro e w' ⟨rfl, rfl⟩; exact hK.out _ _ rfl (Below.refl _ _))
        | (go_at_call 8; (with_reducible refine (sum_own _ h21).mono ?_); rintro e w' ⟨rfl, rfl⟩; exact hK.out _ _ rfl (Below.refl _ _))
        | (go_at_call 10; (with_reducible refine (more_own _ hmlt _ h25).mono ?_); rintro e w' ⟨rfl, rfl⟩; exact hK.out _ _ rfl (Below.refl _ _))
        | (go_at_call 12; (with_reducible refine (awake_any _).mono ?_); rintro e w1 ⟨rfl, hb⟩; exact hK.out _ _ rfl hb)
    refine OpsOK.cons ?_ ?_
    · intro u W K hB hd hK
      have h1 := fact_val (dep_of hd 1 (by kernel_rfl) (by kernel_rfl)) (by decide)
      dsimp only [nth] at h1
      have h3 := fact_val (dep_of hd 3 (by kernel_rfl) (by kernel_rfl)) (by decide)
      dsimp only [nth] at h3
      replace hK := hk_val hK (by decide) (by rfl)
      clear hd
      simp only [lay, Act.put, List.setIfInBounds_toArray, List.set_cons_zero, List.set_cons_succ, h1, h3] at hK ⊢
      go_simp
      exact hK.out _ _ rfl (Below.refl _ _)
    refine OpsOK.cons ?_ ?_
    · intro u W K hB hd hK
      replace hK := hk_val hK (by decide) (by rfl)
      clear hd
      simp only [lay, Act.put, List.setIfInBounds_toArray, List.set_cons_zero, List.set_cons_succ] at hK ⊢
      go_simp
      exact hK.out _ _ rfl (Below.refl _ _)
    refine OpsOK.cons ?_ ?_
    · intro u W K hB hd hK
      replace hK := hk_val hK (by decide) (by rfl)
      clear hd
      simp only [lay, Act.put, List.setIfInBounds_toArray, List.set_cons_zero, List.set_cons_succ] at hK ⊢
      go_simp
      exact hK.out _ _ rfl (Below.refl _ _)
    refine OpsOK.cons ?_ ?_
    · intro u W K hB hd hK
      have h5 := fact_val (dep_of hd 5 (by kernel_rfl) (by kernel_rfl)) (by decide)
      dsimp only [nth] at h5
      have h6 := fact_val (dep_of hd 6 (by kernel_rfl) (by kernel_rfl)) (by decide)
      dsimp only [nth] at h6
      replace hK := hk_val hK (by decide) (by rfl)
      clear hd
      simp only [lay, Act.put, List.setIfInBounds_toArray, List.set_cons_zero, List.set_cons_succ, h5, h6] at hK ⊢
      go_simp
      exact hK.out _ _ rfl (Below.refl _ _)
    refine OpsOK.cons ?_ ?_
    · intro u W K hB hd hK
      have h7 := fact_val (dep_of hd 7 (by kernel_rfl) (by kernel_rfl)) (by decide)
      dsimp only [nth] at h7
      replace hK := hk_val hK (by decide) (by rfl)
      clear hd
      simp only [lay, Act.put, List.setIfInBounds_toArray, List.set_cons_zero, List.set_cons_succ, h7] at hK ⊢
      have hcl := below_cell hB hS0
      go_simp
      exact hK.out _ _ rfl (Below.refl _ _)
    refine OpsOK.cons ?_ ?_
    · intro u W K hB hd hK
      replace hK := hk_val hK (by decide) (by rfl)
      clear hd
      simp only [lay, Act.put, List.setIfInBounds_toArray, List.set_cons_zero, List.set_cons_succ] at hK ⊢
      go_simp
      exact hK.out _ _ rfl (Below.refl _ _)
    refine OpsOK.cons ?_ ?_
    · intro u W K hB hd hK
      replace hK := hk_val hK (by decide) (by rfl)
      clear hd
      simp only [lay, Act.put, List.setIfInBounds_toArray, List.set_cons_zero, List.set_cons_succ] at hK ⊢
      go_simp
      exact hK.out _ _ rfl (Below.refl _ _)
    refine OpsOK.cons ?_ ?_
    · intro u W K hB hd hK
      have h10 := fact_val (dep_of hd 10 (by kernel_rfl) (by kernel_rfl)) (by decide)
      dsimp only [nth] at h10
      replace hK := hk_val hK (by decide) (by rfl)
      clear hd
      simp only [lay, Act.put, List.setIfInBounds_toArray, List.set_cons_zero, List.set_cons_succ, h10] at hK ⊢
      go_simp
      exact hK.out _ _ rfl (Below.refl _ _)
    refine OpsOK.cons ?_ ?_
    · intro u W K hB hd hK
      have h9 := fact_val (dep_of hd 9 (by kernel_rfl) (by kernel_rfl)) (by decide)
      dsimp only [nth] at h9
      have h11 := fact_val (dep_of hd 11 (by kernel_rfl) (by kernel_rfl)) (by decide)
      dsimp only [nth] at h11
      replace hK := hk_val hK (by decide) (by rfl)
      clear hd
      simp only [lay, Act.put, List.setIfInBounds_toArray, List.set_cons_zero, List.set_cons_succ, h9, h11] at hK ⊢
      go_simp
      exact hK.out _ _ rfl (Below.refl _ _)
    refine OpsOK.cons ?_ ?_
    · intro u W K hB hd hK
      have h12 := fact_val (dep_of hd 12 (by kernel_rfl) (by kernel_rfl)) (by decide)
      dsimp only [nth] at h12
      replace hK := hk_val hK (by decide) (by rfl)
      clear hd
      simp only [lay, Act.put, List.setIfInBounds_toArray, List.set_cons_zero, List.set_cons_succ, h12] at hK ⊢
      have hcl := below_cell hB hS1
      go_simp
      exact hK.out _ _ rfl (Below.refl _ _)
    refine OpsOK.cons ?_ ?_
    · intro u W K hB hd hK
      have h8 := fact_val (dep_of hd 8 (by kernel_rfl) (by kernel_rfl)) (by decide)
      dsimp only [nth] at h8
      have h13 := fact_val (dep_of hd 13 (by kernel_rfl) (by kernel_rfl)) (by decide)
      dsimp only [nth] at h13
      replace hK := hk_val hK (by decide) (by rfl)
      clear hd
      simp only [lay, Act.put, List.setIfInBounds_toArray, List.set_cons_zero, List.set_cons_succ, h8, h13] at hK ⊢
      go_simp
      exact hK.out _ _ rfl (Below.refl _ _)
    refine OpsOK.cons ?_ ?_
    · intro u W K hB hd hK
      have h4 := fact_val (dep_of hd 4 (by kernel_rfl) (by kernel_rfl)) (by decide)
      dsimp only [nth] at h4
      have h14 := fact_val (dep_of hd 14 (by kernel_rfl) (by kernel_rfl)) (by decide)
      dsimp only [nth] at h14
      replace hK := hk_val hK (by decide) (by rfl)
      clear hd
      simp only [lay, Act.put, List.setIfInBounds_toArray, List.set_cons_zero, List.set_cons_succ, h4, h14] at hK ⊢
      go_simp
      exact hK.out _ _ rfl (Below.refl _ _)
    refine OpsOK.cons ?_ ?_
    · intro u W K hB hd hK
      have h3 := fact_val (dep_of hd 3 (by kernel_rfl) (by kernel_rfl)) (by decide)
      dsimp only [nth] at h3
      have h15 := fact_val (dep_of hd 15 (by kernel_rfl) (by kernel_rfl)) (by decide)
      dsimp only [nth] at h15
      replace hK := hk_val hK (by decide) (by rfl)
      clear hd
      simp only [lay, Act.put, List.setIfInBounds_toArray, List.set_cons_zero, List.set_cons_succ, h3, h15] at hK ⊢
      go_simp
      exact hK.out _ _ rfl (Below.refl _ _)
    refine OpsOK.cons ?_ ?_
    · intro u W K hB hd hK
      have h16 := fact_val (dep_of hd 16 (by kernel_rfl) (by kernel_rfl)) (by decide)
      dsimp only [nth] at h16
      replace hK := hk_row hB hK (by decide) (by rfl)
      clear hd
      simp only [lay, Act.put, List.setIfInBounds_toArray, List.set_cons_zero, List.set_cons_succ, h16] at hK ⊢
      go_simp
      exact hK.out _ _ (OB.empty _ _ (Nat.le_refl _)) (below_alloc' (Below.refl _ _) _)
    refine OpsOK.cons ?_ ?_
    · intro u W K hB hd hK
      have h16 := fact_val (dep_of hd 16 (by kernel_rfl) (by kernel_rfl)) (by decide)
      dsimp only [nth] at h16
      replace hK := hk_val hK (by decide) (by rfl)
      clear hd
      simp only [lay, Act.put, List.setIfInBounds_toArray, List.set_cons_zero, List.set_cons_succ, h16] at hK ⊢
      go_simp
      exact hK.out _ _ rfl (Below.refl _ _)
    refine OpsOK.cons ?_ ?_
    · intro u W K hB hd hK
      have h16 := fact_val (dep_of hd 16 (by kernel_rfl) (by kernel_rfl)) (by decide)
      dsimp only [nth] at h16
      have h17 := fact_row (dep_of hd 17 (by kernel_rfl) (by kernel_rfl)) (by decide)
      dsimp only [nth] at h17
      have h18 := fact_val (dep_of hd 18 (by kernel_rfl) (by kernel_rfl)) (by decide)
      dsimp only [nth] at h18
      replace hK := hk_par hK (by decide) 17 (by rfl)
      clear hd
      refine stepB_append W2 _ _ (.tmp 54) (.tmp 55) (by rfl) (by simp only [lay, h16]; rfl) _ [] (by rfl) h17 (some ⟨ab, ao, none⟩) n c xs (by exact h18) (hrbx.below hB) (by rw [HL.out]; simp; omega) hB hB.size ?_; intro v' w' a b d f; exact hK.out _ _ (show OB _ _ _ xs from a) d f
    refine OpsOK.cons ?_ ?_
    · intro u W K hB hd hK
      have h16 := fact_val (dep_of hd 16 (by kernel_rfl) (by kernel_rfl)) (by decide)
      dsimp only [nth] at h16
      replace hK := hk_row hB hK (by decide) (by rfl)
      clear hd
      simp only [lay, Act.put, List.setIfInBounds_toArray, List.set_cons_zero, List.set_cons_succ, h16] at hK ⊢
      go_simp; exact hK.out _ _ (OB.lit1 _ _ (Nat.le_refl _)) (below_alloc' (Below.refl _ _) _)
    refine OpsOK.cons ?_ ?_
    · intro u W K hB hd hK
      have h16 := fact_val (dep_of hd 16 (by kernel_rfl) (by kernel_rfl)) (by decide)
      dsimp only [nth] at h16
      have h19 := fact_row (dep_of hd 19 (by kernel_rfl) (by kernel_rfl)) (by decide)
      dsimp only [nth] at h19
      have h20 := fact_row (dep_of hd 20 (by kernel_rfl) (by kernel_rfl)) (by decide)
      dsimp only [nth] at h20
      replace hK := hk_par hK (by decide) 19 (by rfl)
      clear hd
      obtain ⟨A4, c4, e4, hr4, hc4⟩ := h20.openN 1 rfl; refine stepB_append W2 _ _ (.tmp 56) (.tmp 57) (by rfl) (by simp only [lay, h16]; rfl) _ xs (by rfl) h19 A4 1 c4 [0] (by exact e4) hr4 (by rw [HL.out]; simp; omega) hB hB.size ?_; intro v' w' a b d f; exact hK.out _ _ (show OB _ _ _ (xs ++ [0]) from a) d f
    refine OpsOK.cons ?_ ?_
    · intro u W K hB hd hK
      have h16 := fact_val (dep_of hd 16 (by kernel_rfl) (by kernel_rfl)) (by decide)
      dsimp only [nth] at h16
      have h21 := fact_row (dep_of hd 21 (by kernel_rfl) (by kernel_rfl)) (by decide)
      dsimp only [nth] at h21
      replace hK := hk_val hK (by decide) (by rfl)
      clear hd
      simp only [lay, Act.put, List.setIfInBounds_toArray, List.set_cons_zero, List.set_cons_succ, h16] at hK ⊢
      go_simp
      first
        | (go_at_call 8; (with_reducible refine (sum_any (some ⟨g, 0, none⟩) n cap zs _ (hrb2.below hB)).mono ?_); rintro e w' ⟨rfl, rfl⟩; exact hK.out _ _ rfl (Below.refl _ _))
        | (go_at_call 8; (with_reducible refine (sum_any (some ⟨ab, ao, none⟩) n c xs _ (hrbx.below hB)).mono ?_); rintro e w' ⟨rfl, rfl⟩; exact hK.out _ _ rfl (Below.refl _ _))
        | (go_at_call 8; (with_reducible refine (sum_own _ h21).mono ?_); rintro e w' ⟨rfl, rfl⟩; exact hK.out _ _ rfl (Below.refl _ _))
        | (go_at_call 10; (with_reducible refine (more_own _ hmlt _ h25).mono ?_); rintro e w' ⟨rfl, rfl⟩; exact hK.out _ _ rfl (Below.refl _ _))
        | (go_at_call 12; (with_reducible refine (awake_any _).mono ?_); rintro e w1 ⟨rfl, hb⟩; exact hK.out _ _ rfl hb)
    refine OpsOK.cons ?_ ?_
    · intro u W K hB hd hK
      have h16 := fact_val (dep_of hd 16 (by kernel_rfl) (by kernel_rfl)) (by decide)
      dsimp only [nth] at h16
      replace hK := hk_val hK (by decide) (by rfl)
      clear hd
      simp only [lay, Act.put, List.setIfInBounds_toArray, List.set_cons_zero, List.set_cons_succ, h16] at hK ⊢
      go_simp
      exact hK.out _ _ rfl (Below.refl _ _)
    refine OpsOK.cons ?_ ?_
    · intro u W K hB hd hK
      have h16 := fact_val (dep_of hd 16 (by kernel_rfl) (by kernel_rfl)) (by decide)
      dsimp only [nth] at h16
      have h22 := fact_val (dep_of hd 22 (by kernel_rfl) (by kernel_rfl)) (by decide)
      dsimp only [nth] at h22
      have h23 := fact_val (dep_of hd 23 (by kernel_rfl) (by kernel_rfl)) (by decide)
      dsimp only [nth] at h23
      replace hK := hk_val hK (by decide) (by rfl)
      clear hd
      simp only [lay, Act.put, List.setIfInBounds_toArray, List.set_cons_zero, List.set_cons_succ, h16, h22, h23] at hK ⊢
      go_simp
      first
        | (go_at_call 8; (with_reducible refine (sum_any (some ⟨g, 0, none⟩) n cap zs _ (hrb2.below hB)).mono ?_); rintro e w' ⟨rfl, rfl⟩; exact hK.out _ _ rfl (Below.refl _ _))
        | (go_at_call 8; (with_reducible refine (sum_any (some ⟨ab, ao, none⟩) n c xs _ (hrbx.below hB)).mono ?_); rintro e w' ⟨rfl, rfl⟩; exact hK.out _ _ rfl (Below.refl _ _))
        | (go_at_call 8; (with_reducible refine (sum_own _ h21).mono ?_); rintro e w' ⟨rfl, rfl⟩; exact hK.out _ _ rfl (Below.refl _ _))
        | (go_at_call 10; (with_reducible refine (more_own _ hmlt _ h25).mono ?_); rintro e w' ⟨rfl, rfl⟩; exact hK.out _ _ rfl (Below.refl _ _))
        | (go_at_call 12; (with_reducible refine (awake_any _).mono ?_); rintro e w1 ⟨rfl, hb⟩; exact hK.out _ _ rfl hb)
    refine OpsOK.cons ?_ ?_
    · intro u W K hB hd hK
      have h16 := fact_val (dep_of hd 16 (by kernel_rfl) (by kernel_rfl)) (by decide)
      dsimp only [nth] at h16
      replace hK := hk_row hB hK (by decide) (by rfl)
      clear hd
      simp only [lay, Act.put, List.setIfInBounds_toArray, List.set_cons_zero, List.set_cons_succ, h16] at hK ⊢
      go_simp; exact hK.out _ _ (OB.lit1 _ _ (Nat.le_refl _)) (below_alloc' (Below.refl _ _) _)
    refine OpsOK.cons ?_ ?_
    · intro u W K hB hd hK
      have h16 := fact_val (dep_of hd 16 (by kernel_rfl) (by kernel_rfl)) (by decide)
      dsimp only [nth] at h16
      have h24 := fact_val (dep_of hd 24 (by kernel_rfl) (by kernel_rfl)) (by decide)
      dsimp only [nth] at h24
      have h25 := fact_row (dep_of hd 25 (by kernel_rfl) (by kernel_rfl)) (by decide)
      dsimp only [nth] at h25
      replace hK := hk_val hK (by decide) (by rfl)
      clear hd
      simp only [lay, Act.put, List.setIfInBounds_toArray, List.set_cons_zero, List.set_cons_succ, h16, h24] at hK ⊢
      go_simp
      first
        | (go_at_call 8; (with_reducible refine (sum_any (some ⟨g, 0, none⟩) n cap zs _ (hrb2.below hB)).mono ?_); rintro e w' ⟨rfl, rfl⟩; exact hK.out _ _ rfl (Below.refl _ _))
        | (go_at_call 8; (with_reducible refine (sum_any (some ⟨ab, ao, none⟩) n c xs _ (hrbx.below hB)).mono ?_); rintro e w' ⟨rfl, rfl⟩; exact hK.out _ _ rfl (Below.refl _ _))
        | (go_at_call 8; (with_reducible refine (sum_own _ h21).mono ?_); rintro e w' ⟨rfl, rfl⟩; exact hK.out _ _ rfl (Below.refl _ _))
        | (go_at_call 10; (with_reducible refine (more_own _ hmlt _ h25).mono ?_); rintro e w' ⟨rfl, rfl⟩; exact hK.out _ _ rfl (Below.refl _ _))
        | (go_at_call 12; (with_reducible refine (awake_any _).mono ?_); rintro e w1 ⟨rfl, hb⟩; exact hK.out _ _ rfl hb)
    refine OpsOK.cons ?_ ?_
    · intro u W K hB hd hK
      have h16 := fact_val (dep_of hd 16 (by kernel_rfl) (by kernel_rfl)) (by decide)
      dsimp only [nth] at h16
      have h22 := fact_val (dep_of hd 22 (by kernel_rfl) (by kernel_rfl)) (by decide)
      dsimp only [nth] at h22
      have h26 := fact_val (dep_of hd 26 (by kernel_rfl) (by kernel_rfl)) (by decide)
      dsimp only [nth] at h26
      replace hK := hk_val hK (by decide) (by rfl)
      clear hd
      simp only [lay, Act.put, List.setIfInBounds_toArray, List.set_cons_zero, List.set_cons_succ, h16, h22, h26] at hK ⊢
      go_simp
      exact hK.out _ _ rfl (Below.refl _ _)
    refine OpsOK.cons ?_ ?_
    · intro u W K hB hd hK
      have h16 := fact_val (dep_of hd 16 (by kernel_rfl) (by kernel_rfl)) (by decide)
      dsimp only [nth] at h16
      have h27 := fact_val (dep_of hd 27 (by kernel_rfl) (by kernel_rfl)) (by decide)
      dsimp only [nth] at h27
      replace hK := hk_val hK (by decide) (by rfl)
      clear hd
      simp only [lay, Act.put, List.setIfInBounds_toArray, List.set_cons_zero, List.set_cons_succ, h16, h27] at hK ⊢
      go_simp
      exact hK.out _ _ rfl (Below.refl _ _)
    refine OpsOK.cons ?_ ?_
    · intro u W K hB hd hK
      have h26 := fact_val (dep_of hd 26 (by kernel_rfl) (by kernel_rfl)) (by decide)
      dsimp only [nth] at h26
      have h28 := fact_val (dep_of hd 28 (by kernel_rfl) (by kernel_rfl)) (by decide)
      dsimp only [nth] at h28
      replace hK := hk_val hK (by decide) (by rfl)
      clear hd
      simp only [lay, Act.put, List.setIfInBounds_toArray, List.set_cons_zero, List.set_cons_succ, h26, h28] at hK ⊢
      go_simp
      exact hK.out _ _ rfl (Below.refl _ _)
    refine OpsOK.cons ?_ ?_
    · intro u W K hB hd hK
      have h29 := fact_val (dep_of hd 29 (by kernel_rfl) (by kernel_rfl)) (by decide)
      dsimp only [nth] at h29
      replace hK := hk_val hK (by decide) (by rfl)
      clear hd
      simp only [lay, Act.put, List.setIfInBounds_toArray, List.set_cons_zero, List.set_cons_succ, h29] at hK ⊢
      go_simp
      first
        | (go_at_call 8; (with_reducible refine (sum_any (some ⟨g, 0, none⟩) n cap zs _ (hrb2.below hB)).mono ?_); rintro e w' ⟨rfl, rfl⟩; exact hK.out _ _ rfl (Below.refl _ _))
        | (go_at_call 8; (with_reducible refine (sum_any (some ⟨ab, ao, none⟩) n c xs _ (hrbx.below hB)).mono ?_); rintro e w' ⟨rfl, rfl⟩; exact hK.out _ _ rfl (Below.refl _ _))
        | (go_at_call 8; (with_reducible refine (sum_own _ h21).mono ?_); rintro e w' ⟨rfl, rfl⟩; exact hK.out _ _ rfl (Below.refl _ _))
        | (go_at_call 10; (with_reducible refine (more_own _ hmlt _ h25).mono ?_); rintro e w' ⟨rfl, rfl⟩; exact hK.out _ _ rfl (Below.refl _ _))
        | (go_at_call 12; (with_reducible refine (awake_any _).mono ?_); rintro e w1 ⟨rfl, hb⟩; exact hK.out _ _ rfl hb)
    refine OpsOK.cons ?_ ?_
    · intro u W K hB hd hK
      have h29 := fact_val (dep_of hd 29 (by kernel_rfl) (by kernel_rfl)) (by decide)
      dsimp only [nth] at h29
      have h30 := fact_val (dep_of hd 30 (by kernel_rfl) (by kernel_rfl)) (by decide)
      dsimp only [nth] at h30
      replace hK := hk_val hK (by decide) (by rfl)
      clear hd
      simp only [lay, Act.put, List.setIfInBounds_toArray, List.set_cons_zero, List.set_cons_succ, h29, h30] at hK ⊢
      go_simp
      exact hK.out _ _ rfl (Below.refl _ _)
    refine OpsOK.cons ?_ ?_
    · intro u W K hB hd hK
      have h30 := fact_val (dep_of hd 30 (by kernel_rfl) (by kernel_rfl)) (by decide)
      dsimp only [nth] at h30
      have h31 := fact_val (dep_of hd 31 (by kernel_rfl) (by kernel_rfl)) (by decide)
      dsimp only [nth] at h31
      replace hK := hk_val hK (by decide) (by rfl)
      clear hd
      simp only [lay, Act.put, List.setIfInBounds_toArray, List.set_cons_zero, List.set_cons_succ, h30, h31] at hK ⊢
      go_simp
      exact hK.out _ _ rfl (Below.refl _ _)
    exact OpsOK.nil
  intro u W hB hf
  have h0 := fact_val (hf 0 (by decide) (by decide)) (by decide)
  dsimp only [nth] at h0
  have h1 := fact_val (hf 1 (by decide) (by decide)) (by decide)
  dsimp only [nth] at h1
  have h2 := fact_val (hf 2 (by decide) (by decide)) (by decide)
  dsimp only [nth] at h2
  have h3 := fact_val (hf 3 (by decide) (by decide)) (by decide)
  dsimp only [nth] at h3
  have h4 := fact_val (hf 4 (by decide) (by decide)) (by decide)
  dsimp only [nth] at h4
  have h5 := fact_val (hf 5 (by decide) (by decide)) (by decide)
  dsimp only [nth] at h5
  have h6 := fact_val (hf 6 (by decide) (by decide)) (by decide)
  dsimp only [nth] at h6
  have h7 := fact_val (hf 7 (by decide) (by decide)) (by decide)
  dsimp only [nth] at h7
  have h8 := fact_val (hf 8 (by decide) (by decide)) (by decide)
  dsimp only [nth] at h8
  have h9 := fact_val (hf 9 (by decide) (by decide)) (by decide)
  dsimp only [nth] at h9
  have h10 := fact_val (hf 10 (by decide) (by decide)) (by decide)
  dsimp only [nth] at h10
  have h11 := fact_val (hf 11 (by decide) (by decide)) (by decide)
  dsimp only [nth] at h11
  have h12 := fact_val (hf 12 (by decide) (by decide)) (by decide)
  dsimp only [nth] at h12
  have h13 := fact_val (hf 13 (by decide) (by decide)) (by decide)
  dsimp only [nth] at h13
  have h14 := fact_val (hf 14 (by decide) (by decide)) (by decide)
  dsimp only [nth] at h14
  have h15 := fact_val (hf 15 (by decide) (by decide)) (by decide)
  dsimp only [nth] at h15
  have h16 := fact_val (hf 16 (by decide) (by decide)) (by decide)
  dsimp only [nth] at h16
  have h18 := fact_val (hf 18 (by decide) (by decide)) (by decide)
  dsimp only [nth] at h18
  have h20 := fact_row (hf 20 (by decide) (by decide)) (by decide)
  dsimp only [nth] at h20
  have h21 := fact_row (hf 21 (by decide) (by decide)) (by decide)
  dsimp only [nth] at h21
  have h22 := fact_val (hf 22 (by decide) (by decide)) (by decide)
  dsimp only [nth] at h22
  have h23 := fact_val (hf 23 (by decide) (by decide)) (by decide)
  dsimp only [nth] at h23
  have h24 := fact_val (hf 24 (by decide) (by decide)) (by decide)
  dsimp only [nth] at h24
  have h25 := fact_row (hf 25 (by decide) (by decide)) (by decide)
  dsimp only [nth] at h25
  have h26 := fact_val (hf 26 (by decide) (by decide)) (by decide)
  dsimp only [nth] at h26
  have h27 := fact_val (hf 27 (by decide) (by decide)) (by decide)
  dsimp only [nth] at h27
  have h28 := fact_val (hf 28 (by decide) (by decide)) (by decide)
  dsimp only [nth] at h28
  have h29 := fact_val (hf 29 (by decide) (by decide)) (by decide)
  dsimp only [nth] at h29
  have h30 := fact_val (hf 30 (by decide) (by decide)) (by decide)
  dsimp only [nth] at h30
  have h31 := fact_val (hf 31 (by decide) (by decide)) (by decide)
  dsimp only [nth] at h31
  have h32 := fact_val (hf 32 (by decide) (by decide)) (by decide)
  dsimp only [nth] at h32
  clear hf
  simp only [lay, h0, h1, h2, h3, h4, h5, h6, h7, h8, h9, h10, h11, h12, h13, h14, h15, h16, h18, h22, h23, h24, h26, h27, h28, h29, h30, h31, h32]
  clear h0 h1 h2 h3 h4 h5 h6 h7 h8 h9 h10 h11 h12 h13 h14 h15 h16 h18 h22 h23 h24 h26 h27 h28 h29 h30 h31 h32
  go_wp2
  go_ret
  exact ⟨rfl, below_then hB2 hB⟩
theorem CrcOrder_walk (A : Option Addr) (n c : Nat) (xs : List UInt8) (a : Int) (w : World) (h : RB w A n xs) (hc : n ≤ c) (hsz : n ≤ 140737488351232) (_ha : (Lit.int .i64 a).wf = true) :
    Calls Try.prog 6 #[.slice A n c, .int .i64 a] w fun e w' => e = .returned (.bool true) ∧ Below w.heap.size w w' := by
  by_cases hn : n < 2
  · exact CrcOrder_short A n c a xs w h hc hn
  · exact CrcOrder_long A n c a xs w h hc hsz (by omega)
end Go.Proofs.Ytmkkenhcldcloaa
