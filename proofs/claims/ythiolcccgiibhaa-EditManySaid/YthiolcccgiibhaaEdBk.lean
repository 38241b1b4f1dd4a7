/- Layer 14: an edit comes back, whole or not at all: the walk of the statement. -/
import Derived.Test.YthiolcccgiibhaaEdY
namespace Go.Proofs.Ythiolcccgiibhaa
open Go.RowKit
set_option linter.unusedVariables false
set_option linter.unusedSimpArgs false

theorem DecC.get {w' : World} {X : List UInt8} {v : Value} {l x s : Int} {ts : List TabR} {zs : List Int} {n m : Nat} (h : DecC w' X v) (hd : decE X = (l.toNat, x.toNat, s.toNat, ts, zs, 0)) (hl : 0 ≤ l) (hx : 0 ≤ x) (hs : 0 ≤ s) (hn : ts.length = n) (hm : zs.length = m) :
    ∃ A c B d, v = .agg #[.int .i64 l, .int .i64 x, .int .i64 s, .slice A n c, .slice B m d] ∧ RTabs w' A n ts ∧ RN .i64 w' B m zs := by
  subst hn hm
  have h := h.2
  rw [hd] at h
  obtain ⟨A, c, B, d, e, h1, _, h2, _⟩ := h rfl
  refine ⟨A, c, B, d, ?_, h1, h2⟩
  rw [e]
  show Value.agg #[.int .i64 ((l.toNat : Nat) : Int), .int .i64 ((x.toNat : Nat) : Int), .int .i64 ((s.toNat : Nat) : Int), .slice A ts.length c, .slice B zs.length d] = _
  rw [show ((l.toNat : Nat) : Int) = l by omega, show ((x.toNat : Nat) : Int) = x by omega, show ((s.toNat : Nat) : Int) = s by omega]
theorem encE_len {l x s : Int} {ts : List TabR} {zs : List Int} (h : mayEd l x s ts zs = true) : 0 < (encE l x s ts zs).length ∧ (encE l x s ts zs).length ≤ 300000 := by
  obtain ⟨d1, d2, d3, d4, d5, d6, d7⟩ := mayEd_true h
  have e1 := accA_len (l := l) (x := x) (s := s) (addOK_at _ d6) ts.length (Nat.le_refl _)
  have e2 := accR_len (accA l x s ts ts.length) zs zs.length
  have e3 := uvar_pos l.toNat
  constructor
  · rw [enc_flat h, List.length_append]; omega
  · unfold encE
    rw [if_pos h]
    omega
theorem cut_mod (z : Int) (m : Nat) (hm : 1 ≤ m ∧ m ≤ 4000000) (hz : -9223372036854775808 ≤ z ∧ z ≤ 9223372036854775807) : ∃ p : Nat, p < m ∧ (wrap64 (z.tmod m + m)).tmod m = (p : Int) := by
  have h1 := Int.tmod_lt_of_pos z (show (0 : Int) < m by omega)
  have h2 := Int.lt_tmod_of_pos z (show (0 : Int) < m by omega)
  generalize z.tmod m = t at *
  have e1 : wrap64 (t + m) = t + m := by unfold wrap64; omega
  have h3 : (t + m).tmod m = (t + m) % m := Int.tmod_eq_emod_of_nonneg (by omega)
  have h4 := Int.emod_lt_of_pos (t + m) (show (0 : Int) < m by omega)
  have h5 := Int.emod_nonneg (t + m) (show (m : Int) ≠ 0 by omega)
  rw [e1, h3]
  exact ⟨((t + m) % m).toNat, by omega, by omega⟩
set_option maxHeartbeats 16000000 in
set_option maxRecDepth 100000 in
theorem EditBack_walk (l x s : Int) (Aa : Option Addr) (na ca : Nat) (ts : List TabR) (Ar : Option Addr) (nr cr : Nat) (zs : List Int) (z : Int) (A' : Option Addr) (m c' : Nat) (more : List UInt8) (w : World) (hT : RTabs w Aa na ts) (hca : na ≤ ca) (hZ : RN .i64 w Ar nr zs) (hcr : nr ≤ cr) (hz : (Lit.int .i64 z).wf = true) (h' : RB w A' m more) (hc' : m ≤ c') (hsz' : m ≤ 1048576) :
    Calls Try.prog 6 #[.agg #[.int .i64 l, .int .i64 x, .int .i64 s, .slice Aa na ca, .slice Ar nr cr], .int .i64 z, .slice A' m c'] w fun e w' => e = .returned (.bool true) ∧ Below w.heap.size w w' := by
  have hla := hT.1
  have hlr := hZ.1
  have hml := h'.1
  have hz2 := wf_i64 hz
  have HT1 := hid (hT.below (below_alloc' (Below.refl _ _) (.cells #[.int .i64 l, .int .i64 x, .int .i64 s, .slice Aa na ca, .slice Ar nr cr] 30)))
  have HZ1 := hid (hZ.below (below_alloc' (Below.refl _ _) (.cells #[.int .i64 l, .int .i64 x, .int .i64 s, .slice Aa na ca, .slice Ar nr cr] 30)))
  have HJ := hid (show MayJ w (w.alloc (.cells #[.int .i64 l, .int .i64 x, .int .i64 s, .slice Aa na ca, .slice Ar nr cr] 30)) l x s Aa na ca Ar nr cr from ⟨heap_alloc_new w _, below_alloc' (Below.refl _ _) _⟩)
  have HR := hid h'
  clear hT hZ hz
  cases hM : mayEd l x s ts zs with
  | true =>
    obtain ⟨⟨d1, _⟩, ⟨d3, _⟩, ⟨d5, _⟩, _⟩ := mayEd_true hM
    obtain ⟨X, hX⟩ : ∃ X, encE l x s ts zs = X := ⟨_, rfl⟩
    obtain ⟨l1, l2⟩ := encE_len hM
    have q1 := dec_more hM []
    have q2 := dec_more hM more
    have q3 := fun i => dec_cut hM (i := i)
    rw [hX] at l1 l2 q1 q2
    simp only [hX] at q3
    rw [List.append_nil] at q1
    obtain ⟨N, hN⟩ : ∃ N, X.length = N := ⟨_, rfl⟩
    rw [hN] at l1 l2
    obtain ⟨p, hp1, hp2⟩ := cut_mod z N ⟨by omega, by omega⟩ hz2
    have hNz : ¬ (N : Int) = 0 := by omega
    have hN0 : ((N : Int) == 0) = false := by rw [beq_eq_false_iff_ne]; omega
    have q4 := q3 p (by omega)
    obtain ⟨e4, he4⟩ : ∃ e4, (decE (X.take p)).2.2.2.2.2 = e4 := ⟨_, rfl⟩
    rw [he4] at q4
    have q4b : ((e4 : Int) == 0) = false := by rw [beq_eq_false_iff_ne]; omega
    obtain ⟨e5, he5⟩ : ∃ e5 : Nat, e5 = if more.length = 0 then 0 else 3 := ⟨_, rfl⟩
    have q2e : Hid ((decE (X ++ more)).2.2.2.2.2 = e5) := by unfold Hid; rw [q2, he5]
    have q5 : (((e5 : Int) == 0) == ((m : Int) == 0)) = true := by
      rw [he5, hml]
      by_cases h0 : m = 0
      · subst h0; rfl
      · have : ((m : Int) == 0) = false := by rw [beq_eq_false_iff_ne]; omega
        rw [if_neg h0, this]; rfl
    have HM := hid hM
    have HX := hid hX
    have HN := hid hN
    have HD := hid (show decE X = (l.toNat, x.toNat, s.toNat, ts, zs, 0) from q1)
    have HC := hid he4
    have HLA := hid hla
    have HLR := hid hlr
    have HCUT := hid (fun (A3 : Option Addr) (c3 : Nat) (hc3 : N ≤ c3) => cutB_hi (A := A3) hc3 (Nat.le_of_lt hp1) (p : Int) rfl)
    clear hM hX hN q1 q2 q3 q4 he4 he5 hla hlr
    go_enter Try.func6, Try.ntmps6
    go_wp2_with (first
      | (go_at_call 10; (with_reducible refine (light_any l x s Aa na ca ts Ar nr cr zs _ HT1.out HZ1.out).mono ?_); rintro e w1 ⟨⟨b, rfl⟩, hbx⟩; have hJ1 := HJ.out.below hbx; have hT1 := HT1.out.below hbx; have hZ1 := HZ1.out.below hbx; have ka0 := box_at hJ1.1 0 (.int .i64 l) rfl; have ka1 := box_at hJ1.1 1 (.int .i64 x) rfl; have ka2 := box_at hJ1.1 2 (.int .i64 s) rfl; have ka3 := box_at hJ1.1 3 (.slice Aa na ca) rfl; have ka4 := box_at hJ1.1 4 (.slice Ar nr cr) rfl; cases b)
      | (go_at_call 9; (with_reducible refine (awake_any _).mono ?_); rintro e w2 ⟨rfl, hbz⟩)
      | (go_at_call 13; (with_reducible refine (mayedit_any l x s Aa na ca ts Ar nr cr zs _ hT1 hZ1).mono ?_); rintro e w2 ⟨rfl, hb2⟩; rw [HM.out]; have hJ2 := hJ1.below hb2; have hT2 := hT1.below hb2; have hZ2 := hZ1.below hb2; have kb0 := box_at hJ2.1 0 (.int .i64 l) rfl; have kb1 := box_at hJ2.1 1 (.int .i64 x) rfl; have kb2 := box_at hJ2.1 2 (.int .i64 s) rfl; have kb3 := box_at hJ2.1 3 (.slice Aa na ca) rfl; have kb4 := box_at hJ2.1 4 (.slice Ar nr cr) rfl)
      | (go_at_call 11; (with_reducible refine (encode_any l x s Aa na ca ts Ar nr cr zs _ hT2 hZ2).mono ?_); rintro e w3 ⟨v3, rfl, hown3, hb3⟩; rw [HM.out]; simp only [if_true]; rw [HX.out] at hown3; obtain ⟨A3, c3, rfl, hr3, hc3⟩ := hown3.openN N HN.out; obtain ⟨c4, hcut, hcr4, hc4⟩ := HCUT.out A3 c3 hc3; have hJ3 := hJ2.below hb3; have hT3 := hT2.below hb3; have hZ3 := hZ2.below hb3)
      | (go_at_call 15; (with_reducible refine (decode_any A3 N c3 X _ hr3 hc3 (by omega)).mono ?_); rintro e w4 ⟨v4, rfl, hC4, hb4⟩; obtain ⟨A5, c5, B5, d5, rfl, hO4, hI4⟩ := hC4.get HD.out d1 d3 d5 HLA.out HLR.out; rw [HD.out]; have hY := below_then hb4 (below_alloc' (Below.refl _ _) (.cells #[.int .i64 l, .int .i64 x, .int .i64 s, .slice A5 na c5, .slice B5 nr d5] 30)); have hJ5 := hJ3.below hY; have hT5 := hT3.below hY; have hZ5 := hZ3.below hY; have kc0 := box_at hJ5.1 0 (.int .i64 l) rfl; have kc1 := box_at hJ5.1 1 (.int .i64 x) rfl; have kc2 := box_at hJ5.1 2 (.int .i64 s) rfl; have kc3 := box_at hJ5.1 3 (.slice Aa na ca) rfl; have kc4 := box_at hJ5.1 4 (.slice Ar nr cr) rfl; have hO5 := hO4.below (below_alloc' (Below.refl _ _) (.cells #[.int .i64 l, .int .i64 x, .int .i64 s, .slice A5 na c5, .slice B5 nr d5] 30)); have hI5 := hI4.below (below_alloc' (Below.refl _ _) (.cells #[.int .i64 l, .int .i64 x, .int .i64 s, .slice A5 na c5, .slice B5 nr d5] 30)); have hr4 := hr3.below hY)
      | (go_at_call 16; (with_reducible refine (sameedit_any l x s A5 c5 Aa ca na ts B5 d5 Ar cr nr zs _ hO5 hT5 hI5 hZ5).mono ?_); rintro e w5 ⟨rfl, hb5⟩; have hr5 := hr4.below hb5; have hr6 := hcr4 _ _ hr5; have hBB5 := (hJ5.below hb5).2)
      | (go_at_call 15; (with_reducible refine (decode_any A3 p c4 (X.take p) _ hr6 hc4 (by omega)).mono ?_); rintro e w6 ⟨v6, rfl, hC6, hb6⟩; obtain ⟨p1, p2, p3, A6, n6, c6, B6, m6, d6, rfl⟩ := hC6.1; rw [HC.out]; have hr7 := (hr5.below hb6).alloc (.cells #[.int .i64 p1, .int .i64 p2, .int .i64 p3, .slice A6 n6 c6, .slice B6 m6 d6] 30); have hBB6 := below_alloc' (below_then hBB5 hb6) (.cells #[.int .i64 p1, .int .i64 p2, .int .i64 p3, .slice A6 n6 c6, .slice B6 m6 d6] 30); have hm6 := HR.out.below hBB6)
      | (at_builtin; refine wpB_append w _ w.heap.size rfl (.tmp 73) (.tmp 74) rfl v7 X rfl hown7 A' m c' more rfl hm7 (by rw [HN.out, hml]; omega) hB7 hB7.size ?_; intro v8 w8 hown8 hB8 hg8 _; obtain ⟨A8, c8, rfl, hr8, hc8⟩ := hown8.openN (N + m) (by rw [List.length_append, HN.out, hml]))
      | (at_builtin; go_loud (refine wpB_append w _ w.heap.size rfl (.tmp 71) (.tmp 72) rfl _ [] rfl (OB.empty' _ _ _ (by simp) hBB6.size) A3 N c3 X rfl (hr7.alloc _) (by rw [HN.out]; simp; omega) (below_alloc' hBB6 _) (below_alloc' hBB6 _).size ?_); intro v7 w7 hown7 hB7 hg7 _; rw [List.nil_append] at hown7; have hm7 := HR.out.below hB7)
      | (go_at_call 15; (with_reducible refine (decode_any A8 (N + m) c8 (X ++ more) _ hr8 hc8 (by omega)).mono ?_); rintro e w9 ⟨v9, rfl, hC9, hb9⟩; obtain ⟨r1, r2, r3, A9, n9, c9, B9, m9, d9, rfl⟩ := hC9.1; rw [q2e.out]; have hb9 := below_alloc' (below_then hB8 hb9) (.cells #[.int .i64 r1, .int .i64 r2, .int .i64 r3, .slice A9 n9 c9, .slice B9 m9 d9] 30)))
    · go_ret
      exact ⟨rfl, (hJ1.below hbz).2⟩
    · go_ret
      exact ⟨rfl, below_then hb9 hbz⟩
  | false =>
    have HM := hid hM
    clear hM hla hlr
    go_enter Try.func6, Try.ntmps6
    go_wp2_with (first
      | (go_at_call 10; (with_reducible refine (light_any l x s Aa na ca ts Ar nr cr zs _ HT1.out HZ1.out).mono ?_); rintro e w1 ⟨⟨b, rfl⟩, hbx⟩; have hJ1 := HJ.out.below hbx; have hT1 := HT1.out.below hbx; have hZ1 := HZ1.out.below hbx; have ka0 := box_at hJ1.1 0 (.int .i64 l) rfl; have ka1 := box_at hJ1.1 1 (.int .i64 x) rfl; have ka2 := box_at hJ1.1 2 (.int .i64 s) rfl; have ka3 := box_at hJ1.1 3 (.slice Aa na ca) rfl; have ka4 := box_at hJ1.1 4 (.slice Ar nr cr) rfl; cases b)
      | (go_at_call 9; (with_reducible refine (awake_any _).mono ?_); rintro e w3 ⟨rfl, hbz⟩)
      | (go_at_call 13; (with_reducible refine (mayedit_any l x s Aa na ca ts Ar nr cr zs _ hT1 hZ1).mono ?_); rintro e w2 ⟨rfl, hb2⟩; rw [HM.out]; have hJ1 := hJ1.below hb2))
    all_goals
      go_ret
      exact ⟨rfl, (hJ1.below hbz).2⟩
end Go.Proofs.Ythiolcccgiibhaa
