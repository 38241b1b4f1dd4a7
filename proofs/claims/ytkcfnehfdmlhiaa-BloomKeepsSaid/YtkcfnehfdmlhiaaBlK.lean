/- Layer 10: what was put in is never missed: the walk of the statement. -/
import Derived.Test.YtkcfnehfdmlhiaaBlN
import Derived.Test.YtkcfnehfdmlhiaaOS
namespace Go.Proofs.Ytkcfnehfdmlhiaa
open Go.RowKit
set_option linter.unusedVariables false
set_option linter.unusedSimpArgs false

def backV (V : List Value) (n k : Nat) : List Value := (List.range k).map fun i => elt undef V (n - 1 - i)
def backX (xss : List (List UInt8)) (k : Nat) : List (List UInt8) := (List.range k).map fun i => elt [] xss (xss.length - 1 - i)
theorem backV_next (V : List Value) (n k : Nat) : backV V n (k + 1) = backV V n k ++ [elt undef V (n - 1 - k)] := by
  unfold backV
  rw [List.range_succ, List.map_append]
  rfl
theorem backV_len (V : List Value) (n k : Nat) : (backV V n k).length = k := by simp [backV]
theorem backV_at {V : List Value} {n k i : Nat} (hi : i < k) : elt undef (backV V n k) i = elt undef V (n - 1 - i) := by
  unfold backV
  conv => lhs; unfold elt
  simp [hi]
  rfl
theorem backX_at {xss : List (List UInt8)} {k i : Nat} (hi : i < k) : elt [] (backX xss k) i = elt [] xss (xss.length - 1 - i) := by
  unfold backX
  conv => lhs; unfold elt
  simp [hi]
  rfl
theorem RBW.back {w : World} {V : List Value} {xss : List (List UInt8)} (h : RBW w V xss) : RBW w (backV V V.length V.length) (backX xss xss.length) := by
  refine ⟨by simp [backV, backX, h.1], fun j hj => ?_⟩
  rw [backV_len] at hj
  obtain ⟨A, n, c, e, h1, h2⟩ := h.2 (V.length - 1 - j) (by omega)
  refine ⟨A, n, c, by rw [backV_at hj]; exact e, ?_, h2⟩
  rw [backX_at (by rw [← h.1]; exact hj), ← h.1]
  exact h1
theorem filterB_back (xss : List (List UInt8)) : filterB (backX xss xss.length) = filterB xss := by
  have hl : (backX xss xss.length).length = xss.length := by simp [backX]
  refine filterB_same hl (fun i hi => ?_) (fun i hi => ?_)
  · rw [hl] at hi ⊢
    exact ⟨xss.length - 1 - i, by omega, by rw [backX_at hi]⟩
  · rw [hl] at hi ⊢
    exact ⟨xss.length - 1 - i, by omega, by rw [backX_at (by omega)]; congr 1; omega⟩

set_option maxHeartbeats 16000000 in
set_option maxRecDepth 100000 in
theorem BloomKeeps_walk (A : Option Addr) (n c : Nat) (xss : List (List UInt8)) (A' : Option Addr) (m c' : Nat) (yss : List (List UInt8)) (w : World) (h : RBs w A n xss) (hc : n ≤ c) (h' : RBs w A' m yss) (hc' : m ≤ c') :
    Calls Try.prog 7 #[.slice A n c, .slice A' m c'] w fun e w' => e = .returned (.bool true) ∧ Below w.heap.size w w' := by
  by_cases hf : Few n xss
  · by_cases hf2 : Few m yss
    · have HF := hid hf
      have HF2 := hid hf2
      have hn : n ≤ 200 := hf.1
      have hm : m ≤ 200 := hf2.1
      obtain ⟨V, hVl, hVw, hVr⟩ := h.vals
      obtain ⟨V2, hVl2, hVw2, hVr2⟩ := h'.vals
      have hxl : xss.length = n := h.1
      have hyl : yss.length = m := h'.1
      obtain ⟨S, hS⟩ : ∃ S, (filterB xss).length = S := ⟨_, rfl⟩
      obtain ⟨S3, hS3⟩ : ∃ S, (filterB (xss ++ yss)).length = S := ⟨_, rfl⟩
      have hS8 : ¬ ((S : Int) < 8) := by
        have := sizeF_pos xss.length
        rw [← hS, filterB_len]
        omega
      have hS38 : ¬ ((S3 : Int) < (S : Int)) := by
        have := sizeF_mono (show xss.length ≤ (xss ++ yss).length by rw [List.length_append]; omega)
        rw [← hS, ← hS3, filterB_len, filterB_len]
        omega
      have hS38n : ¬ S3 < S := by omega
      have HS := hid hS
      have HS3 := hid hS3
      clear hS hS3
      have HVL := hid hVl
      have HVL2 := hid hVl2
      have HX := hid hxl
      have HY := hid hyl
      have H := hid h
      have H' := hid h'
      clear hf hf2 hVl hVl2 h h' hxl hyl
      go_enter Try.func7, Try.ntmps7
      go_wp2_with (first
        | (go_at_call 15; (with_reducible refine (few_any A n c xss _ H.out).mono ?_); rintro e w1 ⟨rfl, rfl⟩; rw [(fewB_iff n xss).2 HF.out])
        | (go_at_call 15; (with_reducible refine (few_any A' m c' yss _ H'.out).mono ?_); rintro e w1 ⟨rfl, rfl⟩; rw [(fewB_iff m yss).2 HF2.out])
        | (go_at_call 16; (with_reducible refine (build_any A n c xss _ H.out (by omega)).mono ?_); rintro e w2 ⟨va, rfl, howna, hba⟩; obtain ⟨Aa, ca, rfl, hra, hca⟩ := howna.openN S HS.out))
      clear howna
      go_loopw [7, 31] (fun b i wr => ∃ k : Nat, k ≤ n ∧ i = .int .i64 k ∧ OS wr w2.heap.size b (backV V n k) ∧ Below w2.heap.size w2 wr) (fun b i wr => n - (intOf i).toNat)
      case atStart => exact ⟨0, Nat.zero_le _, rfl, OS.nil _ _, Below.refl _ _⟩
      case round =>
        obtain ⟨k, hk, rfl, hown, hB⟩ := hrel
        by_cases hlt : k < n
        · obtain ⟨ad, rfl, hcs⟩ := hVr.2 (by omega)
          obtain ⟨Aj, nj, cj, hej, hrj, hlj⟩ := hVw.2 (n - 1 - k) (by rw [HVL.out]; omega)
          have hcell := below_cell (below_then hba hB) (hcs (n - 1 - k) (.slice Aj nj cj) (by rw [← hej]; unfold elt; have := HVL.out; simp [show n - 1 - k < V.length by omega]))
          have b0 : (0 : Int) ≤ (n : Int) - 1 - (k : Int) := by omega
          have b1 : (n : Int) - 1 - (k : Int) < (n : Int) := by omega
          have q1 : ((n : Int) - 1 - (k : Int)).toNat = n - 1 - k := by omega
          have HEJ := hid hej
          clear hej hcs
          go_wp2_with (at_builtin; refine wpS_append1 w2 wr w2.heap.size rfl (.tmp 34) (.tmp 43) rfl _ (backV V n k) rfl (by exact hown) Aj nj cj 1 _ rfl rfl (by rw [backV_len]; omega) hB hB.size ?_; intro v1 w1 hown1 hB1)
          go_roundw
          case rel => exact ⟨k + 1, by omega, by go_num, by rw [backV_next, HEJ.out]; exact hown1, hB1⟩
          case measure => simp [intOf]; omega
        · obtain rfl : k = n := by omega
          obtain ⟨A3, c3, rfl, hc3, hr3⟩ := hown.readsN k (backV_len _ _ _)
          have hBw := below_then hba hB
          have hbw : RBW wr (backV V k k) (backX xss xss.length) := by
            have := (hVw.below hBw).back
            rw [HVL.out] at this
            exact this
          have hRB := RBs_of_reads hr3 hbw (by omega)
          go_wp2_with (first
            | (go_at_call 16; (with_reducible refine (build_any A3 k c3 (backX xss xss.length) _ hRB (by omega)).mono ?_); rintro e w3 ⟨vb, rfl, hownb, hbb⟩; rw [filterB_back] at hownb; obtain ⟨Ab, cb, rfl, hrb, hcb⟩ := hownb.openN S HS.out; have hBw3 := below_then hBw hbb)
            | (at_builtin; refine wpS_append w3 _ w3.heap.size rfl (.tmp 52) (.tmp 53) rfl _ [] rfl (OS.empty _ _ (Nat.le_refl _)) A k c V rfl ((hVr.below hBw3).below (below_alloc' (Below.refl _ _) _)) (RBW.ones hVw) (by simp; omega) (below_alloc' (Below.refl _ _) _) (below_alloc' (Below.refl _ _) _).size ?_; intro v4 w4 hown4 hb4; rw [List.nil_append] at hown4)
            | (at_builtin; refine wpS_append w3 _ w3.heap.size rfl (.tmp 54) (.tmp 55) rfl _ V rfl (by exact hown4) A' m c' V2 rfl ((hVr2.below hBw3).below hb4) (RBW.ones hVw2) (by rw [HVL.out]; omega) hb4 hb4.size ?_; intro v5 w5 hown5 hb5; obtain ⟨A5, c5, rfl, hc5, hr5⟩ := hown5.readsN (k + m) (by rw [List.length_append, HVL.out, HVL2.out]); have hBw5 := below_then hBw3 hb5; have hRB5 := RBs_of_reads hr5 ((hVw.below hBw5).append (hVw2.below hBw5)) (by omega))
            | (go_at_call 16; (with_reducible refine (build_any A5 (k + m) c5 (xss ++ yss) _ hRB5 (by omega)).mono ?_); rintro e w6 ⟨vc, rfl, hownc, hbc⟩; obtain ⟨Ac, cc, rfl, hrc, hcc⟩ := hownc.openN S3 HS3.out; have hBw6 := below_then hBw5 hbc; have hra6 := hra.below (below_then (below_then (below_then hB hbb) hb5) hbc); have hrb6 := hrb.below (below_then hb5 hbc); have hcva := RB.conv hra6 ca; have hcvb := RB.conv hrb6 cb))
          clear hownb hown4 hown5 hownc hr5 hRB5 hRB hbw hr3 hown
          go_loopw [91] (fun i wr => ∃ j : Nat, j ≤ k ∧ i = .int .i64 j ∧ Below w6.heap.size w6 wr) (fun i wr => k - (intOf i).toNat)
          case atStart => exact ⟨0, Nat.zero_le _, rfl, Below.refl _ _⟩
          case round =>
            obtain ⟨j, hj, rfl, hBj⟩ := hrel
            by_cases hjt : j < k
            · obtain ⟨ad, rfl, Aj, nj, cj, hcell, hrj, hlj⟩ := H.out.at_ hjt
              have hBz := below_then hBw6 hBj
              have hcell2 := below_cell hBz hcell
              have e1 := hid (hasB_in (xss := xss) (k := elt [] xss j) (i := j) (by rw [HX.out]; exact hjt) rfl)
              have e2 := hid (hasB_in (xss := xss ++ yss) (k := elt [] xss j) (i := j) (by rw [List.length_append, HX.out]; omega) (elt_left _ _ _ (by rw [HX.out]; exact hjt)))
              go_wp2_with (first
                | (go_at_call 13; (with_reducible refine (has_any Aa S ca (filterB xss) Aj nj cj (elt [] xss j) _ (hra6.below hBj) (hrj.below hBz)).mono ?_); rintro e w7 ⟨rfl, hb7⟩; rw [e1.out]; have hBj2 := below_then hBj hb7; have hBz2 := below_then hBw6 hBj2)
                | (go_at_call 13; (with_reducible refine (has_any Ac S3 cc (filterB (xss ++ yss)) Aj nj cj (elt [] xss j) _ (hrc.below hBj2) (hrj.below hBz2)).mono ?_); rintro e w8 ⟨rfl, hb8⟩; rw [e2.out]))
              go_roundw
              case rel => exact ⟨j + 1, by omega, by go_num, below_then hBj2 hb8⟩
              case measure => simp [intOf]; omega
            · obtain rfl : j = k := by omega
              go_wp2_with (go_at_call 12; (with_reducible refine (awake_any _).mono ?_); rintro e w4 ⟨rfl, rfl⟩)
              go_ret
              exact ⟨rfl, below_then hBw6 hBj⟩
    · have HF := hid hf
      have HF2 := hid hf2
      clear hf hf2
      go_enter Try.func7, Try.ntmps7
      go_wp2_with (first
        | (go_at_call 15; (with_reducible refine (few_any A n c xss _ h).mono ?_); rintro e w1 ⟨rfl, rfl⟩; rw [(fewB_iff n xss).2 HF.out])
        | (go_at_call 15; (with_reducible refine (few_any A' m c' yss _ h').mono ?_); rintro e w1 ⟨rfl, rfl⟩; rw [fewB_no HF2.out])
        | (go_at_call 12; (with_reducible refine (awake_any _).mono ?_); rintro e w4 ⟨rfl, rfl⟩))
      go_ret
      exact ⟨rfl, Below.refl _ _⟩
  · have HF := hid hf
    clear hf
    go_enter Try.func7, Try.ntmps7
    go_wp2_with (first
      | (go_at_call 15; (with_reducible refine (few_any A n c xss _ h).mono ?_); rintro e w1 ⟨rfl, rfl⟩; rw [fewB_no HF.out])
      | (go_at_call 12; (with_reducible refine (awake_any _).mono ?_); rintro e w4 ⟨rfl, rfl⟩))
    go_ret
    exact ⟨rfl, Below.refl _ _⟩
end Go.Proofs.Ytkcfnehfdmlhiaa
