/- Layer 6: rows alike; any record behind any bytes; any bytes as records: the walks. -/
import Derived.Test.YtkcdjmipmpeedaaFrA
namespace Go.Proofs.Ytkcdjmipmpeedaa
open Go.RowKit
set_option linter.unusedVariables false
set_option linter.unusedSimpArgs false

def sameB (xss yss : List (List UInt8)) : Bool := decide (xss = yss)
theorem rows_ext {xss yss : List (List UInt8)} (hl : xss.length = yss.length) (h : ∀ j, j < xss.length → elt [] xss j = elt [] yss j) : xss = yss := by
  apply List.ext_getElem hl
  intro i h1 h2
  have := h i h1
  rwa [elt_get [] h1, elt_get [] h2] at this
theorem ba_loop (bs : ByteArray) : ∀ (n i : Nat) (r : List UInt8), bs.size - i = n → ByteArray.toList.loop bs i r = r.reverse ++ bs.data.toList.drop i := by
  intro n
  induction n with
  | zero =>
    intro i r h
    unfold ByteArray.toList.loop
    rw [if_neg (by omega), List.drop_eq_nil_of_le (by rw [Array.length_toList]; exact Nat.le_of_sub_eq_zero h), List.append_nil]
  | succ n ih =>
    intro i r h
    have hi : i < bs.size := by omega
    have hi2 : i < bs.data.toList.length := by rw [Array.length_toList]; exact hi
    unfold ByteArray.toList.loop
    rw [if_pos hi, ih (i + 1) _ (by omega), List.drop_eq_getElem_cons hi2]
    have e : bs.get! i = bs.data.toList[i] := by
      show bs.data[i]! = _
      rw [getElem!_pos bs.data i hi]
      simp
    rw [e]
    simp
theorem ba_toList (bs : ByteArray) : bs.toList = bs.data.toList := by
  unfold ByteArray.toList
  rw [ba_loop bs _ 0 [] rfl]
  simp
theorem bstr_ne {a b : List UInt8} (h : a ≠ b) : ((bstr a).toList == (bstr b).toList) = false := by
  rw [beq_eq_false_iff_ne, ba_toList, ba_toList]
  intro e
  exact h (by simpa [bstr] using e)
set_option maxHeartbeats 8000000 in
theorem same_any (A : Option Addr) (n c : Nat) (xss : List (List UInt8)) (A' : Option Addr) (m c' : Nat) (yss : List (List UInt8)) (w : World) (h : RBs w A n xss) (h' : RBs w A' m yss) :
    Calls Try.prog 15 #[.slice A n c, .slice A' m c'] w fun e w' => e = .returned (.bool (sameB xss yss)) ∧ Below w.heap.size w w' := by
  have hl := h.1
  have hl' := h'.1
  have hm := h.2.1
  have hm' := h'.2.1
  obtain ⟨B, hB⟩ : ∃ B, B = sameB xss yss := ⟨_, rfl⟩
  rw [← hB]
  have HB := hid hB
  have HL := hid hl
  have HL' := hid hl'
  have H := hid h
  have H' := hid h'
  clear hB hl hl' h h'
  by_cases hnm : n = m
  · subst hnm
    go_enter Try.func15, Try.ntmps15
    go_wp2
    go_loopw [13] (fun i wr => ∃ k : Nat, k ≤ n ∧ i = .int .i64 k ∧ (∀ j, j < k → elt [] xss j = elt [] yss j) ∧ Below w.heap.size w wr) (fun i wr => n - (intOf i).toNat)
    case atStart => exact ⟨0, Nat.zero_le _, rfl, fun j hj => absurd hj (by omega), Below.refl _ _⟩
    case round =>
      obtain ⟨k, hk, rfl, hall, hBr⟩ := hrel
      have HA := hid hall
      clear hall
      by_cases hlt : k < n
      · obtain ⟨ad1, rfl, A1, n1, c1, hcell1, hrb1, hle1⟩ := H.out.at_ hlt
        obtain ⟨ad2, rfl, A2, n2, c2, hcell2, hrb2, hle2⟩ := H'.out.at_ hlt
        have hcl1 := below_cell hBr hcell1
        have hcl2 := below_cell hBr hcell2
        have hrq1 := hrb1.below hBr
        have hrq2 := hrb2.below hBr
        have hk1 : (k : Int) < (n : Int) := by omega
        have hk0 : (0 : Int) ≤ (k : Int) := by omega
        clear hcell1 hcell2 hrb1 hrb2
        by_cases heq : elt [] xss k = elt [] yss k
        · rw [← heq] at hrq2
          have HE := hid heq
          clear heq
          go_wp2
          apply wp_region_txt [none, none, none, none, none, none, none, none, none, none, none, none, none, none, none, none, some 0, some 1, some 2, some 3, some 4, some 5, some 6, some 7, some 8, some 9, some 10, none] [] [] [_, _, _, _, _, _, _, _, _, _, _] [[], [], [], [], [], [], [], [], [], [], []]
          case hm => rfl
          case hs => rfl
          case hst => kernel_rfl
          case hput => exact OpsOK.cons (fun _ _ => rfl) (OpsOK.cons (fun _ _ => rfl) (OpsOK.cons (fun _ _ => rfl) (OpsOK.cons (fun _ _ => rfl) (OpsOK.cons (fun _ _ => rfl) (OpsOK.cons (fun _ _ => rfl) (OpsOK.cons (fun _ _ => rfl) (OpsOK.cons (fun _ _ => rfl) (OpsOK.cons (fun _ _ => rfl) (OpsOK.cons (fun _ _ => rfl) (OpsOK.cons (fun _ _ => rfl) (OpsOK.nil)))))))))))
          case hops =>
            refine OpsOK.cons ?_ ?_
            · intro u W K hB hd hK
              replace hK := hk_val hK (by decide) (by rfl)
              clear hd
              simp only [lay, Act.put, List.setIfInBounds_toArray, List.set_cons_zero, List.set_cons_succ] at hK ⊢
              go_simp
              exact hK.out _ _ rfl (Below.refl _ _)
            refine OpsOK.cons ?_ ?_
            · intro u W K hB hd hK
              replace hK := hk_val hK (by decide) (by rfl)
              clear hd
              simp only [lay, Act.put, List.setIfInBounds_toArray, List.set_cons_zero, List.set_cons_succ] at hK ⊢
              go_simp
              exact hK.out _ _ rfl (Below.refl _ _)
            refine OpsOK.cons ?_ ?_
            · intro u W K hB hd hK
              have h0 := fact_val (dep_of hd 0 (by kernel_rfl) (by kernel_rfl)) (by decide)
              dsimp only [nth] at h0
              have h1 := fact_val (dep_of hd 1 (by kernel_rfl) (by kernel_rfl)) (by decide)
              dsimp only [nth] at h1
              replace hK := hk_val hK (by decide) (by rfl)
              clear hd
              simp only [lay, Act.put, List.setIfInBounds_toArray, List.set_cons_zero, List.set_cons_succ, h0, h1] at hK ⊢
              go_simp
              exact hK.out _ _ rfl (Below.refl _ _)
            refine OpsOK.cons ?_ ?_
            · intro u W K hB hd hK
              have h2 := fact_val (dep_of hd 2 (by kernel_rfl) (by kernel_rfl)) (by decide)
              dsimp only [nth] at h2
              replace hK := hk_val hK (by decide) (by rfl)
              clear hd
              simp only [lay, Act.put, List.setIfInBounds_toArray, List.set_cons_zero, List.set_cons_succ, h2] at hK ⊢
              have hcz := below_cell hB hcl1
              go_simp
              exact hK.out _ _ rfl (Below.refl _ _)
            refine OpsOK.cons ?_ ?_
            · intro u W K hB hd hK
              have h3 := fact_val (dep_of hd 3 (by kernel_rfl) (by kernel_rfl)) (by decide)
              dsimp only [nth] at h3
              replace hK := hk_val hK (by decide) (by rfl)
              clear hd
              simp only [lay, Act.put, List.setIfInBounds_toArray, List.set_cons_zero, List.set_cons_succ, h3] at hK ⊢
              have hcv := RB.conv (hrq1.below hB) c1
              go_simp
              exact hK.out _ _ rfl (Below.refl _ _)
            refine OpsOK.cons ?_ ?_
            · intro u W K hB hd hK
              replace hK := hk_val hK (by decide) (by rfl)
              clear hd
              simp only [lay, Act.put, List.setIfInBounds_toArray, List.set_cons_zero, List.set_cons_succ] at hK ⊢
              go_simp
              exact hK.out _ _ rfl (Below.refl _ _)
            refine OpsOK.cons ?_ ?_
            · intro u W K hB hd hK
              replace hK := hk_val hK (by decide) (by rfl)
              clear hd
              simp only [lay, Act.put, List.setIfInBounds_toArray, List.set_cons_zero, List.set_cons_succ] at hK ⊢
              go_simp
              exact hK.out _ _ rfl (Below.refl _ _)
            refine OpsOK.cons ?_ ?_
            · intro u W K hB hd hK
              have h5 := fact_val (dep_of hd 5 (by kernel_rfl) (by kernel_rfl)) (by decide)
              dsimp only [nth] at h5
              have h6 := fact_val (dep_of hd 6 (by kernel_rfl) (by kernel_rfl)) (by decide)
              dsimp only [nth] at h6
              replace hK := hk_val hK (by decide) (by rfl)
              clear hd
              simp only [lay, Act.put, List.setIfInBounds_toArray, List.set_cons_zero, List.set_cons_succ, h5, h6] at hK ⊢
              go_simp
              exact hK.out _ _ rfl (Below.refl _ _)
            refine OpsOK.cons ?_ ?_
            · intro u W K hB hd hK
              have h7 := fact_val (dep_of hd 7 (by kernel_rfl) (by kernel_rfl)) (by decide)
              dsimp only [nth] at h7
              replace hK := hk_val hK (by decide) (by rfl)
              clear hd
              simp only [lay, Act.put, List.setIfInBounds_toArray, List.set_cons_zero, List.set_cons_succ, h7] at hK ⊢
              have hcz := below_cell hB hcl2
              go_simp
              exact hK.out _ _ rfl (Below.refl _ _)
            refine OpsOK.cons ?_ ?_
            · intro u W K hB hd hK
              have h8 := fact_val (dep_of hd 8 (by kernel_rfl) (by kernel_rfl)) (by decide)
              dsimp only [nth] at h8
              replace hK := hk_val hK (by decide) (by rfl)
              clear hd
              simp only [lay, Act.put, List.setIfInBounds_toArray, List.set_cons_zero, List.set_cons_succ, h8] at hK ⊢
              have hcv := RB.conv (hrq2.below hB) c2
              go_simp
              exact hK.out _ _ rfl (Below.refl _ _)
            refine OpsOK.cons ?_ ?_
            · intro u W K hB hd hK
              have h4 := fact_val (dep_of hd 4 (by kernel_rfl) (by kernel_rfl)) (by decide)
              dsimp only [nth] at h4
              have h9 := fact_val (dep_of hd 9 (by kernel_rfl) (by kernel_rfl)) (by decide)
              dsimp only [nth] at h9
              replace hK := hk_val hK (by decide) (by rfl)
              clear hd
              simp only [lay, Act.put, List.setIfInBounds_toArray, List.set_cons_zero, List.set_cons_succ, h4, h9] at hK ⊢
              go_simp
              exact hK.out _ _ rfl (Below.refl _ _)
            exact OpsOK.nil
          intro u W hB hf
          have h0 := fact_val (hf 0 (by decide) (by decide)) (by decide)
          dsimp only [nth] at h0
          have h1 := fact_val (hf 1 (by decide) (by decide)) (by decide)
          dsimp only [nth] at h1
          have h2 := fact_val (hf 2 (by decide) (by decide)) (by decide)
          dsimp only [nth] at h2
          have h3 := fact_val (hf 3 (by decide) (by decide)) (by decide)
          dsimp only [nth] at h3
          have h4 := fact_val (hf 4 (by decide) (by decide)) (by decide)
          dsimp only [nth] at h4
          have h5 := fact_val (hf 5 (by decide) (by decide)) (by decide)
          dsimp only [nth] at h5
          have h6 := fact_val (hf 6 (by decide) (by decide)) (by decide)
          dsimp only [nth] at h6
          have h7 := fact_val (hf 7 (by decide) (by decide)) (by decide)
          dsimp only [nth] at h7
          have h8 := fact_val (hf 8 (by decide) (by decide)) (by decide)
          dsimp only [nth] at h8
          have h9 := fact_val (hf 9 (by decide) (by decide)) (by decide)
          dsimp only [nth] at h9
          have h10 := fact_val (hf 10 (by decide) (by decide)) (by decide)
          dsimp only [nth] at h10
          clear hf
          simp only [lay, h0, h1, h2, h3, h4, h5, h6, h7, h8, h9, h10]
          clear h0 h1 h2 h3 h4 h5 h6 h7 h8 h9 h10
          go_wp2
          go_roundw
          case rel =>
            refine ⟨k + 1, by omega, by go_num, fun j hj => ?_, below_then hBr hB⟩
            by_cases hjk : j < k
            · exact HA.out j hjk
            · obtain rfl : j = k := by omega
              exact HE.out
          case measure => simp [intOf]; omega
        · have hBt : B = false := by
            rw [HB.out]
            unfold sameB
            simp only [decide_eq_false_iff_not]
            intro e
            exact heq (by rw [e])
          subst hBt
          have hne := bstr_ne heq
          clear heq
          go_wp2
          apply wp_region_txt [none, none, none, none, none, none, none, none, none, none, none, none, none, none, none, none, some 0, some 1, some 2, some 3, some 4, some 5, some 6, some 7, some 8, some 9, some 10, none] [] [] [_, _, _, _, _, _, _, _, _, _, _] [[], [], [], [], [], [], [], [], [], [], []]
          case hm => rfl
          case hs => rfl
          case hst => kernel_rfl
          case hput => exact OpsOK.cons (fun _ _ => rfl) (OpsOK.cons (fun _ _ => rfl) (OpsOK.cons (fun _ _ => rfl) (OpsOK.cons (fun _ _ => rfl) (OpsOK.cons (fun _ _ => rfl) (OpsOK.cons (fun _ _ => rfl) (OpsOK.cons (fun _ _ => rfl) (OpsOK.cons (fun _ _ => rfl) (OpsOK.cons (fun _ _ => rfl) (OpsOK.cons (fun _ _ => rfl) (OpsOK.cons (fun _ _ => rfl) (OpsOK.nil)))))))))))
          case hops =>
            refine OpsOK.cons ?_ ?_
            · intro u W K hB hd hK
              replace hK := hk_val hK (by decide) (by rfl)
              clear hd
              simp only [lay, Act.put, List.setIfInBounds_toArray, List.set_cons_zero, List.set_cons_succ] at hK ⊢
              go_simp
              exact hK.out _ _ rfl (Below.refl _ _)
            refine OpsOK.cons ?_ ?_
            · intro u W K hB hd hK
              replace hK := hk_val hK (by decide) (by rfl)
              clear hd
              simp only [lay, Act.put, List.setIfInBounds_toArray, List.set_cons_zero, List.set_cons_succ] at hK ⊢
              go_simp
              exact hK.out _ _ rfl (Below.refl _ _)
            refine OpsOK.cons ?_ ?_
            · intro u W K hB hd hK
              have h0 := fact_val (dep_of hd 0 (by kernel_rfl) (by kernel_rfl)) (by decide)
              dsimp only [nth] at h0
              have h1 := fact_val (dep_of hd 1 (by kernel_rfl) (by kernel_rfl)) (by decide)
              dsimp only [nth] at h1
              replace hK := hk_val hK (by decide) (by rfl)
              clear hd
              simp only [lay, Act.put, List.setIfInBounds_toArray, List.set_cons_zero, List.set_cons_succ, h0, h1] at hK ⊢
              go_simp
              exact hK.out _ _ rfl (Below.refl _ _)
            refine OpsOK.cons ?_ ?_
            · intro u W K hB hd hK
              have h2 := fact_val (dep_of hd 2 (by kernel_rfl) (by kernel_rfl)) (by decide)
              dsimp only [nth] at h2
              replace hK := hk_val hK (by decide) (by rfl)
              clear hd
              simp only [lay, Act.put, List.setIfInBounds_toArray, List.set_cons_zero, List.set_cons_succ, h2] at hK ⊢
              have hcz := below_cell hB hcl1
              go_simp
              exact hK.out _ _ rfl (Below.refl _ _)
            refine OpsOK.cons ?_ ?_
            · intro u W K hB hd hK
              have h3 := fact_val (dep_of hd 3 (by kernel_rfl) (by kernel_rfl)) (by decide)
              dsimp only [nth] at h3
              replace hK := hk_val hK (by decide) (by rfl)
              clear hd
              simp only [lay, Act.put, List.setIfInBounds_toArray, List.set_cons_zero, List.set_cons_succ, h3] at hK ⊢
              have hcv := RB.conv (hrq1.below hB) c1
              go_simp
              exact hK.out _ _ rfl (Below.refl _ _)
            refine OpsOK.cons ?_ ?_
            · intro u W K hB hd hK
              replace hK := hk_val hK (by decide) (by rfl)
              clear hd
              simp only [lay, Act.put, List.setIfInBounds_toArray, List.set_cons_zero, List.set_cons_succ] at hK ⊢
              go_simp
              exact hK.out _ _ rfl (Below.refl _ _)
            refine OpsOK.cons ?_ ?_
            · intro u W K hB hd hK
              replace hK := hk_val hK (by decide) (by rfl)
              clear hd
              simp only [lay, Act.put, List.setIfInBounds_toArray, List.set_cons_zero, List.set_cons_succ] at hK ⊢
              go_simp
              exact hK.out _ _ rfl (Below.refl _ _)
            refine OpsOK.cons ?_ ?_
            · intro u W K hB hd hK
              have h5 := fact_val (dep_of hd 5 (by kernel_rfl) (by kernel_rfl)) (by decide)
              dsimp only [nth] at h5
              have h6 := fact_val (dep_of hd 6 (by kernel_rfl) (by kernel_rfl)) (by decide)
              dsimp only [nth] at h6
              replace hK := hk_val hK (by decide) (by rfl)
              clear hd
              simp only [lay, Act.put, List.setIfInBounds_toArray, List.set_cons_zero, List.set_cons_succ, h5, h6] at hK ⊢
              go_simp
              exact hK.out _ _ rfl (Below.refl _ _)
            refine OpsOK.cons ?_ ?_
            · intro u W K hB hd hK
              have h7 := fact_val (dep_of hd 7 (by kernel_rfl) (by kernel_rfl)) (by decide)
              dsimp only [nth] at h7
              replace hK := hk_val hK (by decide) (by rfl)
              clear hd
              simp only [lay, Act.put, List.setIfInBounds_toArray, List.set_cons_zero, List.set_cons_succ, h7] at hK ⊢
              have hcz := below_cell hB hcl2
              go_simp
              exact hK.out _ _ rfl (Below.refl _ _)
            refine OpsOK.cons ?_ ?_
            · intro u W K hB hd hK
              have h8 := fact_val (dep_of hd 8 (by kernel_rfl) (by kernel_rfl)) (by decide)
              dsimp only [nth] at h8
              replace hK := hk_val hK (by decide) (by rfl)
              clear hd
              simp only [lay, Act.put, List.setIfInBounds_toArray, List.set_cons_zero, List.set_cons_succ, h8] at hK ⊢
              have hcv := RB.conv (hrq2.below hB) c2
              go_simp
              exact hK.out _ _ rfl (Below.refl _ _)
            refine OpsOK.cons ?_ ?_
            · intro u W K hB hd hK
              have h4 := fact_val (dep_of hd 4 (by kernel_rfl) (by kernel_rfl)) (by decide)
              dsimp only [nth] at h4
              have h9 := fact_val (dep_of hd 9 (by kernel_rfl) (by kernel_rfl)) (by decide)
              dsimp only [nth] at h9
              replace hK := hk_val hK (by decide) (by rfl)
              clear hd
              simp only [lay, Act.put, List.setIfInBounds_toArray, List.set_cons_zero, List.set_cons_succ, h4, h9] at hK ⊢
              go_simp
              exact hK.out _ _ rfl (Below.refl _ _)
            exact OpsOK.nil
          intro u W hB hf
          have h0 := fact_val (hf 0 (by decide) (by decide)) (by decide)
          dsimp only [nth] at h0
          have h1 := fact_val (hf 1 (by decide) (by decide)) (by decide)
          dsimp only [nth] at h1
          have h2 := fact_val (hf 2 (by decide) (by decide)) (by decide)
          dsimp only [nth] at h2
          have h3 := fact_val (hf 3 (by decide) (by decide)) (by decide)
          dsimp only [nth] at h3
          have h4 := fact_val (hf 4 (by decide) (by decide)) (by decide)
          dsimp only [nth] at h4
          have h5 := fact_val (hf 5 (by decide) (by decide)) (by decide)
          dsimp only [nth] at h5
          have h6 := fact_val (hf 6 (by decide) (by decide)) (by decide)
          dsimp only [nth] at h6
          have h7 := fact_val (hf 7 (by decide) (by decide)) (by decide)
          dsimp only [nth] at h7
          have h8 := fact_val (hf 8 (by decide) (by decide)) (by decide)
          dsimp only [nth] at h8
          have h9 := fact_val (hf 9 (by decide) (by decide)) (by decide)
          dsimp only [nth] at h9
          have h10 := fact_val (hf 10 (by decide) (by decide)) (by decide)
          dsimp only [nth] at h10
          clear hf
          simp only [lay, h0, h1, h2, h3, h4, h5, h6, h7, h8, h9, h10]
          clear h0 h1 h2 h3 h4 h5 h6 h7 h8 h9 h10
          go_wp2
          go_ret
          exact ⟨rfl, below_then hBr hB⟩
      · obtain rfl : k = n := by omega
        have hBt : B = true := by
          rw [HB.out]
          unfold sameB
          rw [decide_eq_true_eq]
          exact rows_ext (by rw [HL.out, HL'.out]) (fun j hj => HA.out j (by rw [← HL.out]; exact hj))
        subst hBt
        go_wp2
        go_ret
        exact ⟨rfl, hBr⟩
  · have hBt : B = false := by
      rw [HB.out]
      unfold sameB
      simp only [decide_eq_false_iff_not]
      intro e
      exact hnm (by rw [← HL.out, ← HL'.out, e])
    subst hBt
    have hnmi : ((n : Int) == (m : Int)) = false := by rw [beq_eq_false_iff_ne]; omega
    clear hnm
    go_enter Try.func15, Try.ntmps15
    go_wp2
    go_ret
    exact ⟨rfl, Below.refl _ _⟩
set_option maxHeartbeats 8000000 in
theorem FramePuts_walk (A : Option Addr) (n c : Nat) (xs : List UInt8) (A' : Option Addr) (m c' : Nat) (rs : List UInt8) (w : World) (h : RB w A n xs) (hc : n ≤ c) (hsz : n ≤ 1048576) (h' : RB w A' m rs) (hc' : m ≤ c') (hsz' : m ≤ 1048576) :
    Calls Try.prog 3 #[.slice A n c, .slice A' m c'] w fun e w' => e = .returned (.bool true) ∧ Below w.heap.size w w' := by
  have hl := h.1
  have HL := hid hl
  clear hl
  obtain ⟨FB, hFB⟩ : ∃ F, F = fputB xs rs := ⟨_, rfl⟩
  have HFB := hid hFB
  clear hFB
  go_enter Try.func3, Try.ntmps3
  go_wp2_with (first
    | (go_at_call 8; (with_reducible refine (fput_any A n c xs A' m c' rs _ h h' (by omega)).mono ?_); rintro e w1 ⟨v1, rfl, hown1, hb1⟩; rw [← HFB.out] at hown1)
    | (at_builtin; refine wpB_append w1 _ w1.heap.size rfl (.tmp 16) (.tmp 17) rfl _ [] rfl (OB.empty _ _ (Nat.le_refl _)) A n c xs rfl ((h.below hb1).alloc _) (by rw [HL.out]; simp; omega) (below_alloc' (Below.refl _ _) _) (below_alloc' (Below.refl _ _) _).size ?_; intro v2 w2 hown2 hb2 _ _; rw [List.nil_append] at hown2)
    | (go_at_call 9; (with_reducible refine (reffput_any v2 w1.heap.size xs A' m c' rs _ hown2 hb2.size (h'.below (below_then hb1 hb2)) (by rw [HL.out]; omega)).mono ?_); rintro e w3 ⟨v3, rfl, hown3, hgr3⟩; rw [← HFB.out] at hown3; have hb3 := hb2.grown hgr3 hb2.size (OB.base_ hown2); have hcv1 := OB.conv (hown1.below hb3); have hcv3 := OB.conv hown3)
    | (go_at_call 10; (with_reducible refine (awake_any _).mono ?_); rintro e w4 ⟨rfl, hb4⟩))
  go_ret
  exact ⟨rfl, below_then (below_then hb1 hb3) hb4⟩
end Go.Proofs.Ytkcdjmipmpeedaa
