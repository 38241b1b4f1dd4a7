/- Layer 14: may an edit be: the reference's answer. -/
import Derived.Test.YthiolcccgiibhaaEdN
namespace Go.Proofs.Ythiolcccgiibhaa
open Go.RowKit
set_option linter.unusedVariables false
set_option linter.unusedSimpArgs false

theorem elemT : Try.prog.underlying 27 = some (.slice (Try.prog.elem 27)) := by kernel_rfl
theorem sizeT (w : World) : (sizeOf (Try.prog.elem 27)).run Try.prog w = .ok 5 w := by kernel_rfl
theorem elemZ : Try.prog.underlying 28 = some (.slice (Try.prog.elem 28)) := by kernel_rfl
theorem sizeZ (w : World) : (sizeOf (Try.prog.elem 28)).run Try.prog w = .ok 1 w := by kernel_rfl
theorem cutT_hi (A : Option Addr) {n c : Nat} (hc : n ≤ c) {hi : Nat} (h1 : hi ≤ n) (w : World) : (Instr.slice 27 (.slice A n c) none (some (.int .i64 (hi : Int))) none).run Try.prog w = .ok (.slice A hi c) w := by
  rw [run_slice_h (P := Try.prog) w 27 A n c elemT .i64 hi (by omega) (by omega), sizeT]
  cases A <;> simp [sliced, Result.andThen, Addr.add]
theorem cutZ_hi (A : Option Addr) {n c : Nat} (hc : n ≤ c) {hi : Nat} (h1 : hi ≤ n) (w : World) : (Instr.slice 28 (.slice A n c) none (some (.int .i64 (hi : Int))) none).run Try.prog w = .ok (.slice A hi c) w := by
  rw [run_slice_h (P := Try.prog) w 28 A n c elemZ .i64 hi (by omega) (by omega), sizeZ]
  cases A <;> simp [sliced, Result.andThen, Addr.add]
theorem numsT_mem (ts : List TabR) : ∀ k j, j < k → tNum (elt noTab ts j) ∈ numsT ts k := by
  intro k
  induction k with
  | zero => intro j hj; omega
  | succ k ih =>
    intro j hj
    rw [numsT, List.mem_append]
    by_cases e : j = k
    · subst e; exact .inr (by simp)
    · exact .inl (ih j (by omega))
theorem numsI_mem (zs : List Int) : ∀ k j, j < k → elt 0 zs j ∈ numsI zs k := by
  intro k
  induction k with
  | zero => intro j hj; omega
  | succ k ih =>
    intro j hj
    rw [numsI, List.mem_append]
    by_cases e : j = k
    · subst e; exact .inr (by simp)
    · exact .inl (ih j (by omega))
theorem numsT_not (ts : List TabR) (z : Int) : ∀ k, (∀ y, y < k → tNum (elt noTab ts y) ≠ z) → z ∉ numsT ts k := by
  intro k
  induction k with
  | zero => intro _ h; cases h
  | succ k ih =>
    intro h hm
    rw [numsT, List.mem_append, List.mem_singleton] at hm
    rcases hm with hm | hm
    · exact ih (fun y hy => h y (by omega)) hm
    · exact h k (by omega) hm.symm
theorem numsI_not (zs : List Int) (z : Int) : ∀ k, (∀ y, y < k → elt 0 zs y ≠ z) → z ∉ numsI zs k := by
  intro k
  induction k with
  | zero => intro _ h; cases h
  | succ k ih =>
    intro h hm
    rw [numsI, List.mem_append, List.mem_singleton] at hm
    rcases hm with hm | hm
    · exact ih (fun y hy => h y (by omega)) hm
    · exact h k (by omega) hm.symm
def pick3 (a b c : Int) (k : Nat) : Int := elt 0 [a, b, c] k
theorem run_index3 (a b c : Int) {k : Nat} (hk : k < 3) (w : World) : (Instr.index 44 (.agg #[.int .i64 a, .int .i64 b, .int .i64 c]) (.int .i64 (k : Int))).run Try.prog w = .ok (.int .i64 (pick3 a b c k)) w := by
  have hu := run_underlying Try.underlying44 w
  have hu2 := run_underlying Try.underlying2 w
  have hp : (#[Value.int .i64 a, .int .i64 b, .int .i64 c] : Array Value)[k]? = some (.int .i64 (pick3 a b c k)) := by
    have hkk : k = 0 ∨ k = 1 ∨ k = 2 := by omega
    rcases hkk with rfl | rfl | rfl <;> rfl
  unfold Instr.index
  simp [Sem.run_bind, asIntOf, hu, hk]
  unfold part
  simp [Sem.run_bind, isAgg, hu2, hp]
def MayJ (w wr : World) (l x s : Int) (Aa : Option Addr) (na ca : Nat) (Ar : Option Addr) (nr cr : Nat) : Prop :=
  wr.heap[w.heap.size]? = some (.cells #[.int .i64 l, .int .i64 x, .int .i64 s, .slice Aa na ca, .slice Ar nr cr] 30 (0, 0)) ∧ Below w.heap.size w wr
theorem MayJ.below {w wr w1 : World} {l x s : Int} {Aa : Option Addr} {na ca : Nat} {Ar : Option Addr} {nr cr : Nat} (h : MayJ w wr l x s Aa na ca Ar nr cr) (hb : Below wr.heap.size wr w1) : MayJ w w1 l x s Aa na ca Ar nr cr := ⟨blk_below hb h.1, below_then h.2 hb⟩
set_option maxHeartbeats 16000000 in
set_option maxRecDepth 100000 in
theorem refmayedit_any (l x s : Int) (Aa : Option Addr) (na ca : Nat) (ts : List TabR) (Ar : Option Addr) (nr cr : Nat) (zs : List Int) (w : World) (hT : RTabs w Aa na ts) (hca : na ≤ ca) (hZ : RN .i64 w Ar nr zs) (hcr : nr ≤ cr) :
    Calls Try.prog 14 #[.agg #[.int .i64 l, .int .i64 x, .int .i64 s, .slice Aa na ca, .slice Ar nr cr]] w fun e w' => e = .returned (.bool (mayEd l x s ts zs)) ∧ Below w.heap.size w w' := by
  have hla := hT.1
  have hlr := hZ.1
  have hma := hT.2.1
  have hmr := hZ.2.1
  have HT := hid hT
  have HZ := hid hZ
  have hJ : MayJ w (w.alloc (.cells #[.int .i64 l, .int .i64 x, .int .i64 s, .slice Aa na ca, .slice Ar nr cr] 30)) l x s Aa na ca Ar nr cr := ⟨heap_alloc_new w _, below_alloc' (Below.refl _ _) _⟩
  have HJ := hid hJ
  have HD : Hid (mayEd l x s ts zs = (headOK l x s na nr && (addOK ts na && remOK zs nr))) := by unfold Hid mayEd; rw [hla, hlr]
  have HH : Hid (headOK l x s na nr = decide (0 ≤ l ∧ l ≤ 4611686018427387904 ∧ 0 ≤ x ∧ x ≤ 4611686018427387904 ∧ 0 ≤ s ∧ s ≤ 4611686018427387904 ∧ na ≤ 200 ∧ nr ≤ 200)) := rfl
  clear hT hZ hJ hla hlr
  go_enter Try.func14, Try.ntmps14
  go_wp2
  go_loopw [20] (fun i wr => ∃ k : Nat, k ≤ 3 ∧ i = .int .i64 k ∧ (∀ j, j < k → 0 ≤ pick3 l x s j ∧ pick3 l x s j ≤ 4611686018427387904) ∧ MayJ w wr l x s Aa na ca Ar nr cr) (fun i wr => 3 - (intOf i).toNat)
  case atStart => exact ⟨0, Nat.zero_le _, rfl, fun j h => absurd h (by omega), HJ.out⟩
  case round =>
    obtain ⟨k, hk, rfl, hall, hM⟩ := hrel
    by_cases hlt : k < 3
    · have hix := run_index3 l x s hlt wr
      have hbad : ¬ (0 ≤ pick3 l x s k ∧ pick3 l x s k ≤ 4611686018427387904) → mayEd l x s ts zs = false := by
        intro h
        rw [HD.out, HH.out]
        have hkk : k = 0 ∨ k = 1 ∨ k = 2 := by omega
        have e : ¬ (0 ≤ l ∧ l ≤ 4611686018427387904 ∧ 0 ≤ x ∧ x ≤ 4611686018427387904 ∧ 0 ≤ s ∧ s ≤ 4611686018427387904 ∧ na ≤ 200 ∧ nr ≤ 200) := by
          intro h2
          apply h
          rcases hkk with rfl | rfl | rfl
          · exact ⟨h2.1, h2.2.1⟩
          · exact ⟨h2.2.2.1, h2.2.2.2.1⟩
          · exact ⟨h2.2.2.2.2.1, h2.2.2.2.2.2.1⟩
        rw [decide_eq_false e]
        rfl
      have HBAD := hid hbad
      have HALL := hid hall
      clear hbad hall
      obtain ⟨z, hz⟩ : ∃ z, pick3 l x s k = z := ⟨_, rfl⟩
      rw [hz] at hix
      have HZZ := hid hz
      clear hz
      by_cases b1 : z < 0
      · go_wp2
        go_ret
        exact ⟨by rw [HBAD.out (by rw [HZZ.out]; omega)]; rfl, hM.2⟩
      · by_cases b2 : 4611686018427387904 < z
        · go_wp2
          go_ret
          exact ⟨by rw [HBAD.out (by rw [HZZ.out]; omega)]; rfl, hM.2⟩
        · go_wp2
          go_roundw
          case rel =>
            refine ⟨k + 1, by omega, by go_num, fun j hj => ?_, hM⟩
            by_cases e : j = k
            · subst e; rw [HZZ.out]; omega
            · exact HALL.out j (by omega)
          case measure => simp [intOf]; omega
    · obtain rfl : k = 3 := by omega
      obtain ⟨d1, d2⟩ := hall 0 (by omega)
      obtain ⟨d3, d4⟩ := hall 1 (by omega)
      obtain ⟨d5, d6⟩ := hall 2 (by omega)
      have d1 : 0 ≤ l := d1
      have d2 : l ≤ 4611686018427387904 := d2
      have d3 : 0 ≤ x := d3
      have d4 : x ≤ 4611686018427387904 := d4
      have d5 : 0 ≤ s := d5
      have d6 : s ≤ 4611686018427387904 := d6
      clear hall
      have hq3 := box_at hM.1 3 (.slice Aa na ca) rfl
      have hq4 := box_at hM.1 4 (.slice Ar nr cr) rfl
      by_cases d7 : (200 : Int) < (na : Int)
      · go_wp2
        go_ret
        refine ⟨?_, hM.2⟩
        rw [HD.out, HH.out, decide_eq_false (by omega)]
        rfl
      · by_cases d8 : (200 : Int) < (nr : Int)
        · go_wp2
          go_ret
          refine ⟨?_, hM.2⟩
          rw [HD.out, HH.out, decide_eq_false (by omega)]
          rfl
        · have HR : Hid (mayEd l x s ts zs = (addOK ts na && remOK zs nr)) := by unfold Hid; rw [HD.out, HH.out, decide_eq_true (by omega)]; rfl
          clear HD HH
          go_wp2
          go_loopw [43] (fun i wr => ∃ k : Nat, k ≤ na ∧ i = .int .i64 k ∧ addOK ts k = true ∧ MayJ w wr l x s Aa na ca Ar nr cr) (fun i wr => na - (intOf i).toNat)
          case atStart => exact ⟨0, Nat.zero_le _, rfl, rfl, hM⟩
          case round =>
            obtain ⟨k, hk, rfl, hok, hM⟩ := hrel
            by_cases hlt : k < na
            · obtain ⟨ad, rfl, hcells⟩ := HT.out.at_ hlt
              obtain ⟨Al, nl, cl, Am, nm, cm, hc0, hc1, hc2, hc3, hc4, hrl, hcl, hrm, hcm, hwf, _, _⟩ := hcells.below hM.2
              have H1 := hid (hrl.alloc (.cells #[.int .i64 (tNum (elt noTab ts k)), .int .i64 (tLev (elt noTab ts k)), .int .i64 (tSize (elt noTab ts k)), .slice Al nl cl, .slice Am nm cm] 24))
              have H2 := hid (hrm.alloc (.cells #[.int .i64 (tNum (elt noTab ts k)), .int .i64 (tLev (elt noTab ts k)), .int .i64 (tSize (elt noTab ts k)), .slice Al nl cl, .slice Am nm cm] 24))
              have hmt : mayTE (tNum (elt noTab ts k)) (tLev (elt noTab ts k)) (tSize (elt noTab ts k)) nl nm (cmpB (tLeast (elt noTab ts k)) (tMost (elt noTab ts k))) = mayT (elt noTab ts k) := by unfold mayT; rw [hrl.1, hrm.1]
              have hnx : addOK ts (k + 1) = (mayT (elt noTab ts k) && !decide (tNum (elt noTab ts k) ∈ numsT ts k)) := by rw [addOK, hok]; rfl
              have hfin : addOK ts (k + 1) = false → mayEd l x s ts zs = false := fun h => by rw [HR.out, addOK_stays h _ (by omega)]; rfl
              have HF := hid hfin
              have HX := hid hnx
              have HMT := hid hmt
              have hbox : (wr.alloc (.cells #[.int .i64 (tNum (elt noTab ts k)), .int .i64 (tLev (elt noTab ts k)), .int .i64 (tSize (elt noTab ts k)), .slice Al nl cl, .slice Am nm cm] 24)).heap[wr.heap.size]? = _ := heap_alloc_new wr _
              have HB := hid hbox
              have HJ1 := hid (hM.below (below_alloc' (Below.refl _ _) (.cells #[.int .i64 (tNum (elt noTab ts k)), .int .i64 (tLev (elt noTab ts k)), .int .i64 (tSize (elt noTab ts k)), .slice Al nl cl, .slice Am nm cm] 24)))
              clear hfin hnx hmt hbox hrl hrm hcells hok hM
              generalize elt noTab ts k = t at *
              cases hmq : mayT t with
              | false =>
                have HMQ := hid hmq
                clear hmq
                go_wp2_with (go_at_call 8; (with_reducible refine (refmaytable_any _ _ _ Al nl cl _ Am nm cm _ _ H1.out H2.out).mono ?_); rintro e w1 ⟨rfl, hb1⟩; rw [HMT.out, HMQ.out])
                go_ret
                exact ⟨by rw [HF.out (by rw [HX.out, HMQ.out]; rfl)]; rfl, (HJ1.out.below hb1).2⟩
              | true =>
                have HMQ := hid hmq
                clear hmq
                have hcut := cutT_hi (some ad) hca (Nat.le_of_lt hlt)
                go_wp2_with (go_at_call 8; (with_reducible refine (refmaytable_any _ _ _ Al nl cl _ Am nm cm _ _ H1.out H2.out).mono ?_); rintro e w1 ⟨rfl, hb1⟩; rw [HMT.out, HMQ.out]; have hM1 := HJ1.out.below hb1; have hq5 := box_at hM1.1 3 (.slice (some ad) na ca) rfl; have hbt := blk_below hb1 HB.out)
                go_loopw [56] (fun i wr2 => ∃ j : Nat, j ≤ k ∧ i = .int .i64 j ∧ (∀ y, y < j → tNum (elt noTab ts y) ≠ tNum t) ∧ Below w1.heap.size w1 wr2) (fun i wr2 => k - (intOf i).toNat)
                case atStart => exact ⟨0, Nat.zero_le _, rfl, fun y h => absurd h (by omega), Below.refl _ _⟩
                case round =>
                  obtain ⟨j, hj, rfl, hno, hb2⟩ := hrel
                  by_cases hlt2 : j < k
                  · obtain ⟨ad2, had, hcells⟩ := HT.out.at_ (show j < na by omega)
                    obtain rfl := Option.some.inj had
                    obtain ⟨Bl, ml, dl, Bm, mm, dm, a0, a1, a2, a3, a4, _, _, _, _, _, _, _⟩ := hcells.below (hM1.below hb2).2
                    have hbt2 := blk_below (below_then hb2 (below_alloc' (Below.refl _ _) (.cells #[.int .i64 (tNum (elt noTab ts j)), .int .i64 (tLev (elt noTab ts j)), .int .i64 (tSize (elt noTab ts j)), .slice Bl ml dl, .slice Bm mm dm] 24))) hbt
                    have hq6 := box_at hbt2 0 (.int .i64 (tNum t)) rfl
                    have hmem := numsT_mem ts k j hlt2
                    have hbz := (hM1.below (below_then hb2 (below_alloc' (Below.refl _ _) (.cells #[.int .i64 (tNum (elt noTab ts j)), .int .i64 (tLev (elt noTab ts j)), .int .i64 (tSize (elt noTab ts j)), .slice Bl ml dl, .slice Bm mm dm] 24)))).2
                    have HNO := hid hno
                    have HBT := hid hbt
                    clear hcells had hbt hbt2 hno
                    by_cases e : tNum (elt noTab ts j) = tNum t
                    · have e2 : ((tNum (elt noTab ts j)) == (tNum t)) = true := by simpa using e
                      have HMEM := hid hmem
                      rw [e] at HMEM
                      clear e hmem
                      go_wp2
                      go_ret
                      exact ⟨by rw [HF.out (by rw [HX.out, HMQ.out, decide_eq_true HMEM.out]; rfl)]; rfl, hbz⟩
                    · have e2 : ((tNum (elt noTab ts j)) == (tNum t)) = false := by simpa using e
                      have HE := hid e
                      clear e hmem
                      go_wp2
                      go_roundw
                      case rel =>
                        refine ⟨j + 1, by omega, by go_num, fun y hy => ?_, below_alloc' hb2 _⟩
                        by_cases ey : y = j
                        · subst ey; exact HE.out
                        · exact HNO.out y (by omega)
                      case measure => simp [intOf]; omega
                  · obtain rfl : j = k := by omega
                    go_wp2
                    go_roundw
                    case rel =>
                      refine ⟨j + 1, by omega, by go_num, ?_, hM1.below hb2⟩
                      rw [HX.out, HMQ.out, decide_eq_false (fun h => ?_)]
                      · rfl
                      · exact numsT_not ts _ j hno h
                    case measure => simp [intOf]; omega
            · obtain rfl : k = na := by omega
              have HR2 : Hid (mayEd l x s ts zs = remOK zs nr) := by unfold Hid; rw [HR.out, hok]; rfl
              have hq5 := box_at hM.1 4 (.slice Ar nr cr) rfl
              clear hok
              go_wp2
              go_loopw [70] (fun i wr => ∃ j : Nat, j ≤ nr ∧ i = .int .i64 j ∧ remOK zs j = true ∧ MayJ w wr l x s Aa k ca Ar nr cr) (fun i wr => nr - (intOf i).toNat)
              case atStart => exact ⟨0, Nat.zero_le _, rfl, rfl, hM⟩
              case round =>
                obtain ⟨j, hj, rfl, hok, hM⟩ := hrel
                by_cases hlt : j < nr
                · obtain ⟨ad, rfl, hc0⟩ := (HZ.out.below hM.2).at_ hlt
                  have hnx : remOK zs (j + 1) = (decide (1 ≤ elt 0 zs j ∧ elt 0 zs j ≤ 1099511627776) && !decide (elt 0 zs j ∈ numsI zs j)) := by rw [remOK, hok]; rfl
                  have hfin : remOK zs (j + 1) = false → mayEd l x s ts zs = false := fun h => by rw [HR2.out, remOK_stays h _ (by omega)]
                  have HF := hid hfin
                  have HX := hid hnx
                  have hq6 := box_at hM.1 4 (.slice (some ad) nr cr) rfl
                  clear hfin hnx hok
                  generalize hzz : elt 0 zs j = z at *
                  clear hzz
                  by_cases hb : 1 ≤ z ∧ z ≤ 1099511627776
                  · obtain ⟨b1, b2⟩ := hb
                    have b3 : ¬ z < 1 := by omega
                    have b4 : ¬ 1099511627776 < z := by omega
                    have HB : Hid (decide (1 ≤ z ∧ z ≤ 1099511627776) = true) := by unfold Hid; rw [decide_eq_true_iff]; omega
                    have hcut := cutZ_hi (some ad) hcr (Nat.le_of_lt hlt) wr
                    go_wp2
                    go_loopw [86] (fun i wr2 => ∃ y : Nat, y ≤ j ∧ i = .int .i64 y ∧ (∀ q, q < y → elt 0 zs q ≠ z) ∧ wr2 = wr) (fun i wr2 => j - (intOf i).toNat)
                    case atStart => exact ⟨0, Nat.zero_le _, rfl, fun y h => absurd h (by omega), rfl⟩
                    case round =>
                      obtain ⟨y, hy, rfl, hno, rfl⟩ := hrel
                      by_cases hlt2 : y < j
                      · obtain ⟨ad2, had, hc1⟩ := (HZ.out.below hM.2).at_ (show y < nr by omega)
                        obtain rfl := Option.some.inj had
                        have hmem := numsI_mem zs j y hlt2
                        have HNO := hid hno
                        clear had hno
                        by_cases e : elt 0 zs y = z
                        · have e2 : (elt 0 zs y == z) = true := by simpa using e
                          have HMEM := hid hmem
                          rw [e] at HMEM
                          clear e hmem
                          go_wp2
                          go_ret
                          exact ⟨by rw [HF.out (by rw [HX.out, HB.out, decide_eq_true HMEM.out]; rfl)]; rfl, hM.2⟩
                        · have e2 : (elt 0 zs y == z) = false := by simpa using e
                          have HE := hid e
                          clear e hmem
                          go_wp2
                          go_roundw
                          case rel =>
                            refine ⟨y + 1, by omega, by go_num, fun q hq => ?_, by trivial⟩
                            by_cases ey : q = y
                            · subst ey; exact HE.out
                            · exact HNO.out q (by omega)
                          case measure => simp [intOf]; omega
                      · obtain rfl : y = j := by omega
                        go_wp2
                        go_roundw
                        case rel =>
                          refine ⟨y + 1, by omega, by go_num, ?_, hM⟩
                          rw [HX.out, HB.out, decide_eq_false (fun h => ?_)]
                          · rfl
                          · exact numsI_not zs _ y hno h
                        case measure => simp [intOf]; omega
                  · have HB : Hid (decide (1 ≤ z ∧ z ≤ 1099511627776) = false) := by unfold Hid; rw [decide_eq_false_iff_not]; omega
                    by_cases b3 : z < 1
                    · go_wp2
                      go_ret
                      exact ⟨by rw [HF.out (by rw [HX.out, HB.out]; rfl)]; rfl, hM.2⟩
                    · have b4 : 1099511627776 < z := by omega
                      go_wp2
                      go_ret
                      exact ⟨by rw [HF.out (by rw [HX.out, HB.out]; rfl)]; rfl, hM.2⟩
                · obtain rfl : j = nr := by omega
                  go_wp2
                  go_ret
                  exact ⟨by rw [HR2.out, hok]; rfl, hM.2⟩
end Go.Proofs.Ythiolcccgiibhaa
