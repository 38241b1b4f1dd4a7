/- Layer 14: may an edit be: the program's answer, with maps. -/
import Derived.Test.YthiolcccgiibhaaEdM
import Derived.Test.YthiolcccgiibhaaMB
import Derived.Test.YthiolcccgiibhaaI
namespace Go.Proofs.Ythiolcccgiibhaa
open Go.RowKit
set_option linter.unusedVariables false
set_option linter.unusedSimpArgs false

def mayT (t : TabR) : Bool := mayTE (tNum t) (tLev t) (tSize t) (tLeast t).length (tMost t).length (cmpB (tLeast t) (tMost t))
def TabCells (w : World) (ad : Addr) (t : TabR) : Prop := ∃ Al nl cl Am nm cm, w.cell? ad = some (.int .i64 (tNum t)) ∧ w.cell? ⟨ad.block, ad.off + 1, none⟩ = some (.int .i64 (tLev t)) ∧ w.cell? ⟨ad.block, ad.off + 2, none⟩ = some (.int .i64 (tSize t)) ∧ w.cell? ⟨ad.block, ad.off + 3, none⟩ = some (.slice Al nl cl) ∧ w.cell? ⟨ad.block, ad.off + 4, none⟩ = some (.slice Am nm cm) ∧
  RB w Al nl (tLeast t) ∧ nl ≤ cl ∧ RB w Am nm (tMost t) ∧ nm ≤ cm ∧ (Lit.int .i64 (tNum t)).wf = true ∧ (Lit.int .i64 (tLev t)).wf = true ∧ (Lit.int .i64 (tSize t)).wf = true
theorem TabCells.below {w w' : World} {ad : Addr} {t : TabR} (h : TabCells w ad t) (hb : Below w.heap.size w w') : TabCells w' ad t := by
  obtain ⟨Al, nl, cl, Am, nm, cm, h0, h1, h2, h3, h4, h5, h6, h7, h8, h9⟩ := h
  exact ⟨Al, nl, cl, Am, nm, cm, below_cell hb h0, below_cell hb h1, below_cell hb h2, below_cell hb h3, below_cell hb h4, h5.below hb, h6, h7.below hb, h8, h9⟩
def RTabs (w : World) (A : Option Addr) (n : Nat) (ts : List TabR) : Prop :=
  ts.length = n ∧ n ≤ 9223372036854775807 ∧ (0 < n → ∃ ad, A = some ad ∧ ∀ j, j < n → TabCells w (ad.add (j * 5)) (elt noTab ts j))
theorem RTabs.at_ {w : World} {A : Option Addr} {n : Nat} {ts : List TabR} (h : RTabs w A n ts) {j : Nat} (hj : j < n) : ∃ ad, A = some ad ∧ TabCells w (ad.add (j * 5)) (elt noTab ts j) := by
  obtain ⟨ad, e, hc⟩ := h.2.2 (by omega)
  exact ⟨ad, e, hc j hj⟩
theorem RTabs.below {w w' : World} {A : Option Addr} {n : Nat} {ts : List TabR} (h : RTabs w A n ts) (hb : Below w.heap.size w w') : RTabs w' A n ts :=
  ⟨h.1, h.2.1, fun hn => by
    obtain ⟨ad, e, hc⟩ := h.2.2 hn
    exact ⟨ad, e, fun j hj => (hc j hj).below hb⟩⟩
def numsT (ts : List TabR) : Nat → List Int
  | 0 => []
  | k + 1 => numsT ts k ++ [tNum (elt noTab ts k)]
theorem numsT_len (ts : List TabR) : ∀ k, (numsT ts k).length = k := by
  intro k
  induction k with
  | zero => rfl
  | succ k ih => rw [numsT, List.length_append, ih]; rfl
def addOK (ts : List TabR) : Nat → Bool
  | 0 => true
  | k + 1 => addOK ts k && (mayT (elt noTab ts k) && !decide (tNum (elt noTab ts k) ∈ numsT ts k))
theorem addOK_stays {ts : List TabR} {j : Nat} (h : addOK ts j = false) : ∀ n, j ≤ n → addOK ts n = false := by
  intro n
  induction n with
  | zero => intro hj; rw [← Nat.le_zero.1 hj]; exact h
  | succ n ih =>
    intro hj
    by_cases e : j = n + 1
    · rw [← e]; exact h
    · rw [addOK, ih (by omega)]; rfl
def numsI (zs : List Int) : Nat → List Int
  | 0 => []
  | k + 1 => numsI zs k ++ [elt 0 zs k]
theorem numsI_len (zs : List Int) : ∀ k, (numsI zs k).length = k := by
  intro k
  induction k with
  | zero => rfl
  | succ k ih => rw [numsI, List.length_append, ih]; rfl
def remOK (zs : List Int) : Nat → Bool
  | 0 => true
  | k + 1 => remOK zs k && (decide (1 ≤ elt 0 zs k ∧ elt 0 zs k ≤ 1099511627776) && !decide (elt 0 zs k ∈ numsI zs k))
theorem remOK_stays {zs : List Int} {j : Nat} (h : remOK zs j = false) : ∀ n, j ≤ n → remOK zs n = false := by
  intro n
  induction n with
  | zero => intro hj; rw [← Nat.le_zero.1 hj]; exact h
  | succ n ih =>
    intro hj
    by_cases e : j = n + 1
    · rw [← e]; exact h
    · rw [remOK, ih (by omega)]; rfl
def headOK (l x s : Int) (na nr : Nat) : Bool := decide (0 ≤ l ∧ l ≤ 4611686018427387904 ∧ 0 ≤ x ∧ x ≤ 4611686018427387904 ∧ 0 ≤ s ∧ s ≤ 4611686018427387904 ∧ na ≤ 200 ∧ nr ≤ 200)
/-- May an edit be? -/
def mayEd (l x s : Int) (ts : List TabR) (zs : List Int) : Bool := headOK l x s ts.length zs.length && (addOK ts ts.length && remOK zs zs.length)
set_option maxHeartbeats 4000000 in
theorem counted_any (n : Int) (w : World) : Calls Try.prog 23 #[.int .i64 n] w fun e w' => e = .returned (.bool (decide (0 ≤ n ∧ n ≤ 4611686018427387904))) ∧ w = w' := by
  go_enter Try.func23, Try.ntmps23
  go_wp2
  all_goals
    go_ret
    refine ⟨ret_bool ?_, rfl⟩
    first
    | rfl
    | (rw [eq_comm, decide_eq_false_iff_not]; omega)
    | (rw [eq_comm, decide_eq_true_iff]; omega)
    | (rw [decide_eq_decide]; omega)
    | (simp; omega)
theorem counted_ok (n : Int) (w : World) (h : 0 ≤ n ∧ n ≤ 4611686018427387904) : Calls Try.prog 23 #[.int .i64 n] w fun e w' => e = .returned (.bool true) ∧ w = w' := by
  have := counted_any n w
  rw [decide_eq_true h] at this
  exact this
def MayI (w wr : World) (l x s : Int) (Aa : Option Addr) (na ca : Nat) (Ar : Option Addr) (nr cr : Nat) (S1 S2 : List Int) : Prop :=
  wr.heap[w.heap.size]? = some (.cells #[.int .i64 l, .int .i64 x, .int .i64 s, .slice Aa na ca, .slice Ar nr cr] 30 (0, 0)) ∧ MB wr (w.heap.size + 1) S1 ∧ MB wr (w.heap.size + 2) S2 ∧ Below w.heap.size w wr
set_option maxHeartbeats 16000000 in
set_option maxRecDepth 100000 in
theorem mayedit_any (l x s : Int) (Aa : Option Addr) (na ca : Nat) (ts : List TabR) (Ar : Option Addr) (nr cr : Nat) (zs : List Int) (w : World) (hT : RTabs w Aa na ts) (hZ : RN .i64 w Ar nr zs) :
    Calls Try.prog 13 #[.agg #[.int .i64 l, .int .i64 x, .int .i64 s, .slice Aa na ca, .slice Ar nr cr]] w fun e w' => e = .returned (.bool (mayEd l x s ts zs)) ∧ Below w.heap.size w w' := by
  have hla := hT.1
  have hlr := hZ.1
  have hma := hT.2.1
  have hmr := hZ.2.1
  have HT := hid hT
  have HZ := hid hZ
  clear hT hZ
  cases hd : headOK l x s na nr with
  | false =>
    have HR : Hid (mayEd l x s ts zs = false) := by unfold Hid mayEd; rw [hla, hlr, hd]; rfl
    have hd2 : ¬ (0 ≤ l ∧ l ≤ 4611686018427387904 ∧ 0 ≤ x ∧ x ≤ 4611686018427387904 ∧ 0 ≤ s ∧ s ≤ 4611686018427387904 ∧ na ≤ 200 ∧ nr ≤ 200) := by simpa [headOK] using hd
    have HD := hid hd2
    clear hd hd2 hla hlr
    go_enter Try.func13, Try.ntmps13
    go_wp2_with (go_at_call 23; (with_reducible refine (counted_any _ _).mono ?_); rintro e w1 ⟨rfl, rfl⟩)
    all_goals
      first
      | (go_ret
         exact ⟨by rw [HR.out]; rfl, below_alloc' (Below.refl _ _) _⟩)
      | (exfalso
         have := HD.out
         simp at *
         omega)
  | true =>
    have hd2 : 0 ≤ l ∧ l ≤ 4611686018427387904 ∧ 0 ≤ x ∧ x ≤ 4611686018427387904 ∧ 0 ≤ s ∧ s ≤ 4611686018427387904 ∧ na ≤ 200 ∧ nr ≤ 200 := by simpa [headOK] using hd
    obtain ⟨d1, d2, d3, d4, d5, d6, d7, d8⟩ := hd2
    have HR : Hid (mayEd l x s ts zs = (addOK ts na && remOK zs nr)) := by unfold Hid mayEd; rw [hla, hlr, hd]; rfl
    have d7i : ¬ (200 : Int) < (na : Int) := by omega
    have d8i : ¬ (200 : Int) < (nr : Int) := by omega
    have hmm := @run_makeMap Try.prog
    have e1 : (w.alloc (.cells #[.int .i64 l, .int .i64 x, .int .i64 s, .slice Aa na ca, .slice Ar nr cr] 30)).heap.size = w.heap.size + 1 := by simp
    have e2 : ((w.alloc (.cells #[.int .i64 l, .int .i64 x, .int .i64 s, .slice Aa na ca, .slice Ar nr cr] 30)).alloc (.map #[] 0)).heap.size = w.heap.size + 2 := by simp
    have hI : MayI w (((w.alloc (.cells #[.int .i64 l, .int .i64 x, .int .i64 s, .slice Aa na ca, .slice Ar nr cr] 30)).alloc (.map #[] 0)).alloc (.map #[] 0)) l x s Aa na ca Ar nr cr [] [] := by
      refine ⟨?_, ?_, ?_, below_alloc' (below_alloc' (below_alloc' (Below.refl _ _) _) _) _⟩
      · exact blk_below (below_alloc' (Below.refl _ _) _) (blk_below (below_alloc' (Below.refl _ _) _) (heap_alloc_new w _))
      · rw [← e1]
        exact (MB.made _).below (below_alloc' (Below.refl _ _) _)
      · rw [← e2]
        exact MB.made _
    have HI := hid hI
    clear hd hla hlr hI e1 e2
    go_enter Try.func13, Try.ntmps13
    go_wp2_with (go_at_call 23; (with_reducible refine (counted_ok _ _ ⟨by assumption, by assumption⟩).mono ?_); rintro e w1 ⟨rfl, rfl⟩)
    go_loopw [42] (fun i wr => ∃ k : Nat, k ≤ na ∧ i = .int .i64 k ∧ addOK ts k = true ∧ MayI w wr l x s Aa na ca Ar nr cr (numsT ts k) []) (fun i wr => na - (intOf i).toNat)
    case atStart => exact ⟨0, Nat.zero_le _, rfl, rfl, HI.out⟩
    case round =>
      obtain ⟨k, hk, rfl, hok, hM⟩ := hrel
      by_cases hlt : k < na
      · obtain ⟨hbx, hm1, hm2, hB⟩ := hM
        obtain ⟨ad, rfl, hcells⟩ := HT.out.at_ hlt
        obtain ⟨Al, nl, cl, Am, nm, cm, hc0, hc1, hc2, hc3, hc4, hrl, hcl, hrm, hcm, hwf, _, _⟩ := hcells.below hB
        have H1 := hid (hrl.alloc (.cells #[.int .i64 (tNum (elt noTab ts k)), .int .i64 (tLev (elt noTab ts k)), .int .i64 (tSize (elt noTab ts k)), .slice Al nl cl, .slice Am nm cm] 24))
        have H2 := hid (hrm.alloc (.cells #[.int .i64 (tNum (elt noTab ts k)), .int .i64 (tLev (elt noTab ts k)), .int .i64 (tSize (elt noTab ts k)), .slice Al nl cl, .slice Am nm cm] 24))
        have hmt : mayTE (tNum (elt noTab ts k)) (tLev (elt noTab ts k)) (tSize (elt noTab ts k)) nl nm (cmpB (tLeast (elt noTab ts k)) (tMost (elt noTab ts k))) = mayT (elt noTab ts k) := by unfold mayT; rw [hrl.1, hrm.1]
        have hnx : addOK ts (k + 1) = (mayT (elt noTab ts k) && !decide (tNum (elt noTab ts k) ∈ numsT ts k)) := by rw [addOK, hok]; rfl
        have hfin : addOK ts (k + 1) = false → mayEd l x s ts zs = false := fun h => by rw [HR.out, addOK_stays h _ (by omega)]; rfl
        have HNT := hid (show numsT ts (k + 1) = numsT ts k ++ [tNum (elt noTab ts k)] from rfl)
        have HF := hid hfin
        have HX := hid hnx
        have HMT := hid hmt
        have hbox : (wr.alloc (.cells #[.int .i64 (tNum (elt noTab ts k)), .int .i64 (tLev (elt noTab ts k)), .int .i64 (tSize (elt noTab ts k)), .slice Al nl cl, .slice Am nm cm] 24)).heap[wr.heap.size]? = _ := heap_alloc_new wr _
        have HB := hid hbox
        have HB1 := hid (below_alloc' hB (.cells #[.int .i64 (tNum (elt noTab ts k)), .int .i64 (tLev (elt noTab ts k)), .int .i64 (tSize (elt noTab ts k)), .slice Al nl cl, .slice Am nm cm] 24))
        have HM1 := hid (hm1.below (below_alloc' (Below.refl _ _) (.cells #[.int .i64 (tNum (elt noTab ts k)), .int .i64 (tLev (elt noTab ts k)), .int .i64 (tSize (elt noTab ts k)), .slice Al nl cl, .slice Am nm cm] 24)))
        have HM2 := hid (hm2.below (below_alloc' (Below.refl _ _) (.cells #[.int .i64 (tNum (elt noTab ts k)), .int .i64 (tLev (elt noTab ts k)), .int .i64 (tSize (elt noTab ts k)), .slice Al nl cl, .slice Am nm cm] 24)))
        have HBX := hid (blk_below (below_alloc' (Below.refl _ _) (.cells #[.int .i64 (tNum (elt noTab ts k)), .int .i64 (tLev (elt noTab ts k)), .int .i64 (tSize (elt noTab ts k)), .slice Al nl cl, .slice Am nm cm] 24)) hbx)
        clear hfin hnx hmt hbox hrl hrm hcells hok hbx hm1 hm2
        generalize elt noTab ts k = t at *
        cases hmq : mayT t with
        | false =>
          have HMQ := hid hmq
          clear hmq
          go_wp2_with (go_at_call 7; (with_reducible refine (maytable_any _ _ _ Al nl cl _ Am nm cm _ _ H1.out H2.out).mono ?_); rintro e w1 ⟨rfl, hb1⟩; rw [HMT.out, HMQ.out])
          go_ret
          exact ⟨by rw [HF.out (by rw [HX.out, HMQ.out]; rfl)]; rfl, below_then HB1.out hb1⟩
        | true =>
          have HMQ := hid hmq
          clear hmq
          cases hq : decide (tNum t ∈ numsT ts k) with
          | true =>
            have HQ := hid hq
            clear hq
            go_wp2_with (go_at_call 7; (with_reducible refine (maytable_any _ _ _ Al nl cl _ Am nm cm _ _ H1.out H2.out).mono ?_); rintro e w1 ⟨rfl, hb1⟩; rw [HMT.out, HMQ.out]; have hq0 := box_at (blk_below hb1 HB.out) 0 (.int .i64 (tNum t)) rfl; have hlk := (HM1.out.below hb1).look hwf; rw [HQ.out] at hlk)
            go_ret
            exact ⟨by rw [HF.out (by rw [HX.out, HMQ.out, HQ.out]; rfl)]; rfl, below_then HB1.out hb1⟩
          | false =>
            have HQ := hid hq
            clear hq
            go_wp2_with (first
              | (go_at_call 7; (with_reducible refine (maytable_any _ _ _ Al nl cl _ Am nm cm _ _ H1.out H2.out).mono ?_); rintro e w1 ⟨rfl, hb1⟩; rw [HMT.out, HMQ.out]; have hq0 := box_at (blk_below hb1 HB.out) 0 (.int .i64 (tNum t)) rfl; have hlk := (HM1.out.below hb1).look hwf; rw [HQ.out] at hlk; have hB1 := below_then HB1.out hb1; have hx1 := blk_below hb1 HBX.out; have hm1 := HM1.out.below hb1; have hm2 := HM2.out.below hb1)
              | (at_mapUpdate; go_loud (refine wpMB_store w1 rfl (.tmp 55) (.tmp 57) _ rfl (w.heap.size + 1) (numsT ts k) rfl hm1 (by rw [numsT_len]; simp only [maxLen]; omega) (tNum t) rfl rfl hwf ?_); intro w2 hs2 hg2; have hB2 := hB1.grown hg2 hB1.size (fun j hj => by cases hj; omega); have hx2 := blk_grown' hg2 hx1 (fun e => by have := Option.some.inj e; omega); have hm4 := hm2.kept hg2 (fun e => by have := Option.some.inj e; omega)))
            go_roundw
            case rel => exact ⟨k + 1, by omega, by go_num, by rw [HX.out, HMQ.out, HQ.out]; rfl, hx2, by rw [HNT.out]; exact hs2, hm4, hB2⟩
            case measure => simp [intOf]; omega
      · obtain rfl : k = na := by omega
        have HR2 : Hid (mayEd l x s ts zs = remOK zs nr) := by unfold Hid; rw [HR.out, hok]; rfl
        have hq0 := box_at hM.1 4 (.slice Ar nr cr) rfl
        clear hok
        generalize numsT ts k = S1 at *
        go_wp2
        go_loopw [62] (fun i wr => ∃ j : Nat, j ≤ nr ∧ i = .int .i64 j ∧ remOK zs j = true ∧ MayI w wr l x s Aa k ca Ar nr cr S1 (numsI zs j)) (fun i wr => nr - (intOf i).toNat)
        case atStart => exact ⟨0, Nat.zero_le _, rfl, rfl, hM⟩
        case round =>
          obtain ⟨j, hj, rfl, hok, hM⟩ := hrel
          by_cases hlt : j < nr
          · obtain ⟨hbx, hm1, hm2, hB⟩ := hM
            obtain ⟨ad, rfl, hc0⟩ := (HZ.out.below hB).at_ hlt
            have hwf := HZ.out.2.2.1 j hlt
            have hw2 := wf_i64 hwf
            have hnx : remOK zs (j + 1) = (decide (1 ≤ elt 0 zs j ∧ elt 0 zs j ≤ 1099511627776) && !decide (elt 0 zs j ∈ numsI zs j)) := by rw [remOK, hok]; rfl
            have hfin : remOK zs (j + 1) = false → mayEd l x s ts zs = false := fun h => by rw [HR2.out, remOK_stays h _ (by omega)]
            have HNT := hid (show numsI zs (j + 1) = numsI zs j ++ [elt 0 zs j] from rfl)
            have HF := hid hfin
            have HX := hid hnx
            clear hfin hnx hok
            generalize elt 0 zs j = z at *
            by_cases hb : 1 ≤ z ∧ z ≤ 1099511627776
            · obtain ⟨b1, b2⟩ := hb
              have b3 : ¬ z < 1 := by omega
              have b4 : ¬ 1099511627776 < z := by omega
              have HB : Hid (decide (1 ≤ z ∧ z ≤ 1099511627776) = true) := by unfold Hid; rw [decide_eq_true_iff]; omega
              have hlk := hm2.look hwf
              cases hq : decide (z ∈ numsI zs j) with
              | true =>
                rw [hq] at hlk
                have HQ := hid hq
                clear hq
                go_wp2
                go_ret
                exact ⟨by rw [HF.out (by rw [HX.out, HB.out, HQ.out]; rfl)]; rfl, hB⟩
              | false =>
                rw [hq] at hlk
                have HQ := hid hq
                clear hq
                go_wp2_with (at_mapUpdate; go_loud (refine wpMB_store wr rfl (.tmp 77) (.tmp 78) _ rfl (w.heap.size + 2) (numsI zs j) rfl hm2 (by rw [numsI_len]; simp only [maxLen]; omega) z rfl rfl hwf ?_); intro w2 hs2 hg2; have hB2 := hB.grown hg2 hB.size (fun j hj => by cases hj; omega); have hx2 := blk_grown' hg2 hbx (fun e => by have := Option.some.inj e; omega); have hm4 := hm1.kept hg2 (fun e => by have := Option.some.inj e; omega))
                go_roundw
                case rel => exact ⟨j + 1, by omega, by go_num, by rw [HX.out, HB.out, HQ.out]; rfl, hx2, hm4, by rw [HNT.out]; exact hs2, hB2⟩
                case measure => simp [intOf]; omega
            · have HB : Hid (decide (1 ≤ z ∧ z ≤ 1099511627776) = false) := by unfold Hid; rw [decide_eq_false_iff_not]; omega
              by_cases b3 : z < 1
              · go_wp2
                go_ret
                exact ⟨by rw [HF.out (by rw [HX.out, HB.out]; rfl)]; rfl, hB⟩
              · have b4 : 1099511627776 < z := by omega
                go_wp2
                go_ret
                exact ⟨by rw [HF.out (by rw [HX.out, HB.out]; rfl)]; rfl, hB⟩
          · obtain rfl : j = nr := by omega
            go_wp2
            go_ret
            exact ⟨by rw [HR2.out, hok]; rfl, hM.2.2.2⟩
end Go.Proofs.Ythiolcccgiibhaa
