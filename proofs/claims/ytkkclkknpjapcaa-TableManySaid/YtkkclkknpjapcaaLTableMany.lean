/- The walk of one law, with what it wants beyond the shared texts. -/
import Derived.StillTailTactics
import Derived.Deep.DeepCutAuto
import Derived.BigQuiet
import Derived.Test.YtkkclkknpjapcaaS14
import Derived.Test.YtkkclkknpjapcaaS16
import Derived.Test.YtkkclkknpjapcaaS03
import Derived.Test.YtkkclkknpjapcaaS04
import Derived.Test.YtkkclkknpjapcaaS15
import Derived.Test.YtkkclkknpjapcaaS11
import Derived.Test.YtkkclkknpjapcaaS12
/-! ### TbL -/
namespace Go.Proofs.Ytkkclkknpjapcaa
open Go.RowKit
set_option linter.unusedVariables false
set_option linter.unusedSimpArgs false

set_option maxHeartbeats 16000000 in
set_option maxRecDepth 100000 in
theorem tsorted_any (A : Option Addr) (n c : Nat) (es : List EntR) (w : World) (h : REnts w A n es) : Calls Try.prog 14 #[.slice A n c] w fun r w' => SrtdB w w' r := by
  have hmax := h.2.1
  have H := hid h
  clear h
  go_enter Try.func14, Try.ntmps14
  go_wp2
  go_loopw [3, 8] (fun v i wr => ∃ j : Nat, j ≤ n ∧ i = .int .i64 j ∧ SoB w wr v j) (fun v i wr => n - (intOf i).toNat)
  case atStart => exact ⟨0, Nat.zero_le _, rfl, [], [], OV.nil _ _ _ _, RelV.nil, trivial, Nat.le_refl _, Nat.zero_le _, fun e he => (by cases he), Below.refl _ _⟩
  case round =>
    obtain ⟨j, hj, rfl, hS⟩ := hrel
    have HS := hid hS
    obtain ⟨es0, U, hU, hUr, hs1, hs2, hs3, hs4, hBw⟩ := hS
    by_cases hjl : j < n
    · obtain ⟨ae, rfl, hc1⟩ := H.out.at_ hjl
      obtain ⟨Ak, nk, ck, Av, nv, cv, a0, a1, a2, a3, a4, a5, a6, a7, a8⟩ := hc1
      have a0 := below_cell hBw a0
      have a1 := below_cell hBw a1
      have a2 := below_cell hBw a2
      have a3 := below_cell hBw a3
      have a4 := below_cell hBw a4
      have hkl := a5.max
      have hvl := a6.max
      have e5 := a5.1
      have e6 := a6.1
      generalize elt noEnt es j = x at *
      obtain ⟨M, hM⟩ : ∃ M, mayE x = M := ⟨_, rfl⟩
      have hmN : mayN nk (eSeq x) (eGone x) (eTil x) nv = M := by rw [← e5, ← e6]; exact hM
      have HmN := hid hmN
      have HM := hid hM
      have HKV := hid (⟨a5, a6, a7, a8⟩ : _ ∧ _ ∧ _ ∧ _)
      have hba := below_alloc' (Below.refl wr.heap.size wr) (.cells #[.slice Ak nk ck, .int .i64 (eSeq x), .bool (eGone x), .int .i64 (eTil x), .slice Av nv cv] 42)
      have HSn := hid ((HS.out.below hba).more)
      have hB2 := hid (below_then hBw hba)
      obtain ⟨Ao, co, hve, _⟩ := hU.openN es0.length hUr.1
      subst hve
      have HU := hid (hU.below hba)
      have HUr := hid hUr
      have HQ := hid (⟨hs1, hs2, hs3, hs4⟩ : _ ∧ _ ∧ _ ∧ _)
      clear a5 a6 a7 a8 hM hmN e5 e6 hU hUr hs1 hs2 hs3 hs4 HS hBw hba
      by_cases hp : j < 60
      · have hd1 : decide ((j : Int) < 60) = true := decide_eq_true (by omega)
        cases M
        · go_wp2_with (go_at_call 41; (with_reducible refine (refmay_any Ak nk ck (eSeq x) (eGone x) (eTil x) Av nv cv _ hkl hvl).mono ?_); rintro r w4 ⟨rfl, hb4⟩; rw [HmN.out])
          go_roundw
          case rel => exact ⟨j + 1, by omega, by go_num, HSn.out.below hb4⟩
          case measure => simp [intOf]; omega
        · go_wp2_with (first
            | (go_at_call 41; (with_reducible refine (refmay_any Ak nk ck (eSeq x) (eGone x) (eTil x) Av nv cv _ hkl hvl).mono ?_); rintro r w4 ⟨rfl, hb4⟩; rw [HmN.out]; have HB4 := hid hb4; have hbx := heap_alloc_new wr (.cells #[.slice Ak nk ck, .int .i64 (eSeq x), .bool (eGone x), .int .i64 (eTil x), .slice Av nv cv] 42); obtain ⟨y0, y1, y2, y3, y4⟩ := box5 (blk_below hb4 hbx); clear hb4 hbx)
            | (go_at_call 48; (with_reducible refine (refputE_any w w.heap.size Ao es0.length co U es0 Ak nk ck Av nv cv x _ (below_then hB2.out HB4.out) (HU.out.below HB4.out) HUr.out (below_then hB2.out HB4.out).size HKV.out.1 HKV.out.2.1 HKV.out.2.2.1 HKV.out.2.2.2 rfl (by have := HQ.out.2.2.1; omega)).mono ?_); rintro r w5 ⟨v5, V5, rfl, hv5, hr5, hb5⟩))
          have HN : Hid (SoB w w5 v5 (j + 1)) := hid ⟨putE es0 x, V5, hv5, hr5, put_srt HQ.out.1, by have := put_len' es0 x; have := HQ.out.2.1; omega, by have := put_len' es0 x; have := HQ.out.2.1; omega, fun y hy => (put_mem' hy).elim (HQ.out.2.2.2 y) (fun h => by rw [h]; exact HM.out), below_then (below_then hB2.out HB4.out) hb5⟩
          clear hv5 hr5
          go_roundw
          case rel => exact ⟨j + 1, by omega, by go_num, HN.out⟩
          case measure => simp [intOf]; omega
      · have hd1 : decide ((j : Int) < 60) = false := decide_eq_false (by omega)
        go_wp2
        go_roundw
        case rel => exact ⟨j + 1, by omega, by go_num, HSn.out⟩
        case measure => simp [intOf]; omega
    · obtain rfl : j = n := by omega
      obtain ⟨A2, c2, hv2, hc2, hr2⟩ := REnts_of hU (hUr.mono fun x a hx => hx.below hBw) (by omega)
      subst hv2
      have HR := hid hr2
      have HAll : Hid (AllM es0) := hid (fun i hi => hs4 _ (elt_mem hi))
      have HSr := hid hs1
      clear hr2 hU hUr hs1 hs4 HS
      go_wp2
      go_ret
      exact ⟨A2, c2, es0, rfl, hc2, HR.out, HSr.out, HAll.out, hs3, hBw⟩
end Go.Proofs.Ytkkclkknpjapcaa
/-! ### TbM2 -/
namespace Go.Proofs.Ytkkclkknpjapcaa
open Go.RowKit
set_option linter.unusedVariables false
set_option linter.unusedSimpArgs false

def KeyO (w w' : World) (key : List UInt8) (r : Ending) : Prop := ∃ v, r = .returned v ∧ OB w' w.heap.size v key ∧ Below w.heap.size w w'
set_option maxHeartbeats 8000000 in
set_option maxRecDepth 100000 in
theorem tleast_row (bt : Nat) (es : List EntR) (fil : List UInt8) (w : World) (h : TabR w bt es fil) (hne : 1 ≤ es.length) (hm : AllM es) :
    Calls Try.prog 25 #[.pointer (some ⟨bt, 0, none⟩)] w fun r w' => KeyO w w' (eKey (elt noEnt es 0)) r := by
  have HT := hid h
  obtain ⟨A, n, c, Af, m, cf, h1, h2, hc, _⟩ := h
  have hn := h2.1
  have hmax := h2.2.1
  have q0 := box_at h1 0 _ rfl
  obtain ⟨ad, rfl, hen⟩ := h2.at_ (show 0 < n by omega)
  have hmx := mayE_cases (hm 0 (by omega))
  generalize elt noEnt es 0 = x at *
  obtain ⟨Ak, nk, ck, Av, nv, cv, a0, a1, a2, a3, a4, a5, a6, a7, a8⟩ := hen
  rw [Nat.zero_mul, addr_zero'] at a0 a1 a2 a3 a4
  have hn0 : (0 : Int) < (n : Int) := by omega
  have hn0' : 0 < n := by omega
  have e5 := a5.1
  have e6 := a6.1
  have hnk : nk ≤ 140737488355328 := by omega
  have hnv : nv ≤ 140737488355328 := by omega
  have HKV := hid (⟨a5, a6⟩ : _ ∧ _)
  have hzz : ((es.length : Int) == 0) = false := by rw [beq_eq_false_iff_ne]; omega
  clear h1 h2 a5 a6 hm hmx e5 e6
  go_enter Try.func25, Try.ntmps25
  go_wp2_with (first
    | (go_at_call 19; (with_reducible refine (tlen_any bt es fil _ HT.out).mono ?_); rintro e w1 ⟨rfl, rfl⟩)
    | (go_at_call 61; (with_reducible refine (town_any Ak nk ck (eKey x) (eSeq x) (eGone x) (eTil x) Av nv cv (eVal x) _ HKV.out.1 HKV.out.2 hnk hnv).mono ?_); rintro r w4 ⟨kv, vv, rfl, ok1, ov1, hb4⟩; have ok2 := ok1; obtain ⟨A4, c4, rfl, hr4, hc4⟩ := ok1.open_; have hfd := run_field0 (.slice A4 (eKey x).length c4) vv (.int .i64 (eSeq x)) (.bool (eGone x)) (.int .i64 (eTil x)) w4))
  go_ret
  exact ⟨_, rfl, ok2, hb4⟩
set_option maxHeartbeats 8000000 in
set_option maxRecDepth 100000 in
theorem tmost_row (bt : Nat) (es : List EntR) (fil : List UInt8) (w : World) (h : TabR w bt es fil) (hne : 1 ≤ es.length) (hm : AllM es) :
    Calls Try.prog 26 #[.pointer (some ⟨bt, 0, none⟩)] w fun r w' => KeyO w w' (eKey (elt noEnt es (es.length - 1))) r := by
  have HT := hid h
  obtain ⟨A, n, c, Af, m, cf, h1, h2, hc, _⟩ := h
  have hn := h2.1
  have hmax := h2.2.1
  have q0 := box_at h1 0 _ rfl
  obtain ⟨j, hj⟩ : ∃ j, es.length - 1 = j := ⟨_, rfl⟩
  rw [hj]
  have hji : (n : Int) - 1 = (j : Int) := by omega
  have hjn : j < n := by omega
  have hws : IntKind.i64.wrap (j : Int) = (j : Int) := by rw [IntKind.wrap_i64]; omega
  obtain ⟨ad, rfl, hen⟩ := h2.at_ hjn
  have hmx := mayE_cases (hm j (by omega))
  generalize elt noEnt es j = x at *
  obtain ⟨Ak, nk, ck, Av, nv, cv, a0, a1, a2, a3, a4, a5, a6, a7, a8⟩ := hen
  have e5 := a5.1
  have e6 := a6.1
  have hnk : nk ≤ 140737488355328 := by omega
  have hnv : nv ≤ 140737488355328 := by omega
  have HKV := hid (⟨a5, a6⟩ : _ ∧ _)
  have hzz : ((es.length : Int) == 0) = false := by rw [beq_eq_false_iff_ne]; omega
  clear h1 h2 a5 a6 hm hmx e5 e6 hj
  go_enter Try.func26, Try.ntmps26
  go_wp2_with (go_at_call 19; (with_reducible refine (tlen_any bt es fil _ HT.out).mono ?_); rintro e w1 ⟨rfl, rfl⟩)
  go_still_tail 12, (by kernel_rfl)
  change wpList _ _ _ _ _ w.drew
  have hbd : Below w.heap.size w w.drew := below_drew (Below.refl _ _)
  have HKd := hid (⟨HKV.out.1.drew, HKV.out.2.drew⟩ : _ ∧ _)
  generalize w.drew = w2 at *
  go_wp2_with (go_at_call 61; (with_reducible refine (town_any Ak nk ck (eKey x) (eSeq x) (eGone x) (eTil x) Av nv cv (eVal x) _ HKd.out.1 HKd.out.2 hnk hnv).mono ?_); rintro r w4 ⟨kv, vv, rfl, ok1, ov1, hb4⟩; have ok2 := ok1; obtain ⟨A4, c4, rfl, hr4, hc4⟩ := ok1.open_; have hfd := run_field0 (.slice A4 (eKey x).length c4) vv (.int .i64 (eSeq x)) (.bool (eGone x)) (.int .i64 (eTil x)) w4)
  go_ret
  exact ⟨_, rfl, ok2.mono hbd.size, below_then hbd hb4⟩
theorem refcompare_row (A : Option Addr) (n c : Nat) (xs : List UInt8) (v : Value) (base : Nat) (ys : List UInt8) (w : World) (h : RB w A n xs) (h' : OB w base v ys) :
    Calls Try.prog 24 #[.slice A n c, v] w fun e w' => e = .returned (.int .i64 (cmpB xs ys)) ∧ Below w.heap.size w w' := by
  obtain ⟨A2, c2, rfl, hr, _⟩ := h'.open_
  refine (refcompare_quiet A n c xs A2 _ c2 ys w h hr).mono ?_
  rintro e w' ⟨rfl, m, rfl⟩
  exact ⟨rfl, below_drewN (Below.refl _ _) m⟩
end Go.Proofs.Ytkkclkknpjapcaa
/-! ### TbT2 -/
namespace Go.Proofs.Ytkkclkknpjapcaa
open Go.RowKit
set_option linter.unusedVariables false
set_option linter.unusedSimpArgs false

theorem str_dec (xs ys : List UInt8) : ((bstr xs).toList == (bstr ys).toList) = decide (xs = ys) := by
  rw [bstr_list, bstr_list]
  exact Bool.eq_iff_iff.2 (by simp)
/-- Is a key among the first ones? -/
def thereB (L : List EntR) (key : List UInt8) (k : Nat) : Bool := (L.take k).any fun x => decide (eKey x = key)
theorem there_zero (L : List EntR) (key : List UInt8) : thereB L key 0 = false := rfl
theorem there_succ {L : List EntR} {key : List UInt8} {k : Nat} (hk : k < L.length) : thereB L key (k + 1) = (thereB L key k || decide (eKey (elt noEnt L k) = key)) := by
  unfold thereB
  rw [take_succ_elt noEnt hk, List.any_append]
  simp
theorem there_get {L : List EntR} {key : List UInt8} (hm : AllM L) : (getR key 4611686018427387904 L).2 = thereB L key L.length := by
  unfold thereB
  rw [List.take_length]
  have : ∀ l : List EntR, (∀ x ∈ l, mayE x = true) → (getR key 4611686018427387904 l).2 = l.any fun x => decide (eKey x = key) := by
    intro l
    induction l with
    | nil => intro _; rfl
    | cons x l ih =>
      intro h
      rw [getR, List.any_cons]
      have hx := mayE_cases (h x List.mem_cons_self)
      by_cases hk : eKey x = key
      · rw [if_pos ⟨hk, hx.2.2.2.2⟩, decide_eq_true hk]; rfl
      · rw [if_neg (fun e => hk e.1), decide_eq_false hk, ih (fun y hy => h y (List.mem_cons_of_mem _ hy))]; rfl
  refine this L fun x hx => ?_
  obtain ⟨j, hj, rfl⟩ := mem_elt hx
  exact hm j hj
theorem there_has {L : List EntR} {key : List UInt8} (h : thereB L key L.length = true) : hasB (filtB L) key = true := by
  unfold thereB at h
  rw [List.take_length, List.any_eq_true] at h
  obtain ⟨x, hx, e⟩ := h
  rw [decide_eq_true_iff] at e
  rw [← e]
  exact filt_has hx
/-- Each key lies between the least and the most. -/
theorem key_least {L : List EntR} (hs : Srt L) {k : Nat} (hk : k < L.length) : 0 ≤ cmpB (eKey (elt noEnt L k)) (eKey (elt noEnt L 0)) := by
  rcases Nat.eq_zero_or_pos k with rfl | h0
  · rw [(cmpB_zero _ _).2 rfl]; omega
  · rcases aheadK_iff.1 (hs.at_ 0 k h0 hk) with h | ⟨h, _⟩
    · rw [cmpB_swap]; omega
    · rw [h, (cmpB_zero _ _).2 rfl]; omega
theorem key_most {L : List EntR} (hs : Srt L) {k : Nat} (hk : k < L.length) : cmpB (eKey (elt noEnt L k)) (eKey (elt noEnt L (L.length - 1))) ≤ 0 := by
  rcases Nat.lt_or_ge k (L.length - 1) with h0 | h0
  · rcases aheadK_iff.1 (hs.at_ k (L.length - 1) h0 (by omega)) with h | ⟨h, _⟩
    · omega
    · rw [h, (cmpB_zero _ _).2 rfl]; omega
  · obtain rfl : k = L.length - 1 := by omega
    rw [(cmpB_zero _ _).2 rfl]; omega
theorem refordered_rows {w : World} {base : Nat} {v : Value} {L : List EntR} (h : ROw w base v L) (hs : Srt L) : Calls Try.prog 31 #[v] w fun e w' => e = .returned (.bool true) ∧ Below w.heap.size w w' := by
  obtain ⟨A, c, rfl, _, hr⟩ := h.len h.len_lt
  refine (refordered_any A _ c L w hr).mono ?_
  rintro e w' ⟨rfl, hb⟩
  rw [srtB_true hs]
  exact ⟨rfl, hb⟩
set_option maxHeartbeats 32000000 in
set_option maxRecDepth 100000 in
theorem TableKeys_walk (A : Option Addr) (n c : Nat) (es : List EntR) (Ar : Option Addr) (nr cr : Nat) (key : List UInt8) (w : World) (h : REnts w A n es) (hc : n ≤ c) (hk : RB w Ar nr key) (hkc : nr ≤ cr) (hksz : nr ≤ 140737488351232) :
    Calls Try.prog 9 #[.slice A n c, .slice Ar nr cr] w fun e w' => e = .returned (.bool true) ∧ Below w.heap.size w w' := by
  have H := hid h
  have HK := hid hk
  clear h hk
  go_enter Try.func9, Try.ntmps9
  go_upto_region 2 with (go_at_call 14; (with_reducible refine (tsorted_any A n c es _ H.out).mono ?_); rintro r w1 ⟨A1, c1, L, rfl, hc1, hr1, hs1, hm1, hl1, hb1⟩; have HR1 := hid hr1; have HS1 := hid (⟨hs1, hm1⟩ : _ ∧ _); have HB1 := hid hb1; clear hr1 hs1 hm1 hb1)
  by_cases hL : L.length = 0
  · have HNo : Hid (∀ E, TbC L E → E ≠ 0) := hid (fun E hE e => by
      have := (hE.fit.1 e).1.1
      omega)
    have hz : ((L.length : Int) == 0) = true := by rw [beq_iff_eq]; omega
    clear hL
    go_wp2_with (first
      | (go_at_call 12; (with_reducible refine (tbuild_any A1 L.length c1 L _ HR1.out hc1).mono ?_); rintro r w2 ⟨E2, v2, rfl, hE2, ho2, hb2⟩; have hne := HNo.out E2 hE2; have hneb : ((E2 : Int) != 0) = true := (by simpa using hne); have HB2 := hid (below_then HB1.out hb2); clear hE2 ho2)
      | (go_at_call 11; (with_reducible refine (tawake_any _).mono ?_); rintro e w6 ⟨rfl, hb6⟩; have HB6 := hid (below_then HB2.out hb6)))
    go_ret
    exact ⟨by first | rfl | simp, HB6.out⟩
  · have HFit : Hid (FitT L) := hid (fit_small HS1.out.2 HS1.out.1 (by omega) (by omega))
    go_wp2_with (first
      | (go_at_call 12; (with_reducible refine (build_tab A1 L.length c1 L _ HR1.out hc1 HFit.out).mono ?_); rintro r w2 ⟨A2, n2, c2, rfl, hn2, ho2, hr2, hc2, hb2⟩; have HR2 := hid hr2; have HB2 := hid (below_then HB1.out hb2); have HC2 := hid hb2; clear ho2 hr2 hn2 hb2)
      | (go_at_call 15; (with_reducible refine (open_tab A2 n2 c2 L _ HR2.out hc2 HFit.out).mono ?_); rintro r w3 ⟨bt, rfl, ht3, hb3⟩; have HT3 := hid ht3; have HB3 := hid (below_then HB2.out hb3); have HC3 := hid (below_then HC2.out hb3); clear ht3 hb3))
    have HR3 := hid (HR1.out.below HC3.out)
    have HK3 := hid (HK.out.below HB3.out)
    clear HR1 HK HC3 HC2 HB2 HR2 HB1 H
    go_loopw [10, 39] (fun th i wr => ∃ k : Nat, k ≤ L.length ∧ i = .int .i64 k ∧ th = .bool (thereB L key k) ∧ Below w3.heap.size w3 wr) (fun _ i wr => L.length - (intOf i).toNat)
    case atStart => exact ⟨0, Nat.zero_le _, rfl, rfl, Below.refl _ _⟩
    case round =>
      obtain ⟨k, hk, rfl, rfl, hB⟩ := hrel
      have HTr := hid (HT3.out.below hB)
      have HRr := hid (HR3.out.below hB)
      have HKr := hid (HK3.out.below hB)
      have HBr := hid (below_then HB3.out hB)
      by_cases hlt : k < L.length
      · obtain ⟨ad, rfl, hen⟩ := HRr.out.at_ hlt
        have hsucc := there_succ (key := key) hlt
        have hle := key_least HS1.out.1 hlt
        have hmo := key_most HS1.out.1 hlt
        have hfh := filt_has (elt_mem hlt)
        obtain ⟨C0, hC0⟩ : ∃ C, cmpB (eKey (elt noEnt L k)) (eKey (elt noEnt L 0)) = C := ⟨_, rfl⟩
        obtain ⟨C1, hC1⟩ : ∃ C, cmpB (eKey (elt noEnt L k)) (eKey (elt noEnt L (L.length - 1))) = C := ⟨_, rfl⟩
        rw [hC0] at hle
        rw [hC1] at hmo
        have HC0 := hid hC0
        have HC1 := hid hC1
        have HFh := hid hfh
        obtain ⟨K0, hK0⟩ : ∃ K, eKey (elt noEnt L 0) = K := ⟨_, rfl⟩
        obtain ⟨K1, hK1⟩ : ∃ K, eKey (elt noEnt L (L.length - 1)) = K := ⟨_, rfl⟩
        have HLe := hid (fun (u : World) (hu : Below wr.heap.size wr u) => tleast_row bt L (filtB L) u (HTr.out.below hu) (by omega) HS1.out.2)
        have HMo := hid (fun (u : World) (hu : Below wr.heap.size wr u) => tmost_row bt L (filtB L) u (HTr.out.below hu) (by omega) HS1.out.2)
        rw [hK0] at HLe HC0
        rw [hK1] at HMo HC1
        obtain ⟨TH, hTH⟩ : ∃ T, thereB L key k = T := ⟨_, rfl⟩
        rw [hTH] at hsucc
        have HSu := hid hsucc
        obtain ⟨x, hx⟩ : ∃ x, elt noEnt L k = x := ⟨_, rfl⟩
        rw [hx] at hen HC0 HC1 HFh HSu
        obtain ⟨Ak, nk, ck, Av, nv, cv, a0, a1, a2, a3, a4, a5, a6, a7, a8⟩ := hen
        have hdl : decide (C0 < 0) = false := decide_eq_false (by omega)
        have hdm : decide ((0 : Int) < C1) = false := decide_eq_false (by omega)
        have hbxx := heap_alloc_new wr (.cells #[.slice Ak nk ck, .int .i64 (eSeq x), .bool (eGone x), .int .i64 (eTil x), .slice Av nv cv] 42)
        have hBx := below_alloc' (Below.refl wr.heap.size wr) (.cells #[.slice Ak nk ck, .int .i64 (eSeq x), .bool (eGone x), .int .i64 (eTil x), .slice Av nv cv] 42)
        have HX5 := hid (a5.below hBx)
        rw [hTH]
        clear hsucc hfh hC0 hC1 hK0 hK1 hTH hx a5 a6
        go_upto_region 12 with (fail)
        generalize hW5 : wr.alloc (.cells #[.slice Ak nk ck, .int .i64 (eSeq x), .bool (eGone x), .int .i64 (eTil x), .slice Av nv cv] 42) = W5 at *
        clear hW5
        have g0 := box_at hbxx 0 _ rfl
        have HBx := hid hBx
        have HTW := hid (fun (u : World) (hu : Below W5.heap.size W5 u) => HTr.out.below (below_then HBx.out hu))
        have HLe5 := hid (fun (u : World) (hu : Below W5.heap.size W5 u) => HLe.out u (below_then HBx.out hu))
        have HMo5 := hid (fun (u : World) (hu : Below W5.heap.size W5 u) => HMo.out u (below_then HBx.out hu))
        have HKW := hid (fun (u : World) (hu : Below W5.heap.size W5 u) => HKr.out.below (below_then HBx.out hu))
        have HBW := hid (fun (u : World) (hu : Below W5.heap.size W5 u) => below_then (below_then hB HBx.out) hu)
        clear hbxx hBx hB hle hmo
        apply wp_region_txt [none, none, none, none, none, none, none, none, none, none, none, none, none, none, none, none, none, none, none, none, none, none, none, none, none, none, none, none, none, none, none, none, none, none, none, none, none, none, none, none, none, none, none, some 0, some 1, some 2, some 3, some 4, some 5, some 6, some 7, some 8, some 9, some 10, some 11, some 12, some 13, some 14, some 15, some 16, some 17, some 18, some 19, some 20, none, none, none, none, none, none, none, none, none, none, none, none, none, none, none, none, none, none, none, none, none, none, none, none, none, none, none, none, none, none, none, none, none, none, none, none] [9, 17] [] [_, _, _, _, _, _, _, _, _, undef, _, _, _, _, _, _, _, undef, _, _, _] [[], [], [], [], [], [], [], [], [], _, [], [], [], [], [], [], [], _, [], [], []]
        case hm => rfl
        case hs => rfl
        case hst => kernel_rfl
        case hput => exact OpsOK.cons (fun _ _ => rfl) (OpsOK.cons (fun _ _ => rfl) (OpsOK.cons (fun _ _ => rfl) (OpsOK.cons (fun _ _ => rfl) (OpsOK.cons (fun _ _ => rfl) (OpsOK.cons (fun _ _ => rfl) (OpsOK.cons (fun _ _ => rfl) (OpsOK.cons (fun _ _ => rfl) (OpsOK.cons (fun _ _ => rfl) (OpsOK.cons (fun _ _ => rfl) (OpsOK.cons (fun _ _ => rfl) (OpsOK.cons (fun _ _ => rfl) (OpsOK.cons (fun _ _ => rfl) (OpsOK.cons (fun _ _ => rfl) (OpsOK.cons (fun _ _ => rfl) (OpsOK.cons (fun _ _ => rfl) (OpsOK.cons (fun _ _ => rfl) (OpsOK.cons (fun _ _ => rfl) (OpsOK.cons (fun _ _ => rfl) (OpsOK.cons (fun _ _ => rfl) (OpsOK.cons (fun _ _ => rfl) (OpsOK.nil)))))))))))))))))))))
        case hops =>
          refine OpsOK.cons ?_ ?_
          · intro u W K hB hd hK
            replace hK := hk_val hK (by decide) (by rfl)
            clear hd
            simp only [lay, Act.put, List.setIfInBounds_toArray, List.set_cons_zero, List.set_cons_succ] at hK ⊢
            go_simp
            exact hK.out _ _ rfl (Below.refl _ _)
          refine OpsOK.cons ?_ ?_
          · intro u W K hB hd hK
            replace hK := hk_val hK (by decide) (by rfl)
            clear hd
            simp only [lay, Act.put, List.setIfInBounds_toArray, List.set_cons_zero, List.set_cons_succ] at hK ⊢
            go_simp
            exact hK.out _ _ rfl (Below.refl _ _)
          refine OpsOK.cons ?_ ?_
          · intro u W K hB hd hK
            have h1 := fact_val (dep_of hd 1 (by kernel_rfl) (by kernel_rfl)) (by decide)
            dsimp only [nth] at h1
            replace hK := hk_val hK (by decide) (by rfl)
            clear hd
            simp only [lay, Act.put, List.setIfInBounds_toArray, List.set_cons_zero, List.set_cons_succ, h1] at hK ⊢
            have y0 := below_cell hB g0
            go_simp
            exact hK.out _ _ rfl (Below.refl _ _)
          refine OpsOK.cons ?_ ?_
          · intro u W K hB hd hK
            have h0 := fact_val (dep_of hd 0 (by kernel_rfl) (by kernel_rfl)) (by decide)
            dsimp only [nth] at h0
            have h2 := fact_val (dep_of hd 2 (by kernel_rfl) (by kernel_rfl)) (by decide)
            dsimp only [nth] at h2
            replace hK := hk_val hK (by decide) (by rfl)
            clear hd
            simp only [lay, Act.put, List.setIfInBounds_toArray, List.set_cons_zero, List.set_cons_succ, h0, h2] at hK ⊢
            go_simp
            first
              | (go_at_call 28; (with_reducible refine (tmay_any bt L (filtB L) Ak nk ck (eKey x) W (HTW.out W hB) (HX5.out.below hB)).mono ?_); rintro r w9 ⟨rfl, hb⟩; rw [HFh.out]; exact hK.out _ _ rfl hb)
              | (go_at_call 25; (with_reducible refine (HLe5.out W hB).mono ?_); rintro r w9 ⟨v9, rfl, ho9, hb9⟩; exact hK.out _ _ ho9 hb9)
              | (go_at_call 26; (with_reducible refine (HMo5.out W hB).mono ?_); rintro r w9 ⟨v9, rfl, ho9, hb9⟩; exact hK.out _ _ ho9 hb9)
              | (go_at_call 24; (with_reducible refine (refcompare_row Ak nk ck (eKey x) _ _ K0 W (HX5.out.below hB) h9).mono ?_); rintro r w9 ⟨rfl, hb⟩; rw [HC0.out]; exact hK.out _ _ rfl hb)
              | (go_at_call 24; (with_reducible refine (refcompare_row Ak nk ck (eKey x) _ _ K1 W (HX5.out.below hB) h17).mono ?_); rintro r w9 ⟨rfl, hb⟩; rw [HC1.out]; exact hK.out _ _ rfl hb)
          refine OpsOK.cons ?_ ?_
          · intro u W K hB hd hK
            have h3 := fact_val (dep_of hd 3 (by kernel_rfl) (by kernel_rfl)) (by decide)
            dsimp only [nth] at h3
            replace hK := hk_val hK (by decide) (by rfl)
            clear hd
            simp only [lay, Act.put, List.setIfInBounds_toArray, List.set_cons_zero, List.set_cons_succ, h3] at hK ⊢
            go_simp
            exact hK.out _ _ rfl (Below.refl _ _)
          refine OpsOK.cons ?_ ?_
          · intro u W K hB hd hK
            have h3 := fact_val (dep_of hd 3 (by kernel_rfl) (by kernel_rfl)) (by decide)
            dsimp only [nth] at h3
            have h4 := fact_val (dep_of hd 4 (by kernel_rfl) (by kernel_rfl)) (by decide)
            dsimp only [nth] at h4
            replace hK := hk_val hK (by decide) (by rfl)
            clear hd
            simp only [lay, Act.put, List.setIfInBounds_toArray, List.set_cons_zero, List.set_cons_succ, h3, h4] at hK ⊢
            go_simp
            exact hK.out _ _ rfl (Below.refl _ _)
          refine OpsOK.cons ?_ ?_
          · intro u W K hB hd hK
            have h5 := fact_val (dep_of hd 5 (by kernel_rfl) (by kernel_rfl)) (by decide)
            dsimp only [nth] at h5
            replace hK := hk_val hK (by decide) (by rfl)
            clear hd
            simp only [lay, Act.put, List.setIfInBounds_toArray, List.set_cons_zero, List.set_cons_succ, h5] at hK ⊢
            go_simp
            exact hK.out _ _ rfl (Below.refl _ _)
          refine OpsOK.cons ?_ ?_
          · intro u W K hB hd hK
            have h5 := fact_val (dep_of hd 5 (by kernel_rfl) (by kernel_rfl)) (by decide)
            dsimp only [nth] at h5
            have h6 := fact_val (dep_of hd 6 (by kernel_rfl) (by kernel_rfl)) (by decide)
            dsimp only [nth] at h6
            replace hK := hk_val hK (by decide) (by rfl)
            clear hd
            simp only [lay, Act.put, List.setIfInBounds_toArray, List.set_cons_zero, List.set_cons_succ, h5, h6] at hK ⊢
            have y0 := below_cell hB g0
            go_simp
            exact hK.out _ _ rfl (Below.refl _ _)
          refine OpsOK.cons ?_ ?_
          · intro u W K hB hd hK
            have h5 := fact_val (dep_of hd 5 (by kernel_rfl) (by kernel_rfl)) (by decide)
            dsimp only [nth] at h5
            replace hK := hk_val hK (by decide) (by rfl)
            clear hd
            simp only [lay, Act.put, List.setIfInBounds_toArray, List.set_cons_zero, List.set_cons_succ, h5] at hK ⊢
            go_simp
            exact hK.out _ _ rfl (Below.refl _ _)
          refine OpsOK.cons ?_ ?_
          · intro u W K hB hd hK
            have h5 := fact_val (dep_of hd 5 (by kernel_rfl) (by kernel_rfl)) (by decide)
            dsimp only [nth] at h5
            have h8 := fact_val (dep_of hd 8 (by kernel_rfl) (by kernel_rfl)) (by decide)
            dsimp only [nth] at h8
            replace hK := hk_row hB hK (by decide) (by rfl)
            clear hd
            simp only [lay, Act.put, List.setIfInBounds_toArray, List.set_cons_zero, List.set_cons_succ, h5, h8] at hK ⊢
            go_simp
            first
              | (go_at_call 28; (with_reducible refine (tmay_any bt L (filtB L) Ak nk ck (eKey x) W (HTW.out W hB) (HX5.out.below hB)).mono ?_); rintro r w9 ⟨rfl, hb⟩; rw [HFh.out]; exact hK.out _ _ rfl hb)
              | (go_at_call 25; (with_reducible refine (HLe5.out W hB).mono ?_); rintro r w9 ⟨v9, rfl, ho9, hb9⟩; exact hK.out _ _ ho9 hb9)
              | (go_at_call 26; (with_reducible refine (HMo5.out W hB).mono ?_); rintro r w9 ⟨v9, rfl, ho9, hb9⟩; exact hK.out _ _ ho9 hb9)
              | (go_at_call 24; (with_reducible refine (refcompare_row Ak nk ck (eKey x) _ _ K0 W (HX5.out.below hB) h9).mono ?_); rintro r w9 ⟨rfl, hb⟩; rw [HC0.out]; exact hK.out _ _ rfl hb)
              | (go_at_call 24; (with_reducible refine (refcompare_row Ak nk ck (eKey x) _ _ K1 W (HX5.out.below hB) h17).mono ?_); rintro r w9 ⟨rfl, hb⟩; rw [HC1.out]; exact hK.out _ _ rfl hb)
          refine OpsOK.cons ?_ ?_
          · intro u W K hB hd hK
            have h5 := fact_val (dep_of hd 5 (by kernel_rfl) (by kernel_rfl)) (by decide)
            dsimp only [nth] at h5
            have h7 := fact_val (dep_of hd 7 (by kernel_rfl) (by kernel_rfl)) (by decide)
            dsimp only [nth] at h7
            have h9 := fact_row (dep_of hd 9 (by kernel_rfl) (by kernel_rfl)) (by decide)
            dsimp only [nth] at h9
            replace hK := hk_val hK (by decide) (by rfl)
            clear hd
            simp only [lay, Act.put, List.setIfInBounds_toArray, List.set_cons_zero, List.set_cons_succ, h5, h7] at hK ⊢
            go_simp
            first
              | (go_at_call 28; (with_reducible refine (tmay_any bt L (filtB L) Ak nk ck (eKey x) W (HTW.out W hB) (HX5.out.below hB)).mono ?_); rintro r w9 ⟨rfl, hb⟩; rw [HFh.out]; exact hK.out _ _ rfl hb)
              | (go_at_call 25; (with_reducible refine (HLe5.out W hB).mono ?_); rintro r w9 ⟨v9, rfl, ho9, hb9⟩; exact hK.out _ _ ho9 hb9)
              | (go_at_call 26; (with_reducible refine (HMo5.out W hB).mono ?_); rintro r w9 ⟨v9, rfl, ho9, hb9⟩; exact hK.out _ _ ho9 hb9)
              | (go_at_call 24; (with_reducible refine (refcompare_row Ak nk ck (eKey x) _ _ K0 W (HX5.out.below hB) h9).mono ?_); rintro r w9 ⟨rfl, hb⟩; rw [HC0.out]; exact hK.out _ _ rfl hb)
              | (go_at_call 24; (with_reducible refine (refcompare_row Ak nk ck (eKey x) _ _ K1 W (HX5.out.below hB) h17).mono ?_); rintro r w9 ⟨rfl, hb⟩; rw [HC1.out]; exact hK.out _ _ rfl hb)
          refine OpsOK.cons ?_ ?_
          · intro u W K hB hd hK
            have h5 := fact_val (dep_of hd 5 (by kernel_rfl) (by kernel_rfl)) (by decide)
            dsimp only [nth] at h5
            have h10 := fact_val (dep_of hd 10 (by kernel_rfl) (by kernel_rfl)) (by decide)
            dsimp only [nth] at h10
            replace hK := hk_val hK (by decide) (by rfl)
            clear hd
            simp only [lay, Act.put, List.setIfInBounds_toArray, List.set_cons_zero, List.set_cons_succ, h5, h10] at hK ⊢
            go_simp
            exact hK.out _ _ rfl (Below.refl _ _)
          refine OpsOK.cons ?_ ?_
          · intro u W K hB hd hK
            have h5 := fact_val (dep_of hd 5 (by kernel_rfl) (by kernel_rfl)) (by decide)
            dsimp only [nth] at h5
            have h11 := fact_val (dep_of hd 11 (by kernel_rfl) (by kernel_rfl)) (by decide)
            dsimp only [nth] at h11
            replace hK := hk_val hK (by decide) (by rfl)
            clear hd
            simp only [lay, Act.put, List.setIfInBounds_toArray, List.set_cons_zero, List.set_cons_succ, h5, h11] at hK ⊢
            go_simp
            exact hK.out _ _ rfl (Below.refl _ _)
          refine OpsOK.cons ?_ ?_
          · intro u W K hB hd hK
            have h10 := fact_val (dep_of hd 10 (by kernel_rfl) (by kernel_rfl)) (by decide)
            dsimp only [nth] at h10
            have h12 := fact_val (dep_of hd 12 (by kernel_rfl) (by kernel_rfl)) (by decide)
            dsimp only [nth] at h12
            replace hK := hk_val hK (by decide) (by rfl)
            clear hd
            simp only [lay, Act.put, List.setIfInBounds_toArray, List.set_cons_zero, List.set_cons_succ, h10, h12] at hK ⊢
            go_simp
            exact hK.out _ _ rfl (Below.refl _ _)
          refine OpsOK.cons ?_ ?_
          · intro u W K hB hd hK
            have h13 := fact_val (dep_of hd 13 (by kernel_rfl) (by kernel_rfl)) (by decide)
            dsimp only [nth] at h13
            replace hK := hk_val hK (by decide) (by rfl)
            clear hd
            simp only [lay, Act.put, List.setIfInBounds_toArray, List.set_cons_zero, List.set_cons_succ, h13] at hK ⊢
            go_simp
            exact hK.out _ _ rfl (Below.refl _ _)
          refine OpsOK.cons ?_ ?_
          · intro u W K hB hd hK
            have h13 := fact_val (dep_of hd 13 (by kernel_rfl) (by kernel_rfl)) (by decide)
            dsimp only [nth] at h13
            have h14 := fact_val (dep_of hd 14 (by kernel_rfl) (by kernel_rfl)) (by decide)
            dsimp only [nth] at h14
            replace hK := hk_val hK (by decide) (by rfl)
            clear hd
            simp only [lay, Act.put, List.setIfInBounds_toArray, List.set_cons_zero, List.set_cons_succ, h13, h14] at hK ⊢
            have y0 := below_cell hB g0
            go_simp
            exact hK.out _ _ rfl (Below.refl _ _)
          refine OpsOK.cons ?_ ?_
          · intro u W K hB hd hK
            have h13 := fact_val (dep_of hd 13 (by kernel_rfl) (by kernel_rfl)) (by decide)
            dsimp only [nth] at h13
            replace hK := hk_val hK (by decide) (by rfl)
            clear hd
            simp only [lay, Act.put, List.setIfInBounds_toArray, List.set_cons_zero, List.set_cons_succ, h13] at hK ⊢
            go_simp
            exact hK.out _ _ rfl (Below.refl _ _)
          refine OpsOK.cons ?_ ?_
          · intro u W K hB hd hK
            have h13 := fact_val (dep_of hd 13 (by kernel_rfl) (by kernel_rfl)) (by decide)
            dsimp only [nth] at h13
            have h16 := fact_val (dep_of hd 16 (by kernel_rfl) (by kernel_rfl)) (by decide)
            dsimp only [nth] at h16
            replace hK := hk_row hB hK (by decide) (by rfl)
            clear hd
            simp only [lay, Act.put, List.setIfInBounds_toArray, List.set_cons_zero, List.set_cons_succ, h13, h16] at hK ⊢
            go_simp
            first
              | (go_at_call 28; (with_reducible refine (tmay_any bt L (filtB L) Ak nk ck (eKey x) W (HTW.out W hB) (HX5.out.below hB)).mono ?_); rintro r w9 ⟨rfl, hb⟩; rw [HFh.out]; exact hK.out _ _ rfl hb)
              | (go_at_call 25; (with_reducible refine (HLe5.out W hB).mono ?_); rintro r w9 ⟨v9, rfl, ho9, hb9⟩; exact hK.out _ _ ho9 hb9)
              | (go_at_call 26; (with_reducible refine (HMo5.out W hB).mono ?_); rintro r w9 ⟨v9, rfl, ho9, hb9⟩; exact hK.out _ _ ho9 hb9)
              | (go_at_call 24; (with_reducible refine (refcompare_row Ak nk ck (eKey x) _ _ K0 W (HX5.out.below hB) h9).mono ?_); rintro r w9 ⟨rfl, hb⟩; rw [HC0.out]; exact hK.out _ _ rfl hb)
              | (go_at_call 24; (with_reducible refine (refcompare_row Ak nk ck (eKey x) _ _ K1 W (HX5.out.below hB) h17).mono ?_); rintro r w9 ⟨rfl, hb⟩; rw [HC1.out]; exact hK.out _ _ rfl hb)
          refine OpsOK.cons ?_ ?_
          · intro u W K hB hd hK
            have h13 := fact_val (dep_of hd 13 (by kernel_rfl) (by kernel_rfl)) (by decide)
            dsimp only [nth] at h13
            have h15 := fact_val (dep_of hd 15 (by kernel_rfl) (by kernel_rfl)) (by decide)
            dsimp only [nth] at h15
            have h17 := fact_row (dep_of hd 17 (by kernel_rfl) (by kernel_rfl)) (by decide)
            dsimp only [nth] at h17
            replace hK := hk_val hK (by decide) (by rfl)
            clear hd
            simp only [lay, Act.put, List.setIfInBounds_toArray, List.set_cons_zero, List.set_cons_succ, h13, h15] at hK ⊢
            go_simp
            first
              | (go_at_call 28; (with_reducible refine (tmay_any bt L (filtB L) Ak nk ck (eKey x) W (HTW.out W hB) (HX5.out.below hB)).mono ?_); rintro r w9 ⟨rfl, hb⟩; rw [HFh.out]; exact hK.out _ _ rfl hb)
              | (go_at_call 25; (with_reducible refine (HLe5.out W hB).mono ?_); rintro r w9 ⟨v9, rfl, ho9, hb9⟩; exact hK.out _ _ ho9 hb9)
              | (go_at_call 26; (with_reducible refine (HMo5.out W hB).mono ?_); rintro r w9 ⟨v9, rfl, ho9, hb9⟩; exact hK.out _ _ ho9 hb9)
              | (go_at_call 24; (with_reducible refine (refcompare_row Ak nk ck (eKey x) _ _ K0 W (HX5.out.below hB) h9).mono ?_); rintro r w9 ⟨rfl, hb⟩; rw [HC0.out]; exact hK.out _ _ rfl hb)
              | (go_at_call 24; (with_reducible refine (refcompare_row Ak nk ck (eKey x) _ _ K1 W (HX5.out.below hB) h17).mono ?_); rintro r w9 ⟨rfl, hb⟩; rw [HC1.out]; exact hK.out _ _ rfl hb)
          refine OpsOK.cons ?_ ?_
          · intro u W K hB hd hK
            have h13 := fact_val (dep_of hd 13 (by kernel_rfl) (by kernel_rfl)) (by decide)
            dsimp only [nth] at h13
            have h18 := fact_val (dep_of hd 18 (by kernel_rfl) (by kernel_rfl)) (by decide)
            dsimp only [nth] at h18
            replace hK := hk_val hK (by decide) (by rfl)
            clear hd
            simp only [lay, Act.put, List.setIfInBounds_toArray, List.set_cons_zero, List.set_cons_succ, h13, h18] at hK ⊢
            go_simp
            exact hK.out _ _ rfl (Below.refl _ _)
          refine OpsOK.cons ?_ ?_
          · intro u W K hB hd hK
            have h13 := fact_val (dep_of hd 13 (by kernel_rfl) (by kernel_rfl)) (by decide)
            dsimp only [nth] at h13
            have h19 := fact_val (dep_of hd 19 (by kernel_rfl) (by kernel_rfl)) (by decide)
            dsimp only [nth] at h19
            replace hK := hk_val hK (by decide) (by rfl)
            clear hd
            simp only [lay, Act.put, List.setIfInBounds_toArray, List.set_cons_zero, List.set_cons_succ, h13, h19] at hK ⊢
            go_simp
            exact hK.out _ _ rfl (Below.refl _ _)
          exact OpsOK.nil
        intro u W hB hf
        have h0 := fact_val (hf 0 (by decide) (by decide)) (by decide)
        dsimp only [nth] at h0
        have h1 := fact_val (hf 1 (by decide) (by decide)) (by decide)
        dsimp only [nth] at h1
        have h2 := fact_val (hf 2 (by decide) (by decide)) (by decide)
        dsimp only [nth] at h2
        have h3 := fact_val (hf 3 (by decide) (by decide)) (by decide)
        dsimp only [nth] at h3
        have h4 := fact_val (hf 4 (by decide) (by decide)) (by decide)
        dsimp only [nth] at h4
        have h5 := fact_val (hf 5 (by decide) (by decide)) (by decide)
        dsimp only [nth] at h5
        have h6 := fact_val (hf 6 (by decide) (by decide)) (by decide)
        dsimp only [nth] at h6
        have h7 := fact_val (hf 7 (by decide) (by decide)) (by decide)
        dsimp only [nth] at h7
        have h8 := fact_val (hf 8 (by decide) (by decide)) (by decide)
        dsimp only [nth] at h8
        have h9 := fact_row (hf 9 (by decide) (by decide)) (by decide)
        dsimp only [nth] at h9
        have h10 := fact_val (hf 10 (by decide) (by decide)) (by decide)
        dsimp only [nth] at h10
        have h11 := fact_val (hf 11 (by decide) (by decide)) (by decide)
        dsimp only [nth] at h11
        have h12 := fact_val (hf 12 (by decide) (by decide)) (by decide)
        dsimp only [nth] at h12
        have h13 := fact_val (hf 13 (by decide) (by decide)) (by decide)
        dsimp only [nth] at h13
        have h14 := fact_val (hf 14 (by decide) (by decide)) (by decide)
        dsimp only [nth] at h14
        have h15 := fact_val (hf 15 (by decide) (by decide)) (by decide)
        dsimp only [nth] at h15
        have h16 := fact_val (hf 16 (by decide) (by decide)) (by decide)
        dsimp only [nth] at h16
        have h17 := fact_row (hf 17 (by decide) (by decide)) (by decide)
        dsimp only [nth] at h17
        have h18 := fact_val (hf 18 (by decide) (by decide)) (by decide)
        dsimp only [nth] at h18
        have h19 := fact_val (hf 19 (by decide) (by decide)) (by decide)
        dsimp only [nth] at h19
        have h20 := fact_val (hf 20 (by decide) (by decide)) (by decide)
        dsimp only [nth] at h20
        clear hf
        simp only [lay, h0, h1, h2, h3, h4, h5, h6, h7, h8, h10, h11, h12, h13, h14, h15, h16, h18, h19, h20]
        clear h0 h1 h2 h3 h4 h5 h6 h7 h8 h10 h11 h12 h13 h14 h15 h16 h18 h19 h20
        have y0 := below_cell hB g0
        have HB9 := hid (HBW.out W hB)
        have hcv1 := (HX5.out.below hB).conv ck
        have hcv2 := (HKW.out W hB).conv cr
        clear h9 h17
        cases TH
        · by_cases heq : eKey x = key
          · have hst : ((bstr (eKey x)).toList == (bstr key).toList) = true := by rw [str_dec]; exact decide_eq_true heq
            have HN : Hid (thereB L key (k + 1) = true) := hid (by rw [HSu.out, decide_eq_true heq]; rfl)
            clear heq
            go_wp2
            go_roundw
            case rel => exact ⟨k + 1, by omega, by go_num, by rw [HN.out], HB9.out⟩
            case measure => simp [intOf]; omega
          · have hst : ((bstr (eKey x)).toList == (bstr key).toList) = false := by rw [str_dec]; exact decide_eq_false heq
            have HN : Hid (thereB L key (k + 1) = false) := hid (by rw [HSu.out, decide_eq_false heq]; rfl)
            clear heq
            go_wp2
            go_roundw
            case rel => exact ⟨k + 1, by omega, by go_num, by rw [HN.out], HB9.out⟩
            case measure => simp [intOf]; omega
        · have HN : Hid (thereB L key (k + 1) = true) := hid (by rw [HSu.out]; rfl)
          go_wp2
          go_roundw
          case rel => exact ⟨k + 1, by omega, by go_num, by rw [HN.out], HB9.out⟩
          case measure => simp [intOf]; omega
      · obtain rfl : k = L.length := by omega
        have hget := there_get (key := key) HS1.out.2
        have hhas := there_has (L := L) (key := key)
        have HGt := hid (tget_any bt L (filtB L) Ar nr cr key 4611686018427387904 wr HTr.out HKr.out HS1.out.1 HS1.out.2 (by omega) (fun x hx => filt_has hx))
        rw [hget] at HGt
        clear hget
        obtain ⟨TH, hTH⟩ : ∃ T, thereB L key L.length = T := ⟨_, rfl⟩
        obtain ⟨HH, hHH⟩ : ∃ T, hasB (filtB L) key = T := ⟨_, rfl⟩
        rw [hTH] at hhas HGt
        rw [hHH] at hhas
        rw [hTH]
        have HHH := hid hHH
        generalize (getR key 4611686018427387904 L).1 = gx at *
        clear hTH hHH
        cases TH
        all_goals cases HH
        all_goals (try (exact absurd (hhas rfl) (by decide)))
        all_goals
          clear hhas
          go_wp2_with (first
            | (go_at_call 20; (with_reducible refine (HGt.out).mono ?_); rintro r w4 ⟨Ag, ng, cg, Avg, nvg, cvg, rfl, hg1, hg2, hb4⟩; have HC4 := hid (below_alloc' hb4 (.cells #[.slice Ag ng cg, .int .i64 (eSeq gx), .bool (eGone gx), .int .i64 (eTil gx), .slice Avg nvg cvg] 42)); have HT4 := hid (HTr.out.below HC4.out); have HK4 := hid (HKr.out.below HC4.out); have HB4 := hid (below_then HBr.out HC4.out); clear hg1 hg2)
            | (go_at_call 28; (with_reducible refine (tmay_any bt L (filtB L) Ar nr cr key _ HT4.out HK4.out).mono ?_); rintro r w5 ⟨rfl, hb5⟩; rw [HHH.out]; have HT5 := hid (HT4.out.below hb5); have HB5 := hid (below_then HB4.out hb5))
            | (go_at_call 18; (with_reducible refine (tall_any bt L (filtB L) _ HT5.out HS1.out.1 HS1.out.2 (by omega)).mono ?_); rintro r w6 ⟨v6, rfl, ho6, hb6⟩; have HO6 := hid ho6; have HB6 := hid (below_then HB5.out hb6); clear ho6)
            | (go_at_call 31; (with_reducible refine (refordered_rows HO6.out HS1.out.1).mono ?_); rintro r w7 ⟨rfl, hb7⟩; have HB7 := hid (below_then HB6.out hb7))
            | (go_at_call 11; (with_reducible refine (tawake_any _).mono ?_); rintro e w8 ⟨rfl, hb8⟩; have HB8 := hid (below_then HB7.out hb8)))
          go_ret
          exact ⟨by first | rfl | simp, HB8.out⟩
end Go.Proofs.Ytkkclkknpjapcaa
/-! ### RG -/
namespace Go.Proofs.Ytkkclkknpjapcaa
open Go.RowKit
set_option linter.unusedVariables false
set_option linter.unusedSimpArgs false

section
variable {P : Program} {ops : Array Oper} {Q : Exit → Act → World → Prop}
def OpOKG (P : Program) (ops : Array Oper) (Q : Exit → Act → World → Prop) (mk : (Nat → Value) → Act) (T : Nat → Value → World → Prop) (w : World) (i : Nat) (o : Oper) : Prop :=
  ∀ (u : Nat → Value) (W : World) (K : Act → World → Prop), Below w.heap.size w W →
    (∀ e ∈ o.after, Region.binds .any e = true → T e.on (u e.on) W) →
    Hid (∀ v W', T i v W' → Below W.heap.size W W' → K ((mk u).put o.dst v) W') →
    if Region.wanted o (yielded ops (mk u).tmps) = true then Oper.wp P o (mk u) W K Q else K ((mk u).put o.dst undef) W
structure InvG (ops : Array Oper) (T : Nat → Value → World → Prop) (w : World) (listed : Array Bool) (u : Nat → Value) (W : World) : Prop where
  below : Below w.heap.size w W
  size : listed.size = ops.size
  facts : ∀ i, listed.getD i false = true → T i (u i) W
def noEat : Nat → Nat := fun _ => 1000000
def statG (ops : Array Oper) : Bool := statOK ops (fun _ => false) noEat (fun _ => none)
theorem inv_anyG {T : Nat → Value → World → Prop} {w : World} {mk : (Nat → Value) → Act} (hst : statG ops = true)
    (hstab : ∀ j v W W', T j v W → Below W.heap.size W W' → T j v W')
    (hput : ∀ i o, ops[i]? = some o → PutOK mk i o) (hops : ∀ i o, ops[i]? = some o → OpOKG P ops Q mk T w i o)
    (hend : ∀ u W, Below w.heap.size w W → (∀ i, i < ops.size → T i (u i) W) → Q .normal (mk u) W) :
    ∀ (fuel : Nat) (listed : Array Bool) (u : Nat → Value) (W : World), InvG ops T w listed u W → listed.toList.count false ≤ fuel → wpAny P .any ops Q fuel listed (mk u) W := by
  have fin : ∀ (listed : Array Bool) (u : Nat → Value) (W : World), InvG ops T w listed u W → Region.ready .any ops listed = [] → Q .normal (mk u) W := fun listed u W h hr =>
    hend u W h.below fun i hi => h.facts i (all_listed hst h.size hr i hi)
  intro fuel
  induction fuel with
  | zero =>
    intro listed u W h hc
    have hr : Region.ready .any ops listed = [] := by
      refine List.eq_nil_iff_forall_not_mem.2 fun i hi => ?_
      obtain ⟨h0, _⟩ := mem_ready.1 hi
      obtain ⟨h1, hlt⟩ := getD_false_of h0
      have : false ∈ listed.toList := by
        simp [hlt] at h1
        rw [← h1]
        simp
      have := List.count_pos_iff.2 this
      omega
    exact ⟨hr, fin listed u W h hr⟩
  | succ fuel ih =>
    intro listed u W h hc
    refine ⟨fin listed u W h, fun i hi => ?_⟩
    obtain ⟨hun, o, ho, hall⟩ := mem_ready.1 hi
    obtain ⟨hunf, hlt⟩ := getD_false_of hun
    refine wpOp_step ho fun K' hK => hops i o ho u W K' h.below (fun e he hb => h.facts e.on (hall e he hb)) fun v W' hT hc' => hK _ _ ?_
    rw [hput i o ho u v]
    refine ih _ _ _ ⟨below_then h.below hc', by simpa using h.size, fun j h1 => ?_⟩ ?_
    · by_cases hji : j = i
      · subst hji; rw [upd_same]; exact hT
      · rw [upd_ne u v hji]
        rw [getD_set_ne false (Ne.symm hji)] at h1
        exact hstab _ _ _ _ (h.facts j h1) hc'
    · have : (listed.setIfInBounds i true).toList.count false = listed.toList.count false - 1 := by
        rw [Array.toList_setIfInBounds, List.count_set (by simpa using hlt)]
        simp [hlt] at hunf
        simp [hunf]
      omega
end
/-- A fact on a value that stays as memory grows. -/
def Stab (q : Value → World → Prop) : Prop := ∀ v W W', q v W → Below W.heap.size W W' → q v W'
def noP : Value → World → Prop := fun _ _ => True
theorem noP_stab : Stab noP := fun _ _ _ _ _ => trivial
inductive StabL : List (Value → World → Prop) → Prop
  | nil : StabL []
  | cons {q : Value → World → Prop} {l : List (Value → World → Prop)} (h : Stab q) (k : StabL l) : StabL (q :: l)
theorem StabL.nth {l : List (Value → World → Prop)} (h : StabL l) : ∀ j, Stab (nth l j noP) := by
  induction h with
  | nil => intro j; exact noP_stab
  | cons h k ih =>
    intro j
    cases j with
    | zero => exact h
    | succ j => exact ih j
def FactsG (ps : List Nat) (vals : List Value) (qs : List (Value → World → Prop)) (i : Nat) (v : Value) (W : World) : Prop :=
  match ps.contains i with
  | true => nth qs i noP v W
  | false => v = nth vals i undef
theorem FactsG.stab {ps : List Nat} {vals : List Value} {qs : List (Value → World → Prop)} (hq : StabL qs) : ∀ j v W W', FactsG ps vals qs j v W → Below W.heap.size W W' → FactsG ps vals qs j v W' := by
  intro j v W W' h hb
  unfold FactsG at *
  cases hr : ps.contains j with
  | true => rw [hr] at h; exact hq.nth j v W W' h hb
  | false => rw [hr] at h; exact h
theorem dep_ofG {o : Oper} {T : Nat → Value → World → Prop} {u : Nat → Value} {W : World} (hd : ∀ e ∈ o.after, Region.binds .any e = true → T e.on (u e.on) W) (d : Nat) (h : (o.after.any fun e => Region.binds .any e && e.on == d) = true) : T d (u d) W := by
  obtain ⟨e, he, hb⟩ := Array.any_eq_true'.1 h
  simp only [Bool.and_eq_true, beq_iff_eq] at hb
  obtain ⟨hb, rfl⟩ := hb
  exact hd e he hb
theorem wp_region_gen {P : Program} {ops : Array Oper} {Q : Exit → Act → World → Prop} {id : Nat} {T : List Value} {D : List Deferred} {w : World} (s : List (Option Nat)) (ps : List Nat) (vals : List Value) (qs : List (Value → World → Prop))
    (hm : P.follows .mixedOrders = true) (hs : lay T s (was T s) = T) (hst : statG ops = true) (hq : StabL qs)
    (hput : OpsOK (PutOK fun u => ⟨(lay T s u).toArray, D⟩) 0 ops.toList)
    (hops : OpsOK (OpOKG P ops Q (fun u => ⟨(lay T s u).toArray, D⟩) (FactsG ps vals qs) w) 0 ops.toList)
    (hend : ∀ u W, Below w.heap.size w W → (∀ i, i < ops.size → FactsG ps vals qs i (u i) W) → Q .normal ⟨(lay T s u).toArray, D⟩ W) :
    (Code.region id ops true).wp P Q ⟨T.toArray, D⟩ w := by
  have get : ∀ {F : Nat → Oper → Prop}, OpsOK F 0 ops.toList → ∀ i o, ops[i]? = some o → F i o := fun h i o ho => by
    have := h.get (i := i) (o := o) (by simpa using ho)
    rwa [Nat.zero_add] at this
  have e : (⟨T.toArray, D⟩ : Act) = (fun u => (⟨(lay T s u).toArray, D⟩ : Act)) (was T s) := by simp only [hs]
  rw [e]
  refine wp_region_any hm (inv_anyG hst (FactsG.stab hq) (get hput) (get hops) hend ops.size _ (was T s) _ ?_ (by simp))
  refine ⟨(Below.refl _ w).drew, by simp, fun i h => ?_⟩
  exfalso; simp [Array.getElem?_replicate] at h; split at h <;> cases h
section
variable {o : Oper} {a : Act} {w W : World} {K : Act → World → Prop} {ps : List Nat} {vals : List Value} {qs : List (Value → World → Prop)} {i : Nat}
theorem hkg_val (hK : Hid (∀ v W', FactsG ps vals qs i v W' → Below W.heap.size W W' → K (a.put o.dst v) W')) (hr : ps.contains i = false) : Hid (∀ v W', v = nth vals i undef → Below W.heap.size W W' → K (a.put o.dst v) W') := fun v W' h1 h2 =>
  hK v W' (by unfold FactsG; rw [hr]; exact h1) h2
theorem hkg_p (hK : Hid (∀ v W', FactsG ps vals qs i v W' → Below W.heap.size W W' → K (a.put o.dst v) W')) (hr : ps.contains i = true) : Hid (∀ v W', nth qs i noP v W' → Below W.heap.size W W' → K (a.put o.dst v) W') := fun v W' h1 h2 =>
  hK v W' (by unfold FactsG; rw [hr]; exact h1) h2
theorem factg_v {v : Value} (h : FactsG ps vals qs i v W) (hr : ps.contains i = false) : v = nth vals i undef := by unfold FactsG at h; rw [hr] at h; exact h
theorem factg_p {v : Value} (h : FactsG ps vals qs i v W) (hr : ps.contains i = true) : nth qs i noP v W := by unfold FactsG at h; rw [hr] at h; exact h
end
/-- A slice of bytes. -/
def PB (xs : List UInt8) : Value → World → Prop := fun v W => ∃ A c, v = .slice A xs.length c ∧ RB W A xs.length xs ∧ xs.length ≤ c
theorem PB_stab (xs : List UInt8) : Stab (PB xs) := fun v W W' h hb => by
  obtain ⟨A, c, e, h1, h2⟩ := h
  exact ⟨A, c, e, h1.below hb, h2⟩
theorem PB.of {W : World} {base : Nat} {v : Value} {xs : List UInt8} (h : OB W base v xs) : PB xs v W := by
  obtain ⟨A, c, e, h1, h2⟩ := h.open_
  exact ⟨A, c, e, h1, h2⟩
theorem PB.conv {W : World} {v : Value} {xs : List UInt8} (h : PB xs v W) : (convert 25 9 v).run Try.prog W = .ok (.string (bstr xs)) W := by
  obtain ⟨A, c, rfl, h1, _⟩ := h
  exact h1.conv c
end Go.Proofs.Ytkkclkknpjapcaa
/-! ### TbT3 -/
namespace Go.Proofs.Ytkkclkknpjapcaa
open Go.RowKit
set_option linter.unusedVariables false
set_option linter.unusedSimpArgs false

/-- A row of entries. -/
def PEn (es : List EntR) : Value → World → Prop := fun v W => ∃ A c, v = .slice A es.length c ∧ es.length ≤ c ∧ REnts W A es.length es
theorem PEn_stab (es : List EntR) : Stab (PEn es) := fun v W W' h hb => by
  obtain ⟨A, c, e, h1, h2⟩ := h
  exact ⟨A, c, e, h1, h2.below hb⟩
theorem PEn.own {w : World} {base : Nat} {v : Value} {es : List EntR} (h : ROw w base v es) : PEn es v w := by
  obtain ⟨A, c, e, h1, h2⟩ := h.len h.len_lt
  exact ⟨A, c, e, h1, h2⟩
theorem PEn.row {w w' : World} {es : List EntR} {r : Ending} (h : RowC w w' es r) (hm : es.length ≤ 9223372036854775807) : ∃ v, r = .returned v ∧ PEn es v w' ∧ Below w.heap.size w w' := by
  obtain ⟨v, V, rfl, h1, h2, h3⟩ := h
  obtain ⟨A, c, e, h4, h5⟩ := REnts_of h1 h2 hm
  exact ⟨v, rfl, ⟨A, c, e, h4, h5⟩, h3⟩
theorem sameentries_p {W : World} {u v : Value} {es : List EntR} (h1 : PEn es u W) (h2 : PEn es v W) : Calls Try.prog 17 #[u, v] W fun e w' => e = .returned (.bool true) ∧ Below W.heap.size W w' := by
  obtain ⟨A, c, rfl, _, h3⟩ := h1
  obtain ⟨A', c', rfl, _, h4⟩ := h2
  exact sameentries_any A c A' c' es.length es W h3 h4
theorem refhas_p {W : World} {u : Value} {bs : List UInt8} (h1 : PB bs u W) (Ar : Option Addr) (nr cr : Nat) (key : List UInt8) (hk : RB W Ar nr key) : Calls Try.prog 29 #[u, .slice Ar nr cr] W fun e w' => e = .returned (.bool (hasB bs key)) ∧ Below W.heap.size W w' := by
  obtain ⟨A, c, rfl, h3, _⟩ := h1
  exact refhas_any A _ c bs Ar nr cr key W h3 hk
theorem RBs.below2 {w w' : World} {A : Option Addr} {n : Nat} {xss : List (List UInt8)} (h : RBs w A n xss) (hb : Below w.heap.size w w') : RBs w' A n xss := h.below hb
theorem listR_le (frm tk : List UInt8) (es : List EntR) : (listR frm tk es).length ≤ es.length := List.length_filter_le _ _
theorem tb_none {L : List EntR} {E : Nat} (h : TbC L E) (hl : L.length = 0) : E = 13 := by
  rcases h with ⟨_, h⟩ | ⟨h, _⟩ | ⟨h, _⟩ | ⟨h, _⟩ | ⟨h, _⟩
  · exact h
  all_goals omega
set_option maxHeartbeats 64000000 in
set_option maxRecDepth 100000 in
theorem TableReads_walk (A : Option Addr) (n c : Nat) (es : List EntR) (Ar : Option Addr) (nr cr : Nat) (key : List UInt8) (Af : Option Addr) (nf cf : Nat) (frm : List UInt8) (At : Option Addr) (nt ct : Nat) (tk : List UInt8) (s : Int) (w : World) (h : REnts w A n es) (hc : n ≤ c) (hk : RB w Ar nr key) (hkc : nr ≤ cr) (hksz : nr ≤ 140737488351232) (hf : RB w Af nf frm) (hfc : nf ≤ cf) (hfsz : nf ≤ 140737488351232) (ht : RB w At nt tk) (htc : nt ≤ ct) (htsz : nt ≤ 140737488351232) (hs : (Lit.int .i64 s).wf = true) :
    Calls Try.prog 7 #[.slice A n c, .slice Ar nr cr, .slice Af nf cf, .slice At nt ct, .int .i64 s] w fun e w' => e = .returned (.bool true) ∧ Below w.heap.size w w' := by
  have H := hid h
  have HK := hid hk
  have HF := hid hf
  have HT := hid ht
  clear h hk hf ht hkc hksz hfc hfsz htc htsz hs
  go_enter Try.func7, Try.ntmps7
  go_upto_region 2 with (go_at_call 14; (with_reducible refine (tsorted_any A n c es _ H.out).mono ?_); rintro r w1 ⟨A1, c1, L, rfl, hc1, hr1, hs1, hm1, hl1, hb1⟩; have HR1 := hid hr1; have HS1 := hid (⟨hs1, hm1⟩ : _ ∧ _); have HB1 := hid hb1; clear hr1 hs1 hm1 hb1)
  by_cases hL : L.length = 0
  · have HNo : Hid (∀ E, TbC L E → E = 13) := hid (fun E hE => tb_none hE hL)
    have hz : ((L.length : Int) == 0) = true := by rw [beq_iff_eq]; omega
    clear hL
    go_wp2_with (first
      | (go_at_call 12; (with_reducible refine (tbuild_any A1 L.length c1 L _ HR1.out hc1).mono ?_); rintro r w2 ⟨E2, v2, rfl, hE2, ho2, hb2⟩; obtain rfl := HNo.out E2 hE2; have HB2 := hid (below_then HB1.out hb2); clear hE2 ho2)
      | (go_at_call 11; (with_reducible refine (tawake_any _).mono ?_); rintro e w6 ⟨rfl, hb6⟩; have HB6 := hid (below_then HB2.out hb6)))
    go_ret
    exact ⟨by first | rfl | simp, HB6.out⟩
  · have HFit : Hid (FitT L) := hid (fit_small HS1.out.2 HS1.out.1 (by omega) (by omega))
    have hzz : ((L.length : Int) == 0) = false := by rw [beq_eq_false_iff_ne]; omega
    go_upto_region 8 with (first
      | (go_at_call 12; (with_reducible refine (build_tab A1 L.length c1 L _ HR1.out hc1 HFit.out).mono ?_); rintro r w2 ⟨A2, n2, c2, rfl, hn2, ho2, hr2, hc2, hb2⟩; have HR2 := hid hr2; have HB2 := hid (below_then HB1.out hb2); have HC2 := hid hb2; clear ho2 hr2 hn2 hb2)
      | (go_at_call 15; (with_reducible refine (open_tab A2 n2 c2 L _ HR2.out hc2 HFit.out).mono ?_); rintro r w3 ⟨bt, rfl, ht3, hb3⟩; have HT3 := hid ht3; have HB3 := hid (below_then HB2.out hb3); have HC3 := hid (below_then HC2.out hb3); clear ht3 hb3))
    have HR3 := hid (HR1.out.below HC3.out)
    have HK3 := hid (HK.out.below HB3.out)
    clear HR1 HC3 HC2 HB2 HR2 HB1 H
    have HGt := hid (tget_any bt L (filtB L) Ar nr cr key s w3 HT3.out HK3.out HS1.out.1 HS1.out.2 (by omega) (fun x hx => filt_has hx))
    obtain ⟨gx, hgx⟩ : ∃ g, (getR key s L).1 = g := ⟨_, rfl⟩
    obtain ⟨gb, hgb⟩ : ∃ g, (getR key s L).2 = g := ⟨_, rfl⟩
    rw [hgx, hgb] at HGt
    have HGx := hid (⟨hgx, hgb⟩ : _ ∧ _)
    clear hgx hgb
    go_upto_region 9 with (go_at_call 20; (with_reducible refine (HGt.out).mono ?_); rintro r w4 ⟨Ag, ng, cg, Avg, nvg, cvg, rfl, hg1, hg2, hb4⟩; have HG4 := hid (⟨hg1, hg2, hb4⟩ : _ ∧ _ ∧ _); clear hg1 hg2 hb4)
    have hx16 := heap_alloc_new w4 (.cells #[.slice Ag ng cg, .int .i64 (eSeq gx), .bool (eGone gx), .int .i64 (eTil gx), .slice Avg nvg cvg] 42)
    have hBa := below_alloc' HG4.out.2.2 (.cells #[.slice Ag ng cg, .int .i64 (eSeq gx), .bool (eGone gx), .int .i64 (eTil gx), .slice Avg nvg cvg] 42)
    have hBb := below_alloc' (Below.refl w4.heap.size w4) (.cells #[.slice Ag ng cg, .int .i64 (eSeq gx), .bool (eGone gx), .int .i64 (eTil gx), .slice Avg nvg cvg] 42)
    have HGk := hid (⟨HG4.out.1.below hBb, HG4.out.2.1.below hBb⟩ : _ ∧ _)
    clear hBb HG4 HGt
    generalize w4.alloc (.cells #[.slice Ag ng cg, .int .i64 (eSeq gx), .bool (eGone gx), .int .i64 (eTil gx), .slice Avg nvg cvg] 42) = W4 at *
    generalize w4.heap.size = b16 at *
    have HR4 := hid (HR3.out.below hBa)
    have HK4 := hid (HK3.out.below hBa)
    have HX16 := hid hx16
    have HBa := hid hBa
    have HRg := hid (refget_any A1 L.length c1 L Ar nr cr key s W4 HR4.out HK4.out)
    rw [HGx.out.1, HGx.out.2] at HRg
    clear hx16 hBa HR3 HK3
    go_upto_region 10 with (go_at_call 23; (with_reducible refine (HRg.out).mono ?_); rintro r w5 ⟨Ah, nh, ch, Avh, nvh, cvh, rfl, hg1, hg2, hb5⟩; have HG5 := hid (⟨hg1, hg2, hb5⟩ : _ ∧ _ ∧ _); clear hg1 hg2 hb5)
    have hx18 := heap_alloc_new w5 (.cells #[.slice Ah nh ch, .int .i64 (eSeq gx), .bool (eGone gx), .int .i64 (eTil gx), .slice Avh nvh cvh] 42)
    have hBc := below_alloc' HG5.out.2.2 (.cells #[.slice Ah nh ch, .int .i64 (eSeq gx), .bool (eGone gx), .int .i64 (eTil gx), .slice Avh nvh cvh] 42)
    have hBd := below_alloc' (Below.refl w5.heap.size w5) (.cells #[.slice Ah nh ch, .int .i64 (eSeq gx), .bool (eGone gx), .int .i64 (eTil gx), .slice Avh nvh cvh] 42)
    have HHk := hid (⟨HG5.out.1.below hBd, HG5.out.2.1.below hBd⟩ : _ ∧ _)
    have HGk5 := hid (⟨HGk.out.1.below hBc, HGk.out.2.below hBc⟩ : _ ∧ _)
    have HX16' := hid (blk_below hBc HX16.out)
    have HR5 := hid (HR4.out.below hBc)
    have HT5 := hid (HT3.out.below (below_then HBa.out hBc))
    have HB5 := hid (below_then (below_then HB3.out HBa.out) hBc)
    have HK5 := hid (HK4.out.below hBc)
    clear hBd HG5 HRg HX16 HR4 HT3 HB3 HK4 HGk HBa
    generalize w5.alloc (.cells #[.slice Ah nh ch, .int .i64 (eSeq gx), .bool (eGone gx), .int .i64 (eTil gx), .slice Avh nvh cvh] 42) = W5 at *
    generalize w5.heap.size = b18 at *
    have HX18 := hid hx18
    clear hx18 hBc
    go_wp2
    go_loopw [20, 65] (fun kv i wr => ∃ (k : Nat) (V : List Value), k ≤ L.length ∧ i = .int .i64 k ∧ OS wr W5.heap.size kv V ∧ RBW W5 V (keysU L k) ∧ Below W5.heap.size W5 wr) (fun _ i wr => L.length - (intOf i).toNat)
    case atStart => exact ⟨0, [], Nat.zero_le _, rfl, OS.nil _ _, RBW.nil _, Below.refl _ _⟩
    case round =>
      obtain ⟨k, V, hk, rfl, hos, hrw, hB⟩ := hrel
      have hVl : V.length ≤ 60 := by have := keysU_len L k; have := hrw.1; omega
      by_cases hlt : k < L.length
      · obtain ⟨ad, rfl, hen⟩ := HR5.out.at_ hlt
        obtain ⟨Ak, nk, ck, Av, nv, cv, a0, a1, a2, a3, a4, a5, a6, a7, a8⟩ := hen
        have hstep : keysU L (k + 1) = if k = 0 ∨ eKey (elt noEnt L (k - 1)) ≠ eKey (elt noEnt L k) then keysU L k ++ [eKey (elt noEnt L k)] else keysU L k := rfl
        have a0 := below_cell hB a0
        have a1 := below_cell hB a1
        have a2 := below_cell hB a2
        have a3 := below_cell hB a3
        have a4 := below_cell hB a4
        by_cases hk0 : k = 0
        · have hkz : ((k : Int) == 0) = true := by rw [beq_iff_eq]; omega
          rw [if_pos (.inl hk0)] at hstep
          have HK2 : Hid (RBW W5 (V ++ [.slice Ak nk ck]) (keysU L (k + 1))) := hid (by rw [hstep]; exact hrw.append (RBW.one a5 a7))
          clear hstep hrw a5 a6 hk0
          go_wp2
          go_quiet (fail)
          go_wp2_with (at_builtin; refine wpS_append1 W5 _ W5.heap.size rfl (.tmp 84) (.tmp 87) rfl _ V rfl (by exact (hos.below (below_alloc' (Below.refl _ _) _)).below (below_drewN (Below.refl _ _) _)) Ak nk ck 1 _ (by first | rfl | simp) rfl (by omega) (below_drewN (below_alloc' hB _) _) (below_drewN (below_alloc' hB _) _).size ?_; intro v1 w1 hown1 hB1)
          go_roundw
          case rel => exact ⟨k + 1, _, by omega, by go_num, hown1, HK2.out, hB1⟩
          case measure => simp [intOf]; omega
        · obtain ⟨j, hj⟩ : ∃ j, k - 1 = j := ⟨_, rfl⟩
          have hkm : (k : Int) - 1 = (j : Int) := by omega
          have hws : IntKind.i64.wrap (j : Int) = (j : Int) := by rw [IntKind.wrap_i64]; omega
          have hjn : j < L.length := by omega
          have hkz : ((k : Int) == 0) = false := by rw [beq_eq_false_iff_ne]; omega
          obtain ⟨ad2, hae, hen2⟩ := HR5.out.at_ hjn
          obtain rfl := Option.some.inj hae
          obtain ⟨Bk, mk, dk, Bv, mv, dv, b0, b1, b2, b3, b4, b5, b6, b7, b8⟩ := hen2
          have b0 := below_cell hB b0
          have b9 : (wr.alloc (.cells #[.slice Ak nk ck, .int .i64 (eSeq (elt noEnt L k)), .bool (eGone (elt noEnt L k)), .int .i64 (eTil (elt noEnt L k)), .slice Av nv cv] 42)).cell? (ad.add (j * 5)) = some (.slice Bk mk dk) := below_cell (below_alloc' (Below.refl _ _) _) b0
          rw [hj] at hstep
          have HKa := hid (a5.below (below_alloc' hB (.cells #[.slice Ak nk ck, .int .i64 (eSeq (elt noEnt L k)), .bool (eGone (elt noEnt L k)), .int .i64 (eTil (elt noEnt L k)), .slice Av nv cv] 42)))
          have HKb := hid (b5.below (below_alloc' hB (.cells #[.slice Ak nk ck, .int .i64 (eSeq (elt noEnt L k)), .bool (eGone (elt noEnt L k)), .int .i64 (eTil (elt noEnt L k)), .slice Av nv cv] 42)))
          obtain ⟨C, hC⟩ : ∃ C, cmpB (eKey (elt noEnt L j)) (eKey (elt noEnt L k)) = C := ⟨_, rfl⟩
          have hCz := cmpB_zero (eKey (elt noEnt L j)) (eKey (elt noEnt L k))
          rw [hC] at hCz
          have HC := hid hC
          by_cases heq : eKey (elt noEnt L j) = eKey (elt noEnt L k)
          · rw [if_neg (by rintro (h | h); exact hk0 h; exact h heq)] at hstep
            have HK2 : Hid (RBW W5 V (keysU L (k + 1))) := hid (by rw [hstep]; exact hrw)
            have hC0 : C = 0 := hCz.2 heq
            subst hC0
            clear hstep hrw a5 a6 b5 b6 heq b1 b2 b3 b4 hae hj hk0 hC hCz
            go_wp2
            go_quiet (first | (go_at_call 24; refine Calls.quiet_of (v := .int .i64 0) ((refcompare_quiet Bk mk dk _ Ak nk ck _ _ (HKb.out.drewN _) (HKa.out.drewN _)).mono ?_); rintro r w1 ⟨rfl, q, hq⟩; exact ⟨by rw [HC.out], q, hq⟩))
            go_wp2
            go_roundw
            case rel => exact ⟨k + 1, V, by omega, by go_num, (hos.below (below_alloc' (Below.refl _ _) _)).below (below_drewN (Below.refl _ _) _), HK2.out, below_drewN (below_alloc' hB _) _⟩
            case measure => simp [intOf]; omega
          · rw [if_pos (.inr heq)] at hstep
            have HK2 : Hid (RBW W5 (V ++ [.slice Ak nk ck]) (keysU L (k + 1))) := hid (by rw [hstep]; exact hrw.append (RBW.one a5 a7))
            have hC0 : (C == 0) = false := by rw [beq_eq_false_iff_ne]; exact fun e => heq (hCz.1 e)
            have hC1 : (C != 0) = true := by rw [bne, hC0]; rfl
            clear hstep hrw a5 a6 b5 b6 heq b1 b2 b3 b4 hae hj hk0 hC hCz
            go_wp2
            go_quiet (first | (go_at_call 24; refine Calls.quiet_of (v := .int .i64 C) ((refcompare_quiet Bk mk dk _ Ak nk ck _ _ (HKb.out.drewN _) (HKa.out.drewN _)).mono ?_); rintro r w1 ⟨rfl, q, hq⟩; exact ⟨by rw [HC.out], q, hq⟩))
            go_wp2_with (at_builtin; refine wpS_append1 W5 _ W5.heap.size rfl (.tmp 84) (.tmp 87) rfl _ V rfl (by exact (hos.below (below_alloc' (Below.refl _ _) _)).below (below_drewN (Below.refl _ _) _)) Ak nk ck 1 _ (by first | rfl | simp) rfl (by omega) (below_drewN (below_alloc' hB _) _) (below_drewN (below_alloc' hB _) _).size ?_; intro v1 w1 hown1 hB1)
            go_roundw
            case rel => exact ⟨k + 1, _, by omega, by go_num, hown1, HK2.out, hB1⟩
            case measure => simp [intOf]; omega
      · obtain rfl : k = L.length := by omega
        obtain ⟨Ak, ck, rfl, hck, hrd⟩ := hos.readsN V.length rfl
        have HKs : Hid (RBs wr Ak V.length (keysU L L.length)) := hid (RBs_of_reads hrd (hrw.below hB) (by omega))
        have HRr := hid (HR5.out.below hB)
        have HTr := hid (HT5.out.below hB)
        have HKr := hid (HK5.out.below hB)
        have HFr := hid (HF.out.below (below_then HB5.out hB))
        have HTk := hid (HT.out.below (below_then HB5.out hB))
        have HGr := hid (⟨HGk5.out.1.below hB, HGk5.out.2.below hB⟩ : _ ∧ _)
        have HHr := hid (⟨HHk.out.1.below hB, HHk.out.2.below hB⟩ : _ ∧ _)
        have hx16 := blk_below hB HX16'.out
        have hx18 := blk_below hB HX18.out
        have HBr := hid (below_then HB5.out hB)
        have hVl2 : V.length ≤ 60 := hVl
        obtain ⟨ad, rfl, hen0⟩ := HRr.out.at_ (show 0 < L.length by omega)
        obtain ⟨jl, hjl⟩ : ∃ j, L.length - 1 = j := ⟨_, rfl⟩
        have hji : (L.length : Int) - 1 = (jl : Int) := by omega
        have hws : IntKind.i64.wrap (jl : Int) = (jl : Int) := by rw [IntKind.wrap_i64]; omega
        have hjn : jl < L.length := by omega
        have hn0 : (0 : Int) < (L.length : Int) := by omega
        have hn0' : 0 < L.length := by omega
        obtain ⟨ad2, hae, hen1⟩ := HRr.out.at_ hjn
        obtain rfl := Option.some.inj hae
        obtain ⟨Bk, mk, dk, _, _, _, b0, _, _, _, _, b5, _, _, _⟩ := hen0
        obtain ⟨Ek, ek, gk, _, _, _, d0, _, _, _, _, d5, _, _, _⟩ := hen1
        rw [Nat.zero_mul, addr_zero'] at b0
        obtain ⟨K0, hK0⟩ : ∃ K, eKey (elt noEnt L 0) = K := ⟨_, rfl⟩
        obtain ⟨K1, hK1⟩ : ∃ K, eKey (elt noEnt L jl) = K := ⟨_, rfl⟩
        rw [hK0] at b5
        rw [hK1] at d5
        have HB05 := hid (⟨b5, d5⟩ : _ ∧ _)
        have HLe := hid (fun (u : World) (hu : Below wr.heap.size wr u) => tleast_row bt L (filtB L) u (HTr.out.below hu) (by omega) HS1.out.2)
        have HMo := hid (fun (u : World) (hu : Below wr.heap.size wr u) => tmost_row bt L (filtB L) u (HTr.out.below hu) (by omega) HS1.out.2)
        rw [hK0] at HLe
        rw [hjl, hK1] at HMo
        have hst0 : ((bstr K0).toList == (bstr K0).toList) = true := by rw [str_dec]; exact decide_eq_true rfl
        have hst1 : ((bstr K1).toList == (bstr K1).toList) = true := by rw [str_dec]; exact decide_eq_true rfl
        have HFlt : Hid (filterB (keysU L L.length) = filtB L) := hid rfl
        obtain ⟨FB, hFB⟩ : ∃ F, filtB L = F := ⟨_, rfl⟩
        rw [hFB] at HFlt HTr
        obtain ⟨HH, hHH⟩ : ∃ T, hasB FB key = T := ⟨_, rfl⟩
        have HHH := hid hHH
        obtain ⟨LR, hLR⟩ : ∃ R, listR frm tk L = R := ⟨_, rfl⟩
        have HLR := hid hLR
        have HLl : Hid (LR.length ≤ L.length) := hid (by rw [← hLR]; exact listR_le _ _ _)
        have HKR := hid (keysU_len L L.length)
        obtain ⟨g0, g1, g2, g3, g4⟩ := box5 hx16
        obtain ⟨e0, e1, e2, e3, e4⟩ := box5 hx18
        have HVL : Hid (V.length ≤ 100000) := hid (by omega)
        have hS60 : L.length ≤ 1000000 := by omega
        clear hos hrd hrw hK0 hK1 hjl hae hFB hHH hLR hx16 hx18 b5 d5 hVl hB hlt HGx
        generalize keysU L L.length = KU at *
        go_wp2
        apply wp_region_gen [none, none, none, none, none, none, none, none, none, none, some 64, none, none, none, none, none, none, none, none, none, none, none, none, none, none, none, none, none, none, none, none, none, none, none, none, none, none, none, none, none, none, none, none, none, none, none, none, none, none, none, none, none, none, none, none, none, none, none, none, none, none, none, none, none, none, none, none, none, none, none, none, none, none, none, none, none, none, none, none, none, none, none, none, none, none, none, none, none, none, none, some 0, some 1, some 2, some 3, some 4, some 5, some 6, some 7, some 8, some 9, some 10, some 11, some 12, some 13, some 14, some 15, some 16, some 17, some 18, some 19, some 20, some 21, some 22, some 23, some 24, some 25, some 26, some 27, some 28, some 29, some 30, some 31, some 32, some 33, some 34, some 35, some 36, some 37, some 38, some 39, some 40, some 41, some 42, some 43, some 44, some 45, some 46, some 47, some 48, some 49, some 50, some 51, some 52, some 53, some 54, some 55, some 56, some 57, some 58, some 59, some 60, some 61, some 62, some 63] [7, 18, 44, 48, 56] [_, _, _, _, _, _, _, undef, _, _, _, _, _, _, _, _, _, _, undef, _, _, _, _, _, _, _, _, _, _, _, _, _, _, _, _, _, _, _, _, _, _, _, _, _, undef, _, _, _, undef, _, _, _, _, _, _, _, undef, _, _, _, _, _, _, _, _] [noP, noP, noP, noP, noP, noP, noP, (PB K0), noP, noP, noP, noP, noP, noP, noP, noP, noP, noP, (PB K1), noP, noP, noP, noP, noP, noP, noP, noP, noP, noP, noP, noP, noP, noP, noP, noP, noP, noP, noP, noP, noP, noP, noP, noP, noP, (PEn LR), noP, noP, noP, (PEn LR), noP, noP, noP, noP, noP, noP, noP, (PB FB), noP, noP, noP, noP, noP, noP, noP, noP]
        case hm => rfl
        case hs => rfl
        case hst => kernel_rfl
        case hq => exact StabL.cons (noP_stab) (StabL.cons (noP_stab) (StabL.cons (noP_stab) (StabL.cons (noP_stab) (StabL.cons (noP_stab) (StabL.cons (noP_stab) (StabL.cons (noP_stab) (StabL.cons (PB_stab _) (StabL.cons (noP_stab) (StabL.cons (noP_stab) (StabL.cons (noP_stab) (StabL.cons (noP_stab) (StabL.cons (noP_stab) (StabL.cons (noP_stab) (StabL.cons (noP_stab) (StabL.cons (noP_stab) (StabL.cons (noP_stab) (StabL.cons (noP_stab) (StabL.cons (PB_stab _) (StabL.cons (noP_stab) (StabL.cons (noP_stab) (StabL.cons (noP_stab) (StabL.cons (noP_stab) (StabL.cons (noP_stab) (StabL.cons (noP_stab) (StabL.cons (noP_stab) (StabL.cons (noP_stab) (StabL.cons (noP_stab) (StabL.cons (noP_stab) (StabL.cons (noP_stab) (StabL.cons (noP_stab) (StabL.cons (noP_stab) (StabL.cons (noP_stab) (StabL.cons (noP_stab) (StabL.cons (noP_stab) (StabL.cons (noP_stab) (StabL.cons (noP_stab) (StabL.cons (noP_stab) (StabL.cons (noP_stab) (StabL.cons (noP_stab) (StabL.cons (noP_stab) (StabL.cons (noP_stab) (StabL.cons (noP_stab) (StabL.cons (noP_stab) (StabL.cons (PEn_stab _) (StabL.cons (noP_stab) (StabL.cons (noP_stab) (StabL.cons (noP_stab) (StabL.cons (PEn_stab _) (StabL.cons (noP_stab) (StabL.cons (noP_stab) (StabL.cons (noP_stab) (StabL.cons (noP_stab) (StabL.cons (noP_stab) (StabL.cons (noP_stab) (StabL.cons (noP_stab) (StabL.cons (PB_stab _) (StabL.cons (noP_stab) (StabL.cons (noP_stab) (StabL.cons (noP_stab) (StabL.cons (noP_stab) (StabL.cons (noP_stab) (StabL.cons (noP_stab) (StabL.cons (noP_stab) (StabL.cons (noP_stab) (StabL.nil)))))))))))))))))))))))))))))))))))))))))))))))))))))))))))))))))
        case hput => exact OpsOK.cons (fun _ _ => rfl) (OpsOK.cons (fun _ _ => rfl) (OpsOK.cons (fun _ _ => rfl) (OpsOK.cons (fun _ _ => rfl) (OpsOK.cons (fun _ _ => rfl) (OpsOK.cons (fun _ _ => rfl) (OpsOK.cons (fun _ _ => rfl) (OpsOK.cons (fun _ _ => rfl) (OpsOK.cons (fun _ _ => rfl) (OpsOK.cons (fun _ _ => rfl) (OpsOK.cons (fun _ _ => rfl) (OpsOK.cons (fun _ _ => rfl) (OpsOK.cons (fun _ _ => rfl) (OpsOK.cons (fun _ _ => rfl) (OpsOK.cons (fun _ _ => rfl) (OpsOK.cons (fun _ _ => rfl) (OpsOK.cons (fun _ _ => rfl) (OpsOK.cons (fun _ _ => rfl) (OpsOK.cons (fun _ _ => rfl) (OpsOK.cons (fun _ _ => rfl) (OpsOK.cons (fun _ _ => rfl) (OpsOK.cons (fun _ _ => rfl) (OpsOK.cons (fun _ _ => rfl) (OpsOK.cons (fun _ _ => rfl) (OpsOK.cons (fun _ _ => rfl) (OpsOK.cons (fun _ _ => rfl) (OpsOK.cons (fun _ _ => rfl) (OpsOK.cons (fun _ _ => rfl) (OpsOK.cons (fun _ _ => rfl) (OpsOK.cons (fun _ _ => rfl) (OpsOK.cons (fun _ _ => rfl) (OpsOK.cons (fun _ _ => rfl) (OpsOK.cons (fun _ _ => rfl) (OpsOK.cons (fun _ _ => rfl) (OpsOK.cons (fun _ _ => rfl) (OpsOK.cons (fun _ _ => rfl) (OpsOK.cons (fun _ _ => rfl) (OpsOK.cons (fun _ _ => rfl) (OpsOK.cons (fun _ _ => rfl) (OpsOK.cons (fun _ _ => rfl) (OpsOK.cons (fun _ _ => rfl) (OpsOK.cons (fun _ _ => rfl) (OpsOK.cons (fun _ _ => rfl) (OpsOK.cons (fun _ _ => rfl) (OpsOK.cons (fun _ _ => rfl) (OpsOK.cons (fun _ _ => rfl) (OpsOK.cons (fun _ _ => rfl) (OpsOK.cons (fun _ _ => rfl) (OpsOK.cons (fun _ _ => rfl) (OpsOK.cons (fun _ _ => rfl) (OpsOK.cons (fun _ _ => rfl) (OpsOK.cons (fun _ _ => rfl) (OpsOK.cons (fun _ _ => rfl) (OpsOK.cons (fun _ _ => rfl) (OpsOK.cons (fun _ _ => rfl) (OpsOK.cons (fun _ _ => rfl) (OpsOK.cons (fun _ _ => rfl) (OpsOK.cons (fun _ _ => rfl) (OpsOK.cons (fun _ _ => rfl) (OpsOK.cons (fun _ _ => rfl) (OpsOK.cons (fun _ _ => rfl) (OpsOK.cons (fun _ _ => rfl) (OpsOK.cons (fun _ _ => rfl) (OpsOK.cons (fun _ _ => rfl) (OpsOK.cons (fun _ _ => rfl) (OpsOK.nil)))))))))))))))))))))))))))))))))))))))))))))))))))))))))))))))))
        case hops =>
          refine OpsOK.cons ?_ ?_
          · intro u W K hB hd hK
            replace hK := hkg_val hK (by decide)
            clear hd
            simp only [lay, Act.put, List.setIfInBounds_toArray, List.set_cons_zero, List.set_cons_succ] at hK ⊢
            go_simp
            exact hK.out _ _ rfl (Below.refl _ _)
          refine OpsOK.cons ?_ ?_
          · intro u W K hB hd hK
            have h0 := factg_v (dep_ofG hd 0 (by kernel_rfl)) (by decide)
            dsimp only [nth] at h0
            replace hK := hkg_val hK (by decide)
            clear hd
            simp only [lay, Act.put, List.setIfInBounds_toArray, List.set_cons_zero, List.set_cons_succ, h0] at hK ⊢
            go_simp
            first
              | (go_at_call 19; (with_reducible refine (tlen_any bt L FB W (HTr.out.below hB)).mono ?_); rintro r w9 ⟨rfl, rfl⟩; exact hK.out _ _ rfl (Below.refl _ _))
              | (go_at_call 25; (with_reducible refine (HLe.out W hB).mono ?_); rintro r w9 ⟨v9, rfl, ho9, hb9⟩; exact hK.out _ _ (PB.of ho9) hb9)
              | (go_at_call 26; (with_reducible refine (HMo.out W hB).mono ?_); rintro r w9 ⟨v9, rfl, ho9, hb9⟩; exact hK.out _ _ (PB.of ho9) hb9)
              | (go_at_call 21; (with_reducible refine (sameentry_any Ag ng cg Avg nvg cvg Ah nh ch Avh nvh cvh (eSeq gx) (eGone gx) (eTil gx) (eKey gx) (eVal gx) W (HGr.out.1.below hB) (HGr.out.2.below hB) (HHr.out.1.below hB) (HHr.out.2.below hB)).mono ?_); rintro r w9 ⟨rfl, hb9⟩; exact hK.out _ _ rfl hb9)
              | (go_at_call 22; (with_reducible refine (tlist_any bt L FB Af nf cf frm At nt ct tk W (HTr.out.below hB) (HFr.out.below hB) (HTk.out.below hB) HS1.out.1 HS1.out.2 hS60).mono ?_); rintro r w9 ⟨v9, rfl, ho9, hb9⟩; rw [HLR.out] at ho9; exact hK.out _ _ (PEn.own ho9) hb9)
              | (go_at_call 27; (with_reducible refine (reflist_any (some ad) L.length c1 L Af nf cf frm At nt ct tk W (HRr.out.below hB) (HFr.out.below hB) (HTk.out.below hB) hS60).mono ?_); intro r w9 hrc; rw [HLR.out] at hrc; obtain ⟨v9, rfl, ho9, hb9⟩ := PEn.row hrc (by have := HLl.out; omega); exact hK.out _ _ ho9 hb9)
              | (go_at_call 17; (with_reducible refine (sameentries_p h44 h48).mono ?_); rintro r w9 ⟨rfl, hb9⟩; exact hK.out _ _ rfl hb9)
              | (go_at_call 28; (with_reducible refine (tmay_any bt L FB Ar nr cr key W (HTr.out.below hB) (HKr.out.below hB)).mono ?_); rintro r w9 ⟨rfl, hb9⟩; rw [HHH.out]; exact hK.out _ _ rfl hb9)
              | (go_at_call 30; (with_reducible refine (filter_any Ak V.length ck KU W (HKs.out.below2 hB) HVL.out).mono ?_); rintro r w9 ⟨v9, rfl, ho9, hb9⟩; rw [HFlt.out] at ho9; exact hK.out _ _ (PB.of ho9) hb9)
              | (go_at_call 29; (with_reducible refine (refhas_p h56 Ar nr cr key (HKr.out.below hB)).mono ?_); rintro r w9 ⟨rfl, hb9⟩; rw [HHH.out]; exact hK.out _ _ rfl hb9)
              | (go_at_call 11; (with_reducible refine (tawake_any _).mono ?_); rintro r w9 ⟨rfl, hb9⟩; exact hK.out _ _ rfl hb9)
              | exact hK.out _ _ rfl (Below.refl _ _)
          refine OpsOK.cons ?_ ?_
          · intro u W K hB hd hK
            replace hK := hkg_val hK (by decide)
            clear hd
            simp only [lay, Act.put, List.setIfInBounds_toArray, List.set_cons_zero, List.set_cons_succ] at hK ⊢
            go_simp
            exact hK.out _ _ rfl (Below.refl _ _)
          refine OpsOK.cons ?_ ?_
          · intro u W K hB hd hK
            have h2 := factg_v (dep_ofG hd 2 (by kernel_rfl)) (by decide)
            dsimp only [nth] at h2
            replace hK := hkg_val hK (by decide)
            clear hd
            simp only [lay, Act.put, List.setIfInBounds_toArray, List.set_cons_zero, List.set_cons_succ, h2] at hK ⊢
            go_simp
            exact hK.out _ _ rfl (Below.refl _ _)
          refine OpsOK.cons ?_ ?_
          · intro u W K hB hd hK
            have h1 := factg_v (dep_ofG hd 1 (by kernel_rfl)) (by decide)
            dsimp only [nth] at h1
            have h3 := factg_v (dep_ofG hd 3 (by kernel_rfl)) (by decide)
            dsimp only [nth] at h3
            replace hK := hkg_val hK (by decide)
            clear hd
            simp only [lay, Act.put, List.setIfInBounds_toArray, List.set_cons_zero, List.set_cons_succ, h1, h3] at hK ⊢
            go_simp
            exact hK.out _ _ rfl (Below.refl _ _)
          refine OpsOK.cons ?_ ?_
          · intro u W K hB hd hK
            have h1 := factg_v (dep_ofG hd 1 (by kernel_rfl)) (by decide)
            dsimp only [nth] at h1
            have h4 := factg_v (dep_ofG hd 4 (by kernel_rfl)) (by decide)
            dsimp only [nth] at h4
            replace hK := hkg_val hK (by decide)
            clear hd
            simp only [lay, Act.put, List.setIfInBounds_toArray, List.set_cons_zero, List.set_cons_succ, h1, h4] at hK ⊢
            go_simp
            exact hK.out _ _ rfl (Below.refl _ _)
          refine OpsOK.cons ?_ ?_
          · intro u W K hB hd hK
            have h5 := factg_v (dep_ofG hd 5 (by kernel_rfl)) (by decide)
            dsimp only [nth] at h5
            replace hK := hkg_val hK (by decide)
            clear hd
            simp only [lay, Act.put, List.setIfInBounds_toArray, List.set_cons_zero, List.set_cons_succ, h5] at hK ⊢
            go_simp
            exact hK.out _ _ rfl (Below.refl _ _)
          refine OpsOK.cons ?_ ?_
          · intro u W K hB hd hK
            have h5 := factg_v (dep_ofG hd 5 (by kernel_rfl)) (by decide)
            dsimp only [nth] at h5
            have h6 := factg_v (dep_ofG hd 6 (by kernel_rfl)) (by decide)
            dsimp only [nth] at h6
            replace hK := hkg_p hK (by decide)
            dsimp only [nth] at hK
            clear hd
            simp only [lay, Act.put, List.setIfInBounds_toArray, List.set_cons_zero, List.set_cons_succ, h5, h6] at hK ⊢
            go_simp
            first
              | (go_at_call 19; (with_reducible refine (tlen_any bt L FB W (HTr.out.below hB)).mono ?_); rintro r w9 ⟨rfl, rfl⟩; exact hK.out _ _ rfl (Below.refl _ _))
              | (go_at_call 25; (with_reducible refine (HLe.out W hB).mono ?_); rintro r w9 ⟨v9, rfl, ho9, hb9⟩; exact hK.out _ _ (PB.of ho9) hb9)
              | (go_at_call 26; (with_reducible refine (HMo.out W hB).mono ?_); rintro r w9 ⟨v9, rfl, ho9, hb9⟩; exact hK.out _ _ (PB.of ho9) hb9)
              | (go_at_call 21; (with_reducible refine (sameentry_any Ag ng cg Avg nvg cvg Ah nh ch Avh nvh cvh (eSeq gx) (eGone gx) (eTil gx) (eKey gx) (eVal gx) W (HGr.out.1.below hB) (HGr.out.2.below hB) (HHr.out.1.below hB) (HHr.out.2.below hB)).mono ?_); rintro r w9 ⟨rfl, hb9⟩; exact hK.out _ _ rfl hb9)
              | (go_at_call 22; (with_reducible refine (tlist_any bt L FB Af nf cf frm At nt ct tk W (HTr.out.below hB) (HFr.out.below hB) (HTk.out.below hB) HS1.out.1 HS1.out.2 hS60).mono ?_); rintro r w9 ⟨v9, rfl, ho9, hb9⟩; rw [HLR.out] at ho9; exact hK.out _ _ (PEn.own ho9) hb9)
              | (go_at_call 27; (with_reducible refine (reflist_any (some ad) L.length c1 L Af nf cf frm At nt ct tk W (HRr.out.below hB) (HFr.out.below hB) (HTk.out.below hB) hS60).mono ?_); intro r w9 hrc; rw [HLR.out] at hrc; obtain ⟨v9, rfl, ho9, hb9⟩ := PEn.row hrc (by have := HLl.out; omega); exact hK.out _ _ ho9 hb9)
              | (go_at_call 17; (with_reducible refine (sameentries_p h44 h48).mono ?_); rintro r w9 ⟨rfl, hb9⟩; exact hK.out _ _ rfl hb9)
              | (go_at_call 28; (with_reducible refine (tmay_any bt L FB Ar nr cr key W (HTr.out.below hB) (HKr.out.below hB)).mono ?_); rintro r w9 ⟨rfl, hb9⟩; rw [HHH.out]; exact hK.out _ _ rfl hb9)
              | (go_at_call 30; (with_reducible refine (filter_any Ak V.length ck KU W (HKs.out.below2 hB) HVL.out).mono ?_); rintro r w9 ⟨v9, rfl, ho9, hb9⟩; rw [HFlt.out] at ho9; exact hK.out _ _ (PB.of ho9) hb9)
              | (go_at_call 29; (with_reducible refine (refhas_p h56 Ar nr cr key (HKr.out.below hB)).mono ?_); rintro r w9 ⟨rfl, hb9⟩; rw [HHH.out]; exact hK.out _ _ rfl hb9)
              | (go_at_call 11; (with_reducible refine (tawake_any _).mono ?_); rintro r w9 ⟨rfl, hb9⟩; exact hK.out _ _ rfl hb9)
              | exact hK.out _ _ rfl (Below.refl _ _)
          refine OpsOK.cons ?_ ?_
          · intro u W K hB hd hK
            have h5 := factg_v (dep_ofG hd 5 (by kernel_rfl)) (by decide)
            dsimp only [nth] at h5
            have h7 := factg_p (dep_ofG hd 7 (by kernel_rfl)) (by decide)
            dsimp only [nth] at h7
            replace hK := hkg_val hK (by decide)
            clear hd
            simp only [lay, Act.put, List.setIfInBounds_toArray, List.set_cons_zero, List.set_cons_succ, h5] at hK ⊢
            have hcv := PB.conv h7
            go_simp
            exact hK.out _ _ rfl (Below.refl _ _)
          refine OpsOK.cons ?_ ?_
          · intro u W K hB hd hK
            have h5 := factg_v (dep_ofG hd 5 (by kernel_rfl)) (by decide)
            dsimp only [nth] at h5
            replace hK := hkg_val hK (by decide)
            clear hd
            simp only [lay, Act.put, List.setIfInBounds_toArray, List.set_cons_zero, List.set_cons_succ, h5] at hK ⊢
            go_simp
            exact hK.out _ _ rfl (Below.refl _ _)
          refine OpsOK.cons ?_ ?_
          · intro u W K hB hd hK
            have h5 := factg_v (dep_ofG hd 5 (by kernel_rfl)) (by decide)
            dsimp only [nth] at h5
            have h9 := factg_v (dep_ofG hd 9 (by kernel_rfl)) (by decide)
            dsimp only [nth] at h9
            replace hK := hkg_val hK (by decide)
            clear hd
            simp only [lay, Act.put, List.setIfInBounds_toArray, List.set_cons_zero, List.set_cons_succ, h5, h9] at hK ⊢
            go_simp
            exact hK.out _ _ rfl (Below.refl _ _)
          refine OpsOK.cons ?_ ?_
          · intro u W K hB hd hK
            have h5 := factg_v (dep_ofG hd 5 (by kernel_rfl)) (by decide)
            dsimp only [nth] at h5
            have h10 := factg_v (dep_ofG hd 10 (by kernel_rfl)) (by decide)
            dsimp only [nth] at h10
            replace hK := hkg_val hK (by decide)
            clear hd
            simp only [lay, Act.put, List.setIfInBounds_toArray, List.set_cons_zero, List.set_cons_succ, h5, h10] at hK ⊢
            go_simp
            exact hK.out _ _ rfl (Below.refl _ _)
          refine OpsOK.cons ?_ ?_
          · intro u W K hB hd hK
            have h5 := factg_v (dep_ofG hd 5 (by kernel_rfl)) (by decide)
            dsimp only [nth] at h5
            have h11 := factg_v (dep_ofG hd 11 (by kernel_rfl)) (by decide)
            dsimp only [nth] at h11
            replace hK := hkg_val hK (by decide)
            clear hd
            simp only [lay, Act.put, List.setIfInBounds_toArray, List.set_cons_zero, List.set_cons_succ, h5, h11] at hK ⊢
            have y0 := below_cell hB b0
            go_simp
            exact hK.out _ _ rfl (Below.refl _ _)
          refine OpsOK.cons ?_ ?_
          · intro u W K hB hd hK
            have h5 := factg_v (dep_ofG hd 5 (by kernel_rfl)) (by decide)
            dsimp only [nth] at h5
            have h12 := factg_v (dep_ofG hd 12 (by kernel_rfl)) (by decide)
            dsimp only [nth] at h12
            replace hK := hkg_val hK (by decide)
            clear hd
            simp only [lay, Act.put, List.setIfInBounds_toArray, List.set_cons_zero, List.set_cons_succ, h5, h12] at hK ⊢
            have hcv := (HB05.out.1.below hB).conv dk
            go_simp
            exact hK.out _ _ rfl (Below.refl _ _)
          refine OpsOK.cons ?_ ?_
          · intro u W K hB hd hK
            have h5 := factg_v (dep_ofG hd 5 (by kernel_rfl)) (by decide)
            dsimp only [nth] at h5
            have h8 := factg_v (dep_ofG hd 8 (by kernel_rfl)) (by decide)
            dsimp only [nth] at h8
            have h13 := factg_v (dep_ofG hd 13 (by kernel_rfl)) (by decide)
            dsimp only [nth] at h13
            replace hK := hkg_val hK (by decide)
            clear hd
            simp only [lay, Act.put, List.setIfInBounds_toArray, List.set_cons_zero, List.set_cons_succ, h5, h8, h13] at hK ⊢
            go_simp
            exact hK.out _ _ rfl (Below.refl _ _)
          refine OpsOK.cons ?_ ?_
          · intro u W K hB hd hK
            have h5 := factg_v (dep_ofG hd 5 (by kernel_rfl)) (by decide)
            dsimp only [nth] at h5
            have h14 := factg_v (dep_ofG hd 14 (by kernel_rfl)) (by decide)
            dsimp only [nth] at h14
            replace hK := hkg_val hK (by decide)
            clear hd
            simp only [lay, Act.put, List.setIfInBounds_toArray, List.set_cons_zero, List.set_cons_succ, h5, h14] at hK ⊢
            go_simp
            exact hK.out _ _ rfl (Below.refl _ _)
          refine OpsOK.cons ?_ ?_
          · intro u W K hB hd hK
            have h7 := factg_p (dep_ofG hd 7 (by kernel_rfl)) (by decide)
            dsimp only [nth] at h7
            have h15 := factg_v (dep_ofG hd 15 (by kernel_rfl)) (by decide)
            dsimp only [nth] at h15
            replace hK := hkg_val hK (by decide)
            clear hd
            simp only [lay, Act.put, List.setIfInBounds_toArray, List.set_cons_zero, List.set_cons_succ, h15] at hK ⊢
            go_simp
            exact hK.out _ _ rfl (Below.refl _ _)
          refine OpsOK.cons ?_ ?_
          · intro u W K hB hd hK
            have h16 := factg_v (dep_ofG hd 16 (by kernel_rfl)) (by decide)
            dsimp only [nth] at h16
            replace hK := hkg_val hK (by decide)
            clear hd
            simp only [lay, Act.put, List.setIfInBounds_toArray, List.set_cons_zero, List.set_cons_succ, h16] at hK ⊢
            go_simp
            exact hK.out _ _ rfl (Below.refl _ _)
          refine OpsOK.cons ?_ ?_
          · intro u W K hB hd hK
            have h16 := factg_v (dep_ofG hd 16 (by kernel_rfl)) (by decide)
            dsimp only [nth] at h16
            have h17 := factg_v (dep_ofG hd 17 (by kernel_rfl)) (by decide)
            dsimp only [nth] at h17
            replace hK := hkg_p hK (by decide)
            dsimp only [nth] at hK
            clear hd
            simp only [lay, Act.put, List.setIfInBounds_toArray, List.set_cons_zero, List.set_cons_succ, h16, h17] at hK ⊢
            go_simp
            first
              | (go_at_call 19; (with_reducible refine (tlen_any bt L FB W (HTr.out.below hB)).mono ?_); rintro r w9 ⟨rfl, rfl⟩; exact hK.out _ _ rfl (Below.refl _ _))
              | (go_at_call 25; (with_reducible refine (HLe.out W hB).mono ?_); rintro r w9 ⟨v9, rfl, ho9, hb9⟩; exact hK.out _ _ (PB.of ho9) hb9)
              | (go_at_call 26; (with_reducible refine (HMo.out W hB).mono ?_); rintro r w9 ⟨v9, rfl, ho9, hb9⟩; exact hK.out _ _ (PB.of ho9) hb9)
              | (go_at_call 21; (with_reducible refine (sameentry_any Ag ng cg Avg nvg cvg Ah nh ch Avh nvh cvh (eSeq gx) (eGone gx) (eTil gx) (eKey gx) (eVal gx) W (HGr.out.1.below hB) (HGr.out.2.below hB) (HHr.out.1.below hB) (HHr.out.2.below hB)).mono ?_); rintro r w9 ⟨rfl, hb9⟩; exact hK.out _ _ rfl hb9)
              | (go_at_call 22; (with_reducible refine (tlist_any bt L FB Af nf cf frm At nt ct tk W (HTr.out.below hB) (HFr.out.below hB) (HTk.out.below hB) HS1.out.1 HS1.out.2 hS60).mono ?_); rintro r w9 ⟨v9, rfl, ho9, hb9⟩; rw [HLR.out] at ho9; exact hK.out _ _ (PEn.own ho9) hb9)
              | (go_at_call 27; (with_reducible refine (reflist_any (some ad) L.length c1 L Af nf cf frm At nt ct tk W (HRr.out.below hB) (HFr.out.below hB) (HTk.out.below hB) hS60).mono ?_); intro r w9 hrc; rw [HLR.out] at hrc; obtain ⟨v9, rfl, ho9, hb9⟩ := PEn.row hrc (by have := HLl.out; omega); exact hK.out _ _ ho9 hb9)
              | (go_at_call 17; (with_reducible refine (sameentries_p h44 h48).mono ?_); rintro r w9 ⟨rfl, hb9⟩; exact hK.out _ _ rfl hb9)
              | (go_at_call 28; (with_reducible refine (tmay_any bt L FB Ar nr cr key W (HTr.out.below hB) (HKr.out.below hB)).mono ?_); rintro r w9 ⟨rfl, hb9⟩; rw [HHH.out]; exact hK.out _ _ rfl hb9)
              | (go_at_call 30; (with_reducible refine (filter_any Ak V.length ck KU W (HKs.out.below2 hB) HVL.out).mono ?_); rintro r w9 ⟨v9, rfl, ho9, hb9⟩; rw [HFlt.out] at ho9; exact hK.out _ _ (PB.of ho9) hb9)
              | (go_at_call 29; (with_reducible refine (refhas_p h56 Ar nr cr key (HKr.out.below hB)).mono ?_); rintro r w9 ⟨rfl, hb9⟩; rw [HHH.out]; exact hK.out _ _ rfl hb9)
              | (go_at_call 11; (with_reducible refine (tawake_any _).mono ?_); rintro r w9 ⟨rfl, hb9⟩; exact hK.out _ _ rfl hb9)
              | exact hK.out _ _ rfl (Below.refl _ _)
          refine OpsOK.cons ?_ ?_
          · intro u W K hB hd hK
            have h16 := factg_v (dep_ofG hd 16 (by kernel_rfl)) (by decide)
            dsimp only [nth] at h16
            have h18 := factg_p (dep_ofG hd 18 (by kernel_rfl)) (by decide)
            dsimp only [nth] at h18
            replace hK := hkg_val hK (by decide)
            clear hd
            simp only [lay, Act.put, List.setIfInBounds_toArray, List.set_cons_zero, List.set_cons_succ, h16] at hK ⊢
            have hcv := PB.conv h18
            go_simp
            exact hK.out _ _ rfl (Below.refl _ _)
          refine OpsOK.cons ?_ ?_
          · intro u W K hB hd hK
            have h16 := factg_v (dep_ofG hd 16 (by kernel_rfl)) (by decide)
            dsimp only [nth] at h16
            replace hK := hkg_val hK (by decide)
            clear hd
            simp only [lay, Act.put, List.setIfInBounds_toArray, List.set_cons_zero, List.set_cons_succ, h16] at hK ⊢
            go_simp
            exact hK.out _ _ rfl (Below.refl _ _)
          refine OpsOK.cons ?_ ?_
          · intro u W K hB hd hK
            have h16 := factg_v (dep_ofG hd 16 (by kernel_rfl)) (by decide)
            dsimp only [nth] at h16
            replace hK := hkg_val hK (by decide)
            clear hd
            simp only [lay, Act.put, List.setIfInBounds_toArray, List.set_cons_zero, List.set_cons_succ, h16] at hK ⊢
            go_simp
            exact hK.out _ _ rfl (Below.refl _ _)
          refine OpsOK.cons ?_ ?_
          · intro u W K hB hd hK
            have h16 := factg_v (dep_ofG hd 16 (by kernel_rfl)) (by decide)
            dsimp only [nth] at h16
            have h21 := factg_v (dep_ofG hd 21 (by kernel_rfl)) (by decide)
            dsimp only [nth] at h21
            replace hK := hkg_val hK (by decide)
            clear hd
            simp only [lay, Act.put, List.setIfInBounds_toArray, List.set_cons_zero, List.set_cons_succ, h16, h21] at hK ⊢
            go_simp
            exact hK.out _ _ rfl (Below.refl _ _)
          refine OpsOK.cons ?_ ?_
          · intro u W K hB hd hK
            have h16 := factg_v (dep_ofG hd 16 (by kernel_rfl)) (by decide)
            dsimp only [nth] at h16
            have h22 := factg_v (dep_ofG hd 22 (by kernel_rfl)) (by decide)
            dsimp only [nth] at h22
            replace hK := hkg_val hK (by decide)
            clear hd
            simp only [lay, Act.put, List.setIfInBounds_toArray, List.set_cons_zero, List.set_cons_succ, h16, h22] at hK ⊢
            go_simp
            exact hK.out _ _ rfl (Below.refl _ _)
          refine OpsOK.cons ?_ ?_
          · intro u W K hB hd hK
            have h16 := factg_v (dep_ofG hd 16 (by kernel_rfl)) (by decide)
            dsimp only [nth] at h16
            have h20 := factg_v (dep_ofG hd 20 (by kernel_rfl)) (by decide)
            dsimp only [nth] at h20
            have h23 := factg_v (dep_ofG hd 23 (by kernel_rfl)) (by decide)
            dsimp only [nth] at h23
            replace hK := hkg_val hK (by decide)
            clear hd
            simp only [lay, Act.put, List.setIfInBounds_toArray, List.set_cons_zero, List.set_cons_succ, h16, h20, h23] at hK ⊢
            go_simp
            exact hK.out _ _ rfl (Below.refl _ _)
          refine OpsOK.cons ?_ ?_
          · intro u W K hB hd hK
            have h16 := factg_v (dep_ofG hd 16 (by kernel_rfl)) (by decide)
            dsimp only [nth] at h16
            have h24 := factg_v (dep_ofG hd 24 (by kernel_rfl)) (by decide)
            dsimp only [nth] at h24
            replace hK := hkg_val hK (by decide)
            clear hd
            simp only [lay, Act.put, List.setIfInBounds_toArray, List.set_cons_zero, List.set_cons_succ, h16, h24] at hK ⊢
            go_simp
            exact hK.out _ _ rfl (Below.refl _ _)
          refine OpsOK.cons ?_ ?_
          · intro u W K hB hd hK
            have h16 := factg_v (dep_ofG hd 16 (by kernel_rfl)) (by decide)
            dsimp only [nth] at h16
            have h25 := factg_v (dep_ofG hd 25 (by kernel_rfl)) (by decide)
            dsimp only [nth] at h25
            replace hK := hkg_val hK (by decide)
            clear hd
            simp only [lay, Act.put, List.setIfInBounds_toArray, List.set_cons_zero, List.set_cons_succ, h16, h25] at hK ⊢
            have y0 := below_cell hB d0
            go_simp
            exact hK.out _ _ rfl (Below.refl _ _)
          refine OpsOK.cons ?_ ?_
          · intro u W K hB hd hK
            have h16 := factg_v (dep_ofG hd 16 (by kernel_rfl)) (by decide)
            dsimp only [nth] at h16
            have h26 := factg_v (dep_ofG hd 26 (by kernel_rfl)) (by decide)
            dsimp only [nth] at h26
            replace hK := hkg_val hK (by decide)
            clear hd
            simp only [lay, Act.put, List.setIfInBounds_toArray, List.set_cons_zero, List.set_cons_succ, h16, h26] at hK ⊢
            have hcv := (HB05.out.2.below hB).conv gk
            go_simp
            exact hK.out _ _ rfl (Below.refl _ _)
          refine OpsOK.cons ?_ ?_
          · intro u W K hB hd hK
            have h16 := factg_v (dep_ofG hd 16 (by kernel_rfl)) (by decide)
            dsimp only [nth] at h16
            have h19 := factg_v (dep_ofG hd 19 (by kernel_rfl)) (by decide)
            dsimp only [nth] at h19
            have h27 := factg_v (dep_ofG hd 27 (by kernel_rfl)) (by decide)
            dsimp only [nth] at h27
            replace hK := hkg_val hK (by decide)
            clear hd
            simp only [lay, Act.put, List.setIfInBounds_toArray, List.set_cons_zero, List.set_cons_succ, h16, h19, h27] at hK ⊢
            go_simp
            exact hK.out _ _ rfl (Below.refl _ _)
          refine OpsOK.cons ?_ ?_
          · intro u W K hB hd hK
            have h16 := factg_v (dep_ofG hd 16 (by kernel_rfl)) (by decide)
            dsimp only [nth] at h16
            have h28 := factg_v (dep_ofG hd 28 (by kernel_rfl)) (by decide)
            dsimp only [nth] at h28
            replace hK := hkg_val hK (by decide)
            clear hd
            simp only [lay, Act.put, List.setIfInBounds_toArray, List.set_cons_zero, List.set_cons_succ, h16, h28] at hK ⊢
            go_simp
            exact hK.out _ _ rfl (Below.refl _ _)
          refine OpsOK.cons ?_ ?_
          · intro u W K hB hd hK
            have h18 := factg_p (dep_ofG hd 18 (by kernel_rfl)) (by decide)
            dsimp only [nth] at h18
            have h29 := factg_v (dep_ofG hd 29 (by kernel_rfl)) (by decide)
            dsimp only [nth] at h29
            replace hK := hkg_val hK (by decide)
            clear hd
            simp only [lay, Act.put, List.setIfInBounds_toArray, List.set_cons_zero, List.set_cons_succ, h29] at hK ⊢
            go_simp
            exact hK.out _ _ rfl (Below.refl _ _)
          refine OpsOK.cons ?_ ?_
          · intro u W K hB hd hK
            have h30 := factg_v (dep_ofG hd 30 (by kernel_rfl)) (by decide)
            dsimp only [nth] at h30
            replace hK := hkg_val hK (by decide)
            clear hd
            simp only [lay, Act.put, List.setIfInBounds_toArray, List.set_cons_zero, List.set_cons_succ, h30] at hK ⊢
            have y0 := below_cell hB g0
            have y1 := below_cell hB g1
            have y2 := below_cell hB g2
            have y3 := below_cell hB g3
            have y4 := below_cell hB g4
            go_simp
            exact hK.out _ _ rfl (Below.refl _ _)
          refine OpsOK.cons ?_ ?_
          · intro u W K hB hd hK
            have h30 := factg_v (dep_ofG hd 30 (by kernel_rfl)) (by decide)
            dsimp only [nth] at h30
            replace hK := hkg_val hK (by decide)
            clear hd
            simp only [lay, Act.put, List.setIfInBounds_toArray, List.set_cons_zero, List.set_cons_succ, h30] at hK ⊢
            have y0 := below_cell hB e0
            have y1 := below_cell hB e1
            have y2 := below_cell hB e2
            have y3 := below_cell hB e3
            have y4 := below_cell hB e4
            go_simp
            exact hK.out _ _ rfl (Below.refl _ _)
          refine OpsOK.cons ?_ ?_
          · intro u W K hB hd hK
            have h30 := factg_v (dep_ofG hd 30 (by kernel_rfl)) (by decide)
            dsimp only [nth] at h30
            have h31 := factg_v (dep_ofG hd 31 (by kernel_rfl)) (by decide)
            dsimp only [nth] at h31
            have h32 := factg_v (dep_ofG hd 32 (by kernel_rfl)) (by decide)
            dsimp only [nth] at h32
            replace hK := hkg_val hK (by decide)
            clear hd
            simp only [lay, Act.put, List.setIfInBounds_toArray, List.set_cons_zero, List.set_cons_succ, h30, h31, h32] at hK ⊢
            go_simp
            first
              | (go_at_call 19; (with_reducible refine (tlen_any bt L FB W (HTr.out.below hB)).mono ?_); rintro r w9 ⟨rfl, rfl⟩; exact hK.out _ _ rfl (Below.refl _ _))
              | (go_at_call 25; (with_reducible refine (HLe.out W hB).mono ?_); rintro r w9 ⟨v9, rfl, ho9, hb9⟩; exact hK.out _ _ (PB.of ho9) hb9)
              | (go_at_call 26; (with_reducible refine (HMo.out W hB).mono ?_); rintro r w9 ⟨v9, rfl, ho9, hb9⟩; exact hK.out _ _ (PB.of ho9) hb9)
              | (go_at_call 21; (with_reducible refine (sameentry_any Ag ng cg Avg nvg cvg Ah nh ch Avh nvh cvh (eSeq gx) (eGone gx) (eTil gx) (eKey gx) (eVal gx) W (HGr.out.1.below hB) (HGr.out.2.below hB) (HHr.out.1.below hB) (HHr.out.2.below hB)).mono ?_); rintro r w9 ⟨rfl, hb9⟩; exact hK.out _ _ rfl hb9)
              | (go_at_call 22; (with_reducible refine (tlist_any bt L FB Af nf cf frm At nt ct tk W (HTr.out.below hB) (HFr.out.below hB) (HTk.out.below hB) HS1.out.1 HS1.out.2 hS60).mono ?_); rintro r w9 ⟨v9, rfl, ho9, hb9⟩; rw [HLR.out] at ho9; exact hK.out _ _ (PEn.own ho9) hb9)
              | (go_at_call 27; (with_reducible refine (reflist_any (some ad) L.length c1 L Af nf cf frm At nt ct tk W (HRr.out.below hB) (HFr.out.below hB) (HTk.out.below hB) hS60).mono ?_); intro r w9 hrc; rw [HLR.out] at hrc; obtain ⟨v9, rfl, ho9, hb9⟩ := PEn.row hrc (by have := HLl.out; omega); exact hK.out _ _ ho9 hb9)
              | (go_at_call 17; (with_reducible refine (sameentries_p h44 h48).mono ?_); rintro r w9 ⟨rfl, hb9⟩; exact hK.out _ _ rfl hb9)
              | (go_at_call 28; (with_reducible refine (tmay_any bt L FB Ar nr cr key W (HTr.out.below hB) (HKr.out.below hB)).mono ?_); rintro r w9 ⟨rfl, hb9⟩; rw [HHH.out]; exact hK.out _ _ rfl hb9)
              | (go_at_call 30; (with_reducible refine (filter_any Ak V.length ck KU W (HKs.out.below2 hB) HVL.out).mono ?_); rintro r w9 ⟨v9, rfl, ho9, hb9⟩; rw [HFlt.out] at ho9; exact hK.out _ _ (PB.of ho9) hb9)
              | (go_at_call 29; (with_reducible refine (refhas_p h56 Ar nr cr key (HKr.out.below hB)).mono ?_); rintro r w9 ⟨rfl, hb9⟩; rw [HHH.out]; exact hK.out _ _ rfl hb9)
              | (go_at_call 11; (with_reducible refine (tawake_any _).mono ?_); rintro r w9 ⟨rfl, hb9⟩; exact hK.out _ _ rfl hb9)
              | exact hK.out _ _ rfl (Below.refl _ _)
          refine OpsOK.cons ?_ ?_
          · intro u W K hB hd hK
            have h30 := factg_v (dep_ofG hd 30 (by kernel_rfl)) (by decide)
            dsimp only [nth] at h30
            have h33 := factg_v (dep_ofG hd 33 (by kernel_rfl)) (by decide)
            dsimp only [nth] at h33
            replace hK := hkg_val hK (by decide)
            clear hd
            simp only [lay, Act.put, List.setIfInBounds_toArray, List.set_cons_zero, List.set_cons_succ, h30, h33] at hK ⊢
            go_simp
            exact hK.out _ _ rfl (Below.refl _ _)
          refine OpsOK.cons ?_ ?_
          · intro u W K hB hd hK
            have h33 := factg_v (dep_ofG hd 33 (by kernel_rfl)) (by decide)
            dsimp only [nth] at h33
            have h34 := factg_v (dep_ofG hd 34 (by kernel_rfl)) (by decide)
            dsimp only [nth] at h34
            replace hK := hkg_val hK (by decide)
            clear hd
            simp only [lay, Act.put, List.setIfInBounds_toArray, List.set_cons_zero, List.set_cons_succ, h33, h34] at hK ⊢
            go_simp
            exact hK.out _ _ rfl (Below.refl _ _)
          refine OpsOK.cons ?_ ?_
          · intro u W K hB hd hK
            have h35 := factg_v (dep_ofG hd 35 (by kernel_rfl)) (by decide)
            dsimp only [nth] at h35
            replace hK := hkg_val hK (by decide)
            clear hd
            simp only [lay, Act.put, List.setIfInBounds_toArray, List.set_cons_zero, List.set_cons_succ, h35] at hK ⊢
            go_simp
            exact hK.out _ _ rfl (Below.refl _ _)
          refine OpsOK.cons ?_ ?_
          · intro u W K hB hd hK
            have h35 := factg_v (dep_ofG hd 35 (by kernel_rfl)) (by decide)
            dsimp only [nth] at h35
            replace hK := hkg_val hK (by decide)
            clear hd
            simp only [lay, Act.put, List.setIfInBounds_toArray, List.set_cons_zero, List.set_cons_succ, h35] at hK ⊢
            go_simp
            exact hK.out _ _ rfl (Below.refl _ _)
          refine OpsOK.cons ?_ ?_
          · intro u W K hB hd hK
            have h35 := factg_v (dep_ofG hd 35 (by kernel_rfl)) (by decide)
            dsimp only [nth] at h35
            have h36 := factg_v (dep_ofG hd 36 (by kernel_rfl)) (by decide)
            dsimp only [nth] at h36
            have h37 := factg_v (dep_ofG hd 37 (by kernel_rfl)) (by decide)
            dsimp only [nth] at h37
            replace hK := hkg_val hK (by decide)
            clear hd
            simp only [lay, Act.put, List.setIfInBounds_toArray, List.set_cons_zero, List.set_cons_succ, h35, h36, h37] at hK ⊢
            go_simp
            exact hK.out _ _ rfl (Below.refl _ _)
          refine OpsOK.cons ?_ ?_
          · intro u W K hB hd hK
            have h35 := factg_v (dep_ofG hd 35 (by kernel_rfl)) (by decide)
            dsimp only [nth] at h35
            have h38 := factg_v (dep_ofG hd 38 (by kernel_rfl)) (by decide)
            dsimp only [nth] at h38
            replace hK := hkg_val hK (by decide)
            clear hd
            simp only [lay, Act.put, List.setIfInBounds_toArray, List.set_cons_zero, List.set_cons_succ, h35, h38] at hK ⊢
            go_simp
            exact hK.out _ _ rfl (Below.refl _ _)
          refine OpsOK.cons ?_ ?_
          · intro u W K hB hd hK
            have h35 := factg_v (dep_ofG hd 35 (by kernel_rfl)) (by decide)
            dsimp only [nth] at h35
            have h39 := factg_v (dep_ofG hd 39 (by kernel_rfl)) (by decide)
            dsimp only [nth] at h39
            replace hK := hkg_val hK (by decide)
            clear hd
            simp only [lay, Act.put, List.setIfInBounds_toArray, List.set_cons_zero, List.set_cons_succ, h35, h39] at hK ⊢
            go_simp
            exact hK.out _ _ rfl (Below.refl _ _)
          refine OpsOK.cons ?_ ?_
          · intro u W K hB hd hK
            have h40 := factg_v (dep_ofG hd 40 (by kernel_rfl)) (by decide)
            dsimp only [nth] at h40
            replace hK := hkg_val hK (by decide)
            clear hd
            simp only [lay, Act.put, List.setIfInBounds_toArray, List.set_cons_zero, List.set_cons_succ, h40] at hK ⊢
            go_simp
            exact hK.out _ _ rfl (Below.refl _ _)
          refine OpsOK.cons ?_ ?_
          · intro u W K hB hd hK
            have h40 := factg_v (dep_ofG hd 40 (by kernel_rfl)) (by decide)
            dsimp only [nth] at h40
            replace hK := hkg_val hK (by decide)
            clear hd
            simp only [lay, Act.put, List.setIfInBounds_toArray, List.set_cons_zero, List.set_cons_succ, h40] at hK ⊢
            go_simp
            exact hK.out _ _ rfl (Below.refl _ _)
          refine OpsOK.cons ?_ ?_
          · intro u W K hB hd hK
            have h40 := factg_v (dep_ofG hd 40 (by kernel_rfl)) (by decide)
            dsimp only [nth] at h40
            replace hK := hkg_val hK (by decide)
            clear hd
            simp only [lay, Act.put, List.setIfInBounds_toArray, List.set_cons_zero, List.set_cons_succ, h40] at hK ⊢
            go_simp
            exact hK.out _ _ rfl (Below.refl _ _)
          refine OpsOK.cons ?_ ?_
          · intro u W K hB hd hK
            have h40 := factg_v (dep_ofG hd 40 (by kernel_rfl)) (by decide)
            dsimp only [nth] at h40
            have h41 := factg_v (dep_ofG hd 41 (by kernel_rfl)) (by decide)
            dsimp only [nth] at h41
            have h42 := factg_v (dep_ofG hd 42 (by kernel_rfl)) (by decide)
            dsimp only [nth] at h42
            have h43 := factg_v (dep_ofG hd 43 (by kernel_rfl)) (by decide)
            dsimp only [nth] at h43
            replace hK := hkg_p hK (by decide)
            dsimp only [nth] at hK
            clear hd
            simp only [lay, Act.put, List.setIfInBounds_toArray, List.set_cons_zero, List.set_cons_succ, h40, h41, h42, h43] at hK ⊢
            go_simp
            first
              | (go_at_call 19; (with_reducible refine (tlen_any bt L FB W (HTr.out.below hB)).mono ?_); rintro r w9 ⟨rfl, rfl⟩; exact hK.out _ _ rfl (Below.refl _ _))
              | (go_at_call 25; (with_reducible refine (HLe.out W hB).mono ?_); rintro r w9 ⟨v9, rfl, ho9, hb9⟩; exact hK.out _ _ (PB.of ho9) hb9)
              | (go_at_call 26; (with_reducible refine (HMo.out W hB).mono ?_); rintro r w9 ⟨v9, rfl, ho9, hb9⟩; exact hK.out _ _ (PB.of ho9) hb9)
              | (go_at_call 21; (with_reducible refine (sameentry_any Ag ng cg Avg nvg cvg Ah nh ch Avh nvh cvh (eSeq gx) (eGone gx) (eTil gx) (eKey gx) (eVal gx) W (HGr.out.1.below hB) (HGr.out.2.below hB) (HHr.out.1.below hB) (HHr.out.2.below hB)).mono ?_); rintro r w9 ⟨rfl, hb9⟩; exact hK.out _ _ rfl hb9)
              | (go_at_call 22; (with_reducible refine (tlist_any bt L FB Af nf cf frm At nt ct tk W (HTr.out.below hB) (HFr.out.below hB) (HTk.out.below hB) HS1.out.1 HS1.out.2 hS60).mono ?_); rintro r w9 ⟨v9, rfl, ho9, hb9⟩; rw [HLR.out] at ho9; exact hK.out _ _ (PEn.own ho9) hb9)
              | (go_at_call 27; (with_reducible refine (reflist_any (some ad) L.length c1 L Af nf cf frm At nt ct tk W (HRr.out.below hB) (HFr.out.below hB) (HTk.out.below hB) hS60).mono ?_); intro r w9 hrc; rw [HLR.out] at hrc; obtain ⟨v9, rfl, ho9, hb9⟩ := PEn.row hrc (by have := HLl.out; omega); exact hK.out _ _ ho9 hb9)
              | (go_at_call 17; (with_reducible refine (sameentries_p h44 h48).mono ?_); rintro r w9 ⟨rfl, hb9⟩; exact hK.out _ _ rfl hb9)
              | (go_at_call 28; (with_reducible refine (tmay_any bt L FB Ar nr cr key W (HTr.out.below hB) (HKr.out.below hB)).mono ?_); rintro r w9 ⟨rfl, hb9⟩; rw [HHH.out]; exact hK.out _ _ rfl hb9)
              | (go_at_call 30; (with_reducible refine (filter_any Ak V.length ck KU W (HKs.out.below2 hB) HVL.out).mono ?_); rintro r w9 ⟨v9, rfl, ho9, hb9⟩; rw [HFlt.out] at ho9; exact hK.out _ _ (PB.of ho9) hb9)
              | (go_at_call 29; (with_reducible refine (refhas_p h56 Ar nr cr key (HKr.out.below hB)).mono ?_); rintro r w9 ⟨rfl, hb9⟩; rw [HHH.out]; exact hK.out _ _ rfl hb9)
              | (go_at_call 11; (with_reducible refine (tawake_any _).mono ?_); rintro r w9 ⟨rfl, hb9⟩; exact hK.out _ _ rfl hb9)
              | exact hK.out _ _ rfl (Below.refl _ _)
          refine OpsOK.cons ?_ ?_
          · intro u W K hB hd hK
            have h40 := factg_v (dep_ofG hd 40 (by kernel_rfl)) (by decide)
            dsimp only [nth] at h40
            replace hK := hkg_val hK (by decide)
            clear hd
            simp only [lay, Act.put, List.setIfInBounds_toArray, List.set_cons_zero, List.set_cons_succ, h40] at hK ⊢
            go_simp
            exact hK.out _ _ rfl (Below.refl _ _)
          refine OpsOK.cons ?_ ?_
          · intro u W K hB hd hK
            have h40 := factg_v (dep_ofG hd 40 (by kernel_rfl)) (by decide)
            dsimp only [nth] at h40
            replace hK := hkg_val hK (by decide)
            clear hd
            simp only [lay, Act.put, List.setIfInBounds_toArray, List.set_cons_zero, List.set_cons_succ, h40] at hK ⊢
            go_simp
            exact hK.out _ _ rfl (Below.refl _ _)
          refine OpsOK.cons ?_ ?_
          · intro u W K hB hd hK
            have h40 := factg_v (dep_ofG hd 40 (by kernel_rfl)) (by decide)
            dsimp only [nth] at h40
            replace hK := hkg_val hK (by decide)
            clear hd
            simp only [lay, Act.put, List.setIfInBounds_toArray, List.set_cons_zero, List.set_cons_succ, h40] at hK ⊢
            go_simp
            exact hK.out _ _ rfl (Below.refl _ _)
          refine OpsOK.cons ?_ ?_
          · intro u W K hB hd hK
            have h40 := factg_v (dep_ofG hd 40 (by kernel_rfl)) (by decide)
            dsimp only [nth] at h40
            have h44 := factg_p (dep_ofG hd 44 (by kernel_rfl)) (by decide)
            dsimp only [nth] at h44
            have h45 := factg_v (dep_ofG hd 45 (by kernel_rfl)) (by decide)
            dsimp only [nth] at h45
            have h46 := factg_v (dep_ofG hd 46 (by kernel_rfl)) (by decide)
            dsimp only [nth] at h46
            have h47 := factg_v (dep_ofG hd 47 (by kernel_rfl)) (by decide)
            dsimp only [nth] at h47
            replace hK := hkg_p hK (by decide)
            dsimp only [nth] at hK
            clear hd
            simp only [lay, Act.put, List.setIfInBounds_toArray, List.set_cons_zero, List.set_cons_succ, h40, h45, h46, h47] at hK ⊢
            go_simp
            first
              | (go_at_call 19; (with_reducible refine (tlen_any bt L FB W (HTr.out.below hB)).mono ?_); rintro r w9 ⟨rfl, rfl⟩; exact hK.out _ _ rfl (Below.refl _ _))
              | (go_at_call 25; (with_reducible refine (HLe.out W hB).mono ?_); rintro r w9 ⟨v9, rfl, ho9, hb9⟩; exact hK.out _ _ (PB.of ho9) hb9)
              | (go_at_call 26; (with_reducible refine (HMo.out W hB).mono ?_); rintro r w9 ⟨v9, rfl, ho9, hb9⟩; exact hK.out _ _ (PB.of ho9) hb9)
              | (go_at_call 21; (with_reducible refine (sameentry_any Ag ng cg Avg nvg cvg Ah nh ch Avh nvh cvh (eSeq gx) (eGone gx) (eTil gx) (eKey gx) (eVal gx) W (HGr.out.1.below hB) (HGr.out.2.below hB) (HHr.out.1.below hB) (HHr.out.2.below hB)).mono ?_); rintro r w9 ⟨rfl, hb9⟩; exact hK.out _ _ rfl hb9)
              | (go_at_call 22; (with_reducible refine (tlist_any bt L FB Af nf cf frm At nt ct tk W (HTr.out.below hB) (HFr.out.below hB) (HTk.out.below hB) HS1.out.1 HS1.out.2 hS60).mono ?_); rintro r w9 ⟨v9, rfl, ho9, hb9⟩; rw [HLR.out] at ho9; exact hK.out _ _ (PEn.own ho9) hb9)
              | (go_at_call 27; (with_reducible refine (reflist_any (some ad) L.length c1 L Af nf cf frm At nt ct tk W (HRr.out.below hB) (HFr.out.below hB) (HTk.out.below hB) hS60).mono ?_); intro r w9 hrc; rw [HLR.out] at hrc; obtain ⟨v9, rfl, ho9, hb9⟩ := PEn.row hrc (by have := HLl.out; omega); exact hK.out _ _ ho9 hb9)
              | (go_at_call 17; (with_reducible refine (sameentries_p h44 h48).mono ?_); rintro r w9 ⟨rfl, hb9⟩; exact hK.out _ _ rfl hb9)
              | (go_at_call 28; (with_reducible refine (tmay_any bt L FB Ar nr cr key W (HTr.out.below hB) (HKr.out.below hB)).mono ?_); rintro r w9 ⟨rfl, hb9⟩; rw [HHH.out]; exact hK.out _ _ rfl hb9)
              | (go_at_call 30; (with_reducible refine (filter_any Ak V.length ck KU W (HKs.out.below2 hB) HVL.out).mono ?_); rintro r w9 ⟨v9, rfl, ho9, hb9⟩; rw [HFlt.out] at ho9; exact hK.out _ _ (PB.of ho9) hb9)
              | (go_at_call 29; (with_reducible refine (refhas_p h56 Ar nr cr key (HKr.out.below hB)).mono ?_); rintro r w9 ⟨rfl, hb9⟩; rw [HHH.out]; exact hK.out _ _ rfl hb9)
              | (go_at_call 11; (with_reducible refine (tawake_any _).mono ?_); rintro r w9 ⟨rfl, hb9⟩; exact hK.out _ _ rfl hb9)
              | exact hK.out _ _ rfl (Below.refl _ _)
          refine OpsOK.cons ?_ ?_
          · intro u W K hB hd hK
            have h40 := factg_v (dep_ofG hd 40 (by kernel_rfl)) (by decide)
            dsimp only [nth] at h40
            have h44 := factg_p (dep_ofG hd 44 (by kernel_rfl)) (by decide)
            dsimp only [nth] at h44
            have h48 := factg_p (dep_ofG hd 48 (by kernel_rfl)) (by decide)
            dsimp only [nth] at h48
            replace hK := hkg_val hK (by decide)
            clear hd
            simp only [lay, Act.put, List.setIfInBounds_toArray, List.set_cons_zero, List.set_cons_succ, h40] at hK ⊢
            go_simp
            first
              | (go_at_call 19; (with_reducible refine (tlen_any bt L FB W (HTr.out.below hB)).mono ?_); rintro r w9 ⟨rfl, rfl⟩; exact hK.out _ _ rfl (Below.refl _ _))
              | (go_at_call 25; (with_reducible refine (HLe.out W hB).mono ?_); rintro r w9 ⟨v9, rfl, ho9, hb9⟩; exact hK.out _ _ (PB.of ho9) hb9)
              | (go_at_call 26; (with_reducible refine (HMo.out W hB).mono ?_); rintro r w9 ⟨v9, rfl, ho9, hb9⟩; exact hK.out _ _ (PB.of ho9) hb9)
              | (go_at_call 21; (with_reducible refine (sameentry_any Ag ng cg Avg nvg cvg Ah nh ch Avh nvh cvh (eSeq gx) (eGone gx) (eTil gx) (eKey gx) (eVal gx) W (HGr.out.1.below hB) (HGr.out.2.below hB) (HHr.out.1.below hB) (HHr.out.2.below hB)).mono ?_); rintro r w9 ⟨rfl, hb9⟩; exact hK.out _ _ rfl hb9)
              | (go_at_call 22; (with_reducible refine (tlist_any bt L FB Af nf cf frm At nt ct tk W (HTr.out.below hB) (HFr.out.below hB) (HTk.out.below hB) HS1.out.1 HS1.out.2 hS60).mono ?_); rintro r w9 ⟨v9, rfl, ho9, hb9⟩; rw [HLR.out] at ho9; exact hK.out _ _ (PEn.own ho9) hb9)
              | (go_at_call 27; (with_reducible refine (reflist_any (some ad) L.length c1 L Af nf cf frm At nt ct tk W (HRr.out.below hB) (HFr.out.below hB) (HTk.out.below hB) hS60).mono ?_); intro r w9 hrc; rw [HLR.out] at hrc; obtain ⟨v9, rfl, ho9, hb9⟩ := PEn.row hrc (by have := HLl.out; omega); exact hK.out _ _ ho9 hb9)
              | (go_at_call 17; (with_reducible refine (sameentries_p h44 h48).mono ?_); rintro r w9 ⟨rfl, hb9⟩; exact hK.out _ _ rfl hb9)
              | (go_at_call 28; (with_reducible refine (tmay_any bt L FB Ar nr cr key W (HTr.out.below hB) (HKr.out.below hB)).mono ?_); rintro r w9 ⟨rfl, hb9⟩; rw [HHH.out]; exact hK.out _ _ rfl hb9)
              | (go_at_call 30; (with_reducible refine (filter_any Ak V.length ck KU W (HKs.out.below2 hB) HVL.out).mono ?_); rintro r w9 ⟨v9, rfl, ho9, hb9⟩; rw [HFlt.out] at ho9; exact hK.out _ _ (PB.of ho9) hb9)
              | (go_at_call 29; (with_reducible refine (refhas_p h56 Ar nr cr key (HKr.out.below hB)).mono ?_); rintro r w9 ⟨rfl, hb9⟩; rw [HHH.out]; exact hK.out _ _ rfl hb9)
              | (go_at_call 11; (with_reducible refine (tawake_any _).mono ?_); rintro r w9 ⟨rfl, hb9⟩; exact hK.out _ _ rfl hb9)
              | exact hK.out _ _ rfl (Below.refl _ _)
          refine OpsOK.cons ?_ ?_
          · intro u W K hB hd hK
            have h40 := factg_v (dep_ofG hd 40 (by kernel_rfl)) (by decide)
            dsimp only [nth] at h40
            have h49 := factg_v (dep_ofG hd 49 (by kernel_rfl)) (by decide)
            dsimp only [nth] at h49
            replace hK := hkg_val hK (by decide)
            clear hd
            simp only [lay, Act.put, List.setIfInBounds_toArray, List.set_cons_zero, List.set_cons_succ, h40, h49] at hK ⊢
            go_simp
            exact hK.out _ _ rfl (Below.refl _ _)
          refine OpsOK.cons ?_ ?_
          · intro u W K hB hd hK
            have h49 := factg_v (dep_ofG hd 49 (by kernel_rfl)) (by decide)
            dsimp only [nth] at h49
            have h50 := factg_v (dep_ofG hd 50 (by kernel_rfl)) (by decide)
            dsimp only [nth] at h50
            replace hK := hkg_val hK (by decide)
            clear hd
            simp only [lay, Act.put, List.setIfInBounds_toArray, List.set_cons_zero, List.set_cons_succ, h49, h50] at hK ⊢
            go_simp
            exact hK.out _ _ rfl (Below.refl _ _)
          refine OpsOK.cons ?_ ?_
          · intro u W K hB hd hK
            have h51 := factg_v (dep_ofG hd 51 (by kernel_rfl)) (by decide)
            dsimp only [nth] at h51
            replace hK := hkg_val hK (by decide)
            clear hd
            simp only [lay, Act.put, List.setIfInBounds_toArray, List.set_cons_zero, List.set_cons_succ, h51] at hK ⊢
            go_simp
            exact hK.out _ _ rfl (Below.refl _ _)
          refine OpsOK.cons ?_ ?_
          · intro u W K hB hd hK
            have h51 := factg_v (dep_ofG hd 51 (by kernel_rfl)) (by decide)
            dsimp only [nth] at h51
            replace hK := hkg_val hK (by decide)
            clear hd
            simp only [lay, Act.put, List.setIfInBounds_toArray, List.set_cons_zero, List.set_cons_succ, h51] at hK ⊢
            go_simp
            exact hK.out _ _ rfl (Below.refl _ _)
          refine OpsOK.cons ?_ ?_
          · intro u W K hB hd hK
            have h51 := factg_v (dep_ofG hd 51 (by kernel_rfl)) (by decide)
            dsimp only [nth] at h51
            have h52 := factg_v (dep_ofG hd 52 (by kernel_rfl)) (by decide)
            dsimp only [nth] at h52
            have h53 := factg_v (dep_ofG hd 53 (by kernel_rfl)) (by decide)
            dsimp only [nth] at h53
            replace hK := hkg_val hK (by decide)
            clear hd
            simp only [lay, Act.put, List.setIfInBounds_toArray, List.set_cons_zero, List.set_cons_succ, h51, h52, h53] at hK ⊢
            go_simp
            first
              | (go_at_call 19; (with_reducible refine (tlen_any bt L FB W (HTr.out.below hB)).mono ?_); rintro r w9 ⟨rfl, rfl⟩; exact hK.out _ _ rfl (Below.refl _ _))
              | (go_at_call 25; (with_reducible refine (HLe.out W hB).mono ?_); rintro r w9 ⟨v9, rfl, ho9, hb9⟩; exact hK.out _ _ (PB.of ho9) hb9)
              | (go_at_call 26; (with_reducible refine (HMo.out W hB).mono ?_); rintro r w9 ⟨v9, rfl, ho9, hb9⟩; exact hK.out _ _ (PB.of ho9) hb9)
              | (go_at_call 21; (with_reducible refine (sameentry_any Ag ng cg Avg nvg cvg Ah nh ch Avh nvh cvh (eSeq gx) (eGone gx) (eTil gx) (eKey gx) (eVal gx) W (HGr.out.1.below hB) (HGr.out.2.below hB) (HHr.out.1.below hB) (HHr.out.2.below hB)).mono ?_); rintro r w9 ⟨rfl, hb9⟩; exact hK.out _ _ rfl hb9)
              | (go_at_call 22; (with_reducible refine (tlist_any bt L FB Af nf cf frm At nt ct tk W (HTr.out.below hB) (HFr.out.below hB) (HTk.out.below hB) HS1.out.1 HS1.out.2 hS60).mono ?_); rintro r w9 ⟨v9, rfl, ho9, hb9⟩; rw [HLR.out] at ho9; exact hK.out _ _ (PEn.own ho9) hb9)
              | (go_at_call 27; (with_reducible refine (reflist_any (some ad) L.length c1 L Af nf cf frm At nt ct tk W (HRr.out.below hB) (HFr.out.below hB) (HTk.out.below hB) hS60).mono ?_); intro r w9 hrc; rw [HLR.out] at hrc; obtain ⟨v9, rfl, ho9, hb9⟩ := PEn.row hrc (by have := HLl.out; omega); exact hK.out _ _ ho9 hb9)
              | (go_at_call 17; (with_reducible refine (sameentries_p h44 h48).mono ?_); rintro r w9 ⟨rfl, hb9⟩; exact hK.out _ _ rfl hb9)
              | (go_at_call 28; (with_reducible refine (tmay_any bt L FB Ar nr cr key W (HTr.out.below hB) (HKr.out.below hB)).mono ?_); rintro r w9 ⟨rfl, hb9⟩; rw [HHH.out]; exact hK.out _ _ rfl hb9)
              | (go_at_call 30; (with_reducible refine (filter_any Ak V.length ck KU W (HKs.out.below2 hB) HVL.out).mono ?_); rintro r w9 ⟨v9, rfl, ho9, hb9⟩; rw [HFlt.out] at ho9; exact hK.out _ _ (PB.of ho9) hb9)
              | (go_at_call 29; (with_reducible refine (refhas_p h56 Ar nr cr key (HKr.out.below hB)).mono ?_); rintro r w9 ⟨rfl, hb9⟩; rw [HHH.out]; exact hK.out _ _ rfl hb9)
              | (go_at_call 11; (with_reducible refine (tawake_any _).mono ?_); rintro r w9 ⟨rfl, hb9⟩; exact hK.out _ _ rfl hb9)
              | exact hK.out _ _ rfl (Below.refl _ _)
          refine OpsOK.cons ?_ ?_
          · intro u W K hB hd hK
            have h51 := factg_v (dep_ofG hd 51 (by kernel_rfl)) (by decide)
            dsimp only [nth] at h51
            replace hK := hkg_val hK (by decide)
            clear hd
            simp only [lay, Act.put, List.setIfInBounds_toArray, List.set_cons_zero, List.set_cons_succ, h51] at hK ⊢
            go_simp
            exact hK.out _ _ rfl (Below.refl _ _)
          refine OpsOK.cons ?_ ?_
          · intro u W K hB hd hK
            have h51 := factg_v (dep_ofG hd 51 (by kernel_rfl)) (by decide)
            dsimp only [nth] at h51
            have h54 := factg_v (dep_ofG hd 54 (by kernel_rfl)) (by decide)
            dsimp only [nth] at h54
            have h55 := factg_v (dep_ofG hd 55 (by kernel_rfl)) (by decide)
            dsimp only [nth] at h55
            replace hK := hkg_p hK (by decide)
            dsimp only [nth] at hK
            clear hd
            simp only [lay, Act.put, List.setIfInBounds_toArray, List.set_cons_zero, List.set_cons_succ, h51, h54, h55] at hK ⊢
            go_simp
            first
              | (go_at_call 19; (with_reducible refine (tlen_any bt L FB W (HTr.out.below hB)).mono ?_); rintro r w9 ⟨rfl, rfl⟩; exact hK.out _ _ rfl (Below.refl _ _))
              | (go_at_call 25; (with_reducible refine (HLe.out W hB).mono ?_); rintro r w9 ⟨v9, rfl, ho9, hb9⟩; exact hK.out _ _ (PB.of ho9) hb9)
              | (go_at_call 26; (with_reducible refine (HMo.out W hB).mono ?_); rintro r w9 ⟨v9, rfl, ho9, hb9⟩; exact hK.out _ _ (PB.of ho9) hb9)
              | (go_at_call 21; (with_reducible refine (sameentry_any Ag ng cg Avg nvg cvg Ah nh ch Avh nvh cvh (eSeq gx) (eGone gx) (eTil gx) (eKey gx) (eVal gx) W (HGr.out.1.below hB) (HGr.out.2.below hB) (HHr.out.1.below hB) (HHr.out.2.below hB)).mono ?_); rintro r w9 ⟨rfl, hb9⟩; exact hK.out _ _ rfl hb9)
              | (go_at_call 22; (with_reducible refine (tlist_any bt L FB Af nf cf frm At nt ct tk W (HTr.out.below hB) (HFr.out.below hB) (HTk.out.below hB) HS1.out.1 HS1.out.2 hS60).mono ?_); rintro r w9 ⟨v9, rfl, ho9, hb9⟩; rw [HLR.out] at ho9; exact hK.out _ _ (PEn.own ho9) hb9)
              | (go_at_call 27; (with_reducible refine (reflist_any (some ad) L.length c1 L Af nf cf frm At nt ct tk W (HRr.out.below hB) (HFr.out.below hB) (HTk.out.below hB) hS60).mono ?_); intro r w9 hrc; rw [HLR.out] at hrc; obtain ⟨v9, rfl, ho9, hb9⟩ := PEn.row hrc (by have := HLl.out; omega); exact hK.out _ _ ho9 hb9)
              | (go_at_call 17; (with_reducible refine (sameentries_p h44 h48).mono ?_); rintro r w9 ⟨rfl, hb9⟩; exact hK.out _ _ rfl hb9)
              | (go_at_call 28; (with_reducible refine (tmay_any bt L FB Ar nr cr key W (HTr.out.below hB) (HKr.out.below hB)).mono ?_); rintro r w9 ⟨rfl, hb9⟩; rw [HHH.out]; exact hK.out _ _ rfl hb9)
              | (go_at_call 30; (with_reducible refine (filter_any Ak V.length ck KU W (HKs.out.below2 hB) HVL.out).mono ?_); rintro r w9 ⟨v9, rfl, ho9, hb9⟩; rw [HFlt.out] at ho9; exact hK.out _ _ (PB.of ho9) hb9)
              | (go_at_call 29; (with_reducible refine (refhas_p h56 Ar nr cr key (HKr.out.below hB)).mono ?_); rintro r w9 ⟨rfl, hb9⟩; rw [HHH.out]; exact hK.out _ _ rfl hb9)
              | (go_at_call 11; (with_reducible refine (tawake_any _).mono ?_); rintro r w9 ⟨rfl, hb9⟩; exact hK.out _ _ rfl hb9)
              | exact hK.out _ _ rfl (Below.refl _ _)
          refine OpsOK.cons ?_ ?_
          · intro u W K hB hd hK
            have h51 := factg_v (dep_ofG hd 51 (by kernel_rfl)) (by decide)
            dsimp only [nth] at h51
            replace hK := hkg_val hK (by decide)
            clear hd
            simp only [lay, Act.put, List.setIfInBounds_toArray, List.set_cons_zero, List.set_cons_succ, h51] at hK ⊢
            go_simp
            exact hK.out _ _ rfl (Below.refl _ _)
          refine OpsOK.cons ?_ ?_
          · intro u W K hB hd hK
            have h51 := factg_v (dep_ofG hd 51 (by kernel_rfl)) (by decide)
            dsimp only [nth] at h51
            have h56 := factg_p (dep_ofG hd 56 (by kernel_rfl)) (by decide)
            dsimp only [nth] at h56
            have h57 := factg_v (dep_ofG hd 57 (by kernel_rfl)) (by decide)
            dsimp only [nth] at h57
            replace hK := hkg_val hK (by decide)
            clear hd
            simp only [lay, Act.put, List.setIfInBounds_toArray, List.set_cons_zero, List.set_cons_succ, h51, h57] at hK ⊢
            go_simp
            first
              | (go_at_call 19; (with_reducible refine (tlen_any bt L FB W (HTr.out.below hB)).mono ?_); rintro r w9 ⟨rfl, rfl⟩; exact hK.out _ _ rfl (Below.refl _ _))
              | (go_at_call 25; (with_reducible refine (HLe.out W hB).mono ?_); rintro r w9 ⟨v9, rfl, ho9, hb9⟩; exact hK.out _ _ (PB.of ho9) hb9)
              | (go_at_call 26; (with_reducible refine (HMo.out W hB).mono ?_); rintro r w9 ⟨v9, rfl, ho9, hb9⟩; exact hK.out _ _ (PB.of ho9) hb9)
              | (go_at_call 21; (with_reducible refine (sameentry_any Ag ng cg Avg nvg cvg Ah nh ch Avh nvh cvh (eSeq gx) (eGone gx) (eTil gx) (eKey gx) (eVal gx) W (HGr.out.1.below hB) (HGr.out.2.below hB) (HHr.out.1.below hB) (HHr.out.2.below hB)).mono ?_); rintro r w9 ⟨rfl, hb9⟩; exact hK.out _ _ rfl hb9)
              | (go_at_call 22; (with_reducible refine (tlist_any bt L FB Af nf cf frm At nt ct tk W (HTr.out.below hB) (HFr.out.below hB) (HTk.out.below hB) HS1.out.1 HS1.out.2 hS60).mono ?_); rintro r w9 ⟨v9, rfl, ho9, hb9⟩; rw [HLR.out] at ho9; exact hK.out _ _ (PEn.own ho9) hb9)
              | (go_at_call 27; (with_reducible refine (reflist_any (some ad) L.length c1 L Af nf cf frm At nt ct tk W (HRr.out.below hB) (HFr.out.below hB) (HTk.out.below hB) hS60).mono ?_); intro r w9 hrc; rw [HLR.out] at hrc; obtain ⟨v9, rfl, ho9, hb9⟩ := PEn.row hrc (by have := HLl.out; omega); exact hK.out _ _ ho9 hb9)
              | (go_at_call 17; (with_reducible refine (sameentries_p h44 h48).mono ?_); rintro r w9 ⟨rfl, hb9⟩; exact hK.out _ _ rfl hb9)
              | (go_at_call 28; (with_reducible refine (tmay_any bt L FB Ar nr cr key W (HTr.out.below hB) (HKr.out.below hB)).mono ?_); rintro r w9 ⟨rfl, hb9⟩; rw [HHH.out]; exact hK.out _ _ rfl hb9)
              | (go_at_call 30; (with_reducible refine (filter_any Ak V.length ck KU W (HKs.out.below2 hB) HVL.out).mono ?_); rintro r w9 ⟨v9, rfl, ho9, hb9⟩; rw [HFlt.out] at ho9; exact hK.out _ _ (PB.of ho9) hb9)
              | (go_at_call 29; (with_reducible refine (refhas_p h56 Ar nr cr key (HKr.out.below hB)).mono ?_); rintro r w9 ⟨rfl, hb9⟩; rw [HHH.out]; exact hK.out _ _ rfl hb9)
              | (go_at_call 11; (with_reducible refine (tawake_any _).mono ?_); rintro r w9 ⟨rfl, hb9⟩; exact hK.out _ _ rfl hb9)
              | exact hK.out _ _ rfl (Below.refl _ _)
          refine OpsOK.cons ?_ ?_
          · intro u W K hB hd hK
            have h51 := factg_v (dep_ofG hd 51 (by kernel_rfl)) (by decide)
            dsimp only [nth] at h51
            have h54 := factg_v (dep_ofG hd 54 (by kernel_rfl)) (by decide)
            dsimp only [nth] at h54
            have h58 := factg_v (dep_ofG hd 58 (by kernel_rfl)) (by decide)
            dsimp only [nth] at h58
            replace hK := hkg_val hK (by decide)
            clear hd
            simp only [lay, Act.put, List.setIfInBounds_toArray, List.set_cons_zero, List.set_cons_succ, h51, h54, h58] at hK ⊢
            go_simp
            exact hK.out _ _ rfl (Below.refl _ _)
          refine OpsOK.cons ?_ ?_
          · intro u W K hB hd hK
            have h51 := factg_v (dep_ofG hd 51 (by kernel_rfl)) (by decide)
            dsimp only [nth] at h51
            have h59 := factg_v (dep_ofG hd 59 (by kernel_rfl)) (by decide)
            dsimp only [nth] at h59
            replace hK := hkg_val hK (by decide)
            clear hd
            simp only [lay, Act.put, List.setIfInBounds_toArray, List.set_cons_zero, List.set_cons_succ, h51, h59] at hK ⊢
            go_simp
            exact hK.out _ _ rfl (Below.refl _ _)
          refine OpsOK.cons ?_ ?_
          · intro u W K hB hd hK
            have h58 := factg_v (dep_ofG hd 58 (by kernel_rfl)) (by decide)
            dsimp only [nth] at h58
            have h60 := factg_v (dep_ofG hd 60 (by kernel_rfl)) (by decide)
            dsimp only [nth] at h60
            replace hK := hkg_val hK (by decide)
            clear hd
            simp only [lay, Act.put, List.setIfInBounds_toArray, List.set_cons_zero, List.set_cons_succ, h58, h60] at hK ⊢
            go_simp
            exact hK.out _ _ rfl (Below.refl _ _)
          refine OpsOK.cons ?_ ?_
          · intro u W K hB hd hK
            have h61 := factg_v (dep_ofG hd 61 (by kernel_rfl)) (by decide)
            dsimp only [nth] at h61
            replace hK := hkg_val hK (by decide)
            clear hd
            simp only [lay, Act.put, List.setIfInBounds_toArray, List.set_cons_zero, List.set_cons_succ, h61] at hK ⊢
            go_simp
            first
              | (go_at_call 19; (with_reducible refine (tlen_any bt L FB W (HTr.out.below hB)).mono ?_); rintro r w9 ⟨rfl, rfl⟩; exact hK.out _ _ rfl (Below.refl _ _))
              | (go_at_call 25; (with_reducible refine (HLe.out W hB).mono ?_); rintro r w9 ⟨v9, rfl, ho9, hb9⟩; exact hK.out _ _ (PB.of ho9) hb9)
              | (go_at_call 26; (with_reducible refine (HMo.out W hB).mono ?_); rintro r w9 ⟨v9, rfl, ho9, hb9⟩; exact hK.out _ _ (PB.of ho9) hb9)
              | (go_at_call 21; (with_reducible refine (sameentry_any Ag ng cg Avg nvg cvg Ah nh ch Avh nvh cvh (eSeq gx) (eGone gx) (eTil gx) (eKey gx) (eVal gx) W (HGr.out.1.below hB) (HGr.out.2.below hB) (HHr.out.1.below hB) (HHr.out.2.below hB)).mono ?_); rintro r w9 ⟨rfl, hb9⟩; exact hK.out _ _ rfl hb9)
              | (go_at_call 22; (with_reducible refine (tlist_any bt L FB Af nf cf frm At nt ct tk W (HTr.out.below hB) (HFr.out.below hB) (HTk.out.below hB) HS1.out.1 HS1.out.2 hS60).mono ?_); rintro r w9 ⟨v9, rfl, ho9, hb9⟩; rw [HLR.out] at ho9; exact hK.out _ _ (PEn.own ho9) hb9)
              | (go_at_call 27; (with_reducible refine (reflist_any (some ad) L.length c1 L Af nf cf frm At nt ct tk W (HRr.out.below hB) (HFr.out.below hB) (HTk.out.below hB) hS60).mono ?_); intro r w9 hrc; rw [HLR.out] at hrc; obtain ⟨v9, rfl, ho9, hb9⟩ := PEn.row hrc (by have := HLl.out; omega); exact hK.out _ _ ho9 hb9)
              | (go_at_call 17; (with_reducible refine (sameentries_p h44 h48).mono ?_); rintro r w9 ⟨rfl, hb9⟩; exact hK.out _ _ rfl hb9)
              | (go_at_call 28; (with_reducible refine (tmay_any bt L FB Ar nr cr key W (HTr.out.below hB) (HKr.out.below hB)).mono ?_); rintro r w9 ⟨rfl, hb9⟩; rw [HHH.out]; exact hK.out _ _ rfl hb9)
              | (go_at_call 30; (with_reducible refine (filter_any Ak V.length ck KU W (HKs.out.below2 hB) HVL.out).mono ?_); rintro r w9 ⟨v9, rfl, ho9, hb9⟩; rw [HFlt.out] at ho9; exact hK.out _ _ (PB.of ho9) hb9)
              | (go_at_call 29; (with_reducible refine (refhas_p h56 Ar nr cr key (HKr.out.below hB)).mono ?_); rintro r w9 ⟨rfl, hb9⟩; rw [HHH.out]; exact hK.out _ _ rfl hb9)
              | (go_at_call 11; (with_reducible refine (tawake_any _).mono ?_); rintro r w9 ⟨rfl, hb9⟩; exact hK.out _ _ rfl hb9)
              | exact hK.out _ _ rfl (Below.refl _ _)
          refine OpsOK.cons ?_ ?_
          · intro u W K hB hd hK
            have h61 := factg_v (dep_ofG hd 61 (by kernel_rfl)) (by decide)
            dsimp only [nth] at h61
            have h62 := factg_v (dep_ofG hd 62 (by kernel_rfl)) (by decide)
            dsimp only [nth] at h62
            replace hK := hkg_val hK (by decide)
            clear hd
            simp only [lay, Act.put, List.setIfInBounds_toArray, List.set_cons_zero, List.set_cons_succ, h61, h62] at hK ⊢
            go_simp
            exact hK.out _ _ rfl (Below.refl _ _)
          refine OpsOK.cons ?_ ?_
          · intro u W K hB hd hK
            have h62 := factg_v (dep_ofG hd 62 (by kernel_rfl)) (by decide)
            dsimp only [nth] at h62
            have h63 := factg_v (dep_ofG hd 63 (by kernel_rfl)) (by decide)
            dsimp only [nth] at h63
            replace hK := hkg_val hK (by decide)
            clear hd
            simp only [lay, Act.put, List.setIfInBounds_toArray, List.set_cons_zero, List.set_cons_succ, h62, h63] at hK ⊢
            go_simp
            exact hK.out _ _ rfl (Below.refl _ _)
          exact OpsOK.nil
        intro u W hB hf
        have h64 := factg_v (hf 64 (by decide)) (by decide)
        dsimp only [nth] at h64
        clear hf
        simp only [lay, h64]
        clear h64
        go_wp2
        go_ret
        exact ⟨by first | rfl | simp, below_then HBr.out hB⟩
end Go.Proofs.Ytkkclkknpjapcaa
/-! ### TbT4 -/
namespace Go.Proofs.Ytkkclkknpjapcaa
open Go.RowKit
set_option linter.unusedVariables false
set_option linter.unusedSimpArgs false

theorem xor_byte (x y : UInt8) : bits .xor .u8 (x.toNat : Int) (y.toNat : Int) = ((x ^^^ y).toNat : Int) := by
  rw [u8_xor_nat _ _ x.toNat_lt y.toNat_lt, UInt8.toNat_xor]
theorem xor_self_iff (b x : UInt8) : (b ^^^ x) = b ↔ x = 0 := by
  constructor
  · intro h
    have h2 : b ^^^ (b ^^^ x) = b ^^^ b := by rw [h]
    rw [← UInt8.xor_assoc, UInt8.xor_self, UInt8.zero_xor] at h2
    exact h2
  · intro h
    rw [h, UInt8.xor_zero]
theorem tab_small {L : List EntR} (h : FitT L) (h60 : L.length ≤ 60) : 40 ≤ (tabB L).length ∧ (tabB L).length ≤ 200000 := by
  obtain ⟨out, idx, FIL, F, hp⟩ := parts_of h.2.1
  have := hp.len
  have := hp.outL
  have := hp.idxL
  have := hp.filL
  omega
theorem u8_of_wf {x : Int} (h : (Lit.int .u8 x).wf = true) : ∃ X : UInt8, x = (X.toNat : Int) := by
  have h2 := wf_u8 h
  exact ⟨UInt8.ofNat x.toNat, by rw [UInt8.toNat_ofNat']; omega⟩
/-- One byte turned: opened to its entries, or to an error. -/
theorem open_xor {L : List EntR} (hf : FitT L) {p : Nat} (hp : p < (tabB L).length) {X : UInt8} (hX : X ≠ 0) : openF ((tabB L).set p ((tabB L).getD p 0 ^^^ X)) = none := by
  cases h : openF ((tabB L).set p ((tabB L).getD p 0 ^^^ X)) with
  | none => rfl
  | some m =>
    have h1 := open_one (openF_tab hf) h hp
    have e : (tabB L).getD p 0 = (tabB L)[p] := by simp [hp]
    rw [e] at h1
    exact absurd ((xor_self_iff _ _).1 h1) hX
theorem set_same {l : List UInt8} {p : Nat} (hp : p < l.length) : l.set p (l.getD p 0 ^^^ 0) = l := by
  rw [UInt8.xor_zero]
  have e : l.getD p 0 = l[p] := by simp [hp]
  rw [e, List.set_getElem_self]
theorem sameentries_x {W : World} {u : Value} {es : List EntR} {A' : Option Addr} {c' : Nat} (h1 : PEn es u W) (h2 : REnts W A' es.length es) : Calls Try.prog 17 #[u, .slice A' es.length c'] W fun e w' => e = .returned (.bool true) ∧ Below W.heap.size W w' := by
  obtain ⟨A, c, rfl, _, h3⟩ := h1
  exact sameentries_any A c A' c' es.length es W h3 h2
theorem build_p {W : World} {u : Value} {es : List EntR} (h1 : PEn es u W) (hf : FitT es) : Calls Try.prog 12 #[u] W fun r w' => BdT W w' es r := by
  obtain ⟨A, c, rfl, hc, h3⟩ := h1
  exact build_tab A _ c es W h3 hc hf
theorem RB.block_lt {w : World} {A : Option Addr} {n : Nat} {xs : List UInt8} (h : RB w A n xs) (hn : 0 < n) {ad : Addr} (e : A = some ad) : ad.block < w.heap.size := by
  obtain ⟨ad', e', hcell⟩ := h.at_ hn
  rw [e] at e'
  obtain rfl := Option.some.inj e'
  have := World.block_lt_of_cell? w _ hcell
  rwa [block_of_add] at this
theorem open_flag {A : Option Addr} {n c : Nat} {xs : List UInt8} {w : World} {B : Bool} (h : RB w A n xs) (hc : n ≤ c) (hsz : n ≤ 100000000) (hno : B = false → openF xs = none) (hyes : B = true → ∃ es, openF xs = some es) :
    Calls Try.prog 15 #[.slice A n c] w fun r w' => ∃ (v : Value) (e : Int), r = .returned (.tuple #[v, .int .i64 e]) ∧ (e == 0) = B ∧ Below w.heap.size w w' := by
  refine (open_any A n c xs w h hc hsz).mono ?_
  intro r w' ho
  unfold OpnC at ho
  cases B
  · rw [hno rfl] at ho
    obtain ⟨e, he, rfl, hb⟩ := ho
    exact ⟨_, e, rfl, by rw [beq_eq_false_iff_ne]; exact he, hb⟩
  · obtain ⟨es, h2⟩ := hyes rfl
    rw [h2] at ho
    obtain ⟨bt, rfl, _, hb⟩ := ho
    exact ⟨_, 0, rfl, rfl, hb⟩
set_option maxHeartbeats 64000000 in
set_option maxRecDepth 100000 in
theorem TableBack_walk (A : Option Addr) (n c : Nat) (es : List EntR) (z : Int) (x : Int) (zc : Int) (w : World) (h : REnts w A n es) (hc : n ≤ c) (hz0 : (Lit.int .i64 z).wf = true) (hx0 : (Lit.int .u8 x).wf = true) (hzc0 : (Lit.int .i64 zc).wf = true) :
    Calls Try.prog 5 #[.slice A n c, .int .i64 z, .int .u8 x, .int .i64 zc] w fun e w' => e = .returned (.bool true) ∧ Below w.heap.size w w' := by
  have hz := wf_i64 hz0
  have hzc := wf_i64 hzc0
  obtain ⟨X, rfl⟩ := u8_of_wf hx0
  have H := hid h
  clear h hz0 hzc0 hx0
  go_enter Try.func5, Try.ntmps5
  go_upto_region 2 with (go_at_call 14; (with_reducible refine (tsorted_any A n c es _ H.out).mono ?_); rintro r w1 ⟨A1, c1, L, rfl, hc1, hr1, hs1, hm1, hl1, hb1⟩; have HR1 := hid hr1; have HS1 := hid (⟨hs1, hm1⟩ : _ ∧ _); have HB1 := hid hb1; clear hr1 hs1 hm1 hb1)
  by_cases hL : L.length = 0
  · have HNo : Hid (∀ E, TbC L E → E = 13) := hid (fun E hE => tb_none hE hL)
    have hzz : ((L.length : Int) == 0) = true := by rw [beq_iff_eq]; omega
    clear hL hz hzc
    go_wp2_with (first
      | (go_at_call 12; (with_reducible refine (tbuild_any A1 L.length c1 L _ HR1.out hc1).mono ?_); rintro r w2 ⟨E2, v2, rfl, hE2, ho2, hb2⟩; obtain rfl := HNo.out E2 hE2; have HB2 := hid (below_then HB1.out hb2); clear hE2 ho2)
      | (go_at_call 11; (with_reducible refine (tawake_any _).mono ?_); rintro e w6 ⟨rfl, hb6⟩; have HB6 := hid (below_then HB2.out hb6)))
    go_ret
    exact ⟨by first | rfl | simp, HB6.out⟩
  · have HFit : Hid (FitT L) := hid (fit_small HS1.out.2 HS1.out.1 (by omega) (by omega))
    obtain ⟨ht1, ht2⟩ := tab_small HFit.out hl1
    obtain ⟨p, hp, hpe⟩ := back_mod z (tabB L).length (by omega) hz
    obtain ⟨q, hq, hqe⟩ := back_mod zc (tabB L).length (by omega) hzc
    have HOT := hid (openF_tab HFit.out)
    have HXn : Hid (X ≠ 0 → openF ((tabB L).set p ((tabB L).getD p 0 ^^^ X)) = none) := hid (fun hX => open_xor HFit.out hp hX)
    have HXs : Hid (X = 0 → (tabB L).set p ((tabB L).getD p 0 ^^^ X) = tabB L) := hid (fun hX => by rw [hX]; exact set_same hp)
    obtain ⟨T, hT⟩ : ∃ T, tabB L = T := ⟨_, rfl⟩
    rw [hT] at ht1 ht2 hp hpe hq hqe HOT HXn HXs
    have HTe := hid hT
    obtain ⟨N, hN⟩ : ∃ N, T.length = N := ⟨_, rfl⟩
    rw [hN] at ht1 ht2 hp hpe hq hqe
    have HNl := hid hN
    have hd32 : decide ((N : Int) < 32) = false := decide_eq_false (by omega)
    have hNz : ¬ (N : Int) = 0 := by omega
    have hpi : (p : Int) < (N : Int) := by omega
    have hqi : (q : Int) < (N : Int) := by omega
    have hL2 : L.length ≤ 1000000 := by omega
    have HX := hid xor_byte
    have HCut : Hid (∀ (B : Option Addr) (d : Nat), N ≤ d → ∃ c2, (∀ w, (Instr.slice 25 (.slice B N d) none (some (.int .i64 (q : Int))) none).run Try.prog w = .ok (.slice B q c2) w) ∧ (∀ w xs, RB w B N xs → RB w B q (xs.take q)) ∧ q ≤ c2) := hid (fun B d hd => cutB_hi (A := B) hd (hi := q) (by omega) (q : Int) rfl)
    clear hT hN hz hzc hL
    go_upto_region 8 with (first
      | (go_at_call 12; (with_reducible refine (build_tab A1 L.length c1 L _ HR1.out hc1 HFit.out).mono ?_); rintro r w2 ⟨A2, n2, c2, rfl, hn2, ho2, hr2, hc2, hb2⟩; rw [HTe.out] at hr2 hn2; rw [HNl.out] at hn2; have hn3 := hn2.symm; subst hn3; have HR2 := hid hr2; have HB2 := hid (below_then HB1.out hb2); have HC2 := hid hb2; clear ho2 hr2 hb2)
      | (go_at_call 15; (with_reducible refine (open_tab A2 N c2 L _ (by rw [HTe.out]; exact HR2.out) hc2 HFit.out).mono ?_); rintro r w3 ⟨bt, rfl, ht3, hb3⟩; have HT3 := hid ht3; have HB3 := hid (below_then HB2.out hb3); have HC3 := hid (below_then HC2.out hb3); have HD3 := hid hb3; clear ht3 hb3)
      | (go_at_call 18; (with_reducible refine (tall_any bt L (filtB L) _ HT3.out HS1.out.1 HS1.out.2 hL2).mono ?_); rintro r w4 ⟨v4, rfl, ho4, hb4⟩; have HO4 := hid (PEn.own ho4); have HB4 := hid (below_then HB3.out hb4); have HC4 := hid (below_then HC3.out hb4); have HD4 := hid (below_then HD3.out hb4); clear ho4 hb4)
      | (go_at_call 17; (with_reducible refine (sameentries_x HO4.out (HR1.out.below HC4.out)).mono ?_); rintro r w5 ⟨rfl, hb5⟩; have HB5 := hid (below_then HB4.out hb5); have HD5 := hid (below_then HD4.out hb5); clear hb5))
    obtain ⟨B, hB⟩ : ∃ B, decide (X = 0) = B := ⟨_, rfl⟩
    have hXB : ((X.toNat : Int) == 0) = B := by
      rw [← hB, Bool.eq_iff_iff, beq_iff_eq, decide_eq_true_iff]
      constructor
      · intro e; exact UInt8.toNat_inj.1 (by simpa using e)
      · intro e; rw [e]; rfl
    have HFl : Hid (∀ (W : World) (D : Option Addr) (d : Nat), RB W D N (T.set p (T.getD p 0 ^^^ X)) → N ≤ d → Calls Try.prog 15 #[.slice D N d] W fun r w' => ∃ (v : Value) (e : Int), r = .returned (.tuple #[v, .int .i64 e]) ∧ (e == 0) = B ∧ Below W.heap.size W w') := hid (fun W D d hr hd => open_flag hr hd (by omega) (fun e => HXn.out (by rw [← hB] at e; simpa using e)) (fun e => ⟨L, by rw [HXs.out (by rw [← hB] at e; simpa using e)]; exact HOT.out⟩))
    have hxor : bits .xor .u8 (bAt T p : Int) (X.toNat : Int) = ((T.getD p 0 ^^^ X).toNat : Int) := HX.out _ _
    have HXo := hid hxor
    clear hB HXn HXs HX
    go_wp2
    go_quiet (fail)
    go_upto_region 10 with (at_builtin; refine wpB_append w5 _ w5.heap.size rfl (.tmp 75) (.tmp 76) rfl _ [] rfl (OB.empty _ _ (below_drewN (Below.refl w5.heap.size w5) _).size) A2 N c2 T rfl (((HR2.out.below HD5.out).drewN _).alloc _) (by have := HNl.out; simp; omega) (below_alloc' (below_drewN (Below.refl w5.heap.size w5) _) _) (below_alloc' (below_drewN (Below.refl w5.heap.size w5) _) _).size ?_; intro v6 w6 hown6 hB6 hg6 _; rw [List.nil_append] at hown6; obtain ⟨g6, c6, rfl, hg60, hg61, hc6⟩ := hown6.formN N HNl.out (by omega); have HO6 := hid hown6; have HD6 := hid hB6; clear hown6 hB6 hg6)
    have k0 := HO6.out.cell (j := p) hp
    have f0 := HO6.out.frozen p
    have hxor := HXo.out
    obtain ⟨Y, hY⟩ : ∃ Y, T.getD p 0 ^^^ X = Y := ⟨_, rfl⟩
    rw [hY] at hxor HFl
    have hzy : (((T[p]?.getD 0).toNat ^^^ X.toNat : Nat) : Int) = (Y.toNat : Int) := by rw [← hY, UInt8.toNat_xor, List.getD_eq_getElem?_getD]
    have HO7 := hid (HO6.out.set p Y hzy)
    have HD7 : Hid (Below w5.heap.size w5 (w6.setCell ⟨g6, p, none⟩ (.int .u8 (((T[p]?.getD 0).toNat ^^^ X.toNat : Nat) : Int)))) := hid (HD6.out.setCell (show w5.heap.size ≤ (⟨g6, p, none⟩ : Addr).block from hg60) _)
    have HR7 : Hid (RB (w6.setCell ⟨g6, p, none⟩ (.int .u8 (((T[p]?.getD 0).toNat ^^^ X.toNat : Nat) : Int))) A2 N T) := hid ((HR2.out.below HD5.out).below HD7.out)
    have HR8 : Hid (RB (w6.setCell ⟨g6, p, none⟩ (.int .u8 (((T[p]?.getD 0).toNat ^^^ X.toNat : Nat) : Int))) (some ⟨g6, 0, none⟩) N (T.set p Y)) := hid HO7.out.rb.1
    have HB7 := hid (below_then HB5.out HD7.out)
    have HR9 := hid (HFl.out _ _ c6 HR8.out hc6)
    clear hY HO6 HO7 HR8 HD6 hzy hxor HXo
    obtain ⟨cq, hcq, hrq, hcq2⟩ := HCut.out A2 c2 hc2
    have HRq := hid hrq
    clear hrq
    cases B
    all_goals
      go_upto_region 14 with (go_at_call 15; refine (HR9.out).mono ?_; rintro r w8 ⟨v8, e8, rfl, he8, hb8⟩; have HB8 := hid (below_then HB7.out hb8); have HT8 := hid (HRq.out _ _ (HR7.out.below hb8)); have HF8 := hid (HR7.out.below hb8); clear hb8)
      cases hof : openF (T.take q) with
      | none =>
        have HOf := hid hof
        clear hof
        have HOp := hid (open_any A2 q cq (T.take q) w8 HT8.out hcq2 (by omega))
        go_wp2_with (first
          | (go_at_call 15; refine (HOp.out).mono ?_; intro r w9 ho9; unfold OpnC at ho9; rw [HOf.out] at ho9; obtain ⟨e9, he9, rfl, hb9⟩ := ho9; have hz9 : (e9 == 0) = false := (by rw [beq_eq_false_iff_ne]; exact he9); have HB9 := hid (below_then HB8.out hb9); clear hb9)
          | (go_at_call 11; (with_reducible refine (tawake_any _).mono ?_); rintro e w6 ⟨rfl, hb6⟩; have HB10 := hid (below_then HB9.out hb6)))
        go_ret
        exact ⟨by first | rfl | simp, HB10.out⟩
      | some m =>
        obtain ⟨_, _, hfm, htm⟩ := openF_some hof
        have HOf := hid hof
        have HFm := hid hfm
        have HFs : Hid (Srt m ∧ AllM m) := hid ⟨hfm.2.2.1, hfm.2.1⟩
        have HTm := hid htm
        have hm6 : m.length ≤ 1000000 := by have := hfm.1.2; omega
        have HQl : Hid ((T.take q).length = q) := hid (by rw [List.length_take, HNl.out]; omega)
        clear hof hfm htm
        have HOp := hid (open_any A2 q cq (T.take q) w8 HT8.out hcq2 (by omega))
        go_upto_region 17 with (first
          | (go_at_call 15; refine (HOp.out).mono ?_; intro r w9 ho9; unfold OpnC at ho9; rw [HOf.out] at ho9; obtain ⟨bt9, rfl, ht9, hb9⟩ := ho9; have HT9 := hid ht9.reads; have HB9 := hid (below_then HB8.out hb9); have HQ9 := hid (HF8.out.below hb9); clear hb9 ht9)
          | (go_at_call 18; (with_reducible refine (tall_any bt9 m (filtB m) _ HT9.out HFs.out.1 HFs.out.2 hm6).mono ?_); rintro r w10 ⟨v10, rfl, ho10, hb10⟩; have HO10 := hid (PEn.own ho10); have HB10 := hid (below_then HB9.out hb10); have HQ10 := hid (HQ9.out.below hb10); clear ho10 hb10)
          | (go_at_call 12; (with_reducible refine (build_p HO10.out HFm.out).mono ?_); rintro r w11 ⟨A11, n11, c11, rfl, hn11, ho11, hr11, hc11, hb11⟩; rw [HTm.out] at hr11 hn11; rw [HQl.out] at hn11; have hn12 := hn11.symm; subst hn12; have HR11 := hid hr11; have HB11 := hid (below_then HB10.out hb11); have HQ11 := hid (HQ10.out.below hb11); clear ho11 hr11 hb11))
        have hcv1 := HR11.out.drew.conv c11
        have hcv2 := (HRq.out _ _ HQ11.out).drew.conv cq
        have hcv3 := hcv1
        have hcv4 := hcv2
        simp only [World.drew] at hcv3 hcv4
        go_still_tail 12, (by kernel_rfl)
        change wpList _ _ _ _ _ w11.drew
        have hBd : Below w.heap.size w w11.drew := below_drew HB11.out
        generalize w11.drew = wz at *
        go_wp2_with (go_at_call 11; (with_reducible refine (tawake_any _).mono ?_); rintro r w12 ⟨rfl, hb12⟩)
        go_ret
        exact ⟨by first | rfl | simp, below_then hBd hb12⟩
end Go.Proofs.Ytkkclkknpjapcaa
/-! ### TbP -/
namespace Go.Proofs.Ytkkclkknpjapcaa
open Go.RowKit
set_option linter.unusedVariables false
set_option linter.unusedSimpArgs false

def tmK (i : Nat) : List UInt8 := [UInt8.ofNat (i / 256), UInt8.ofNat i]
def tmE (z i : Nat) : EntR := mkEnt (tmK i) ((i : Int) + 1) false 0 (List.replicate z 0)
def tmS (z m : Nat) : List EntR := (List.range m).map (tmE z)
theorem tmS_succ (z m : Nat) : tmS z (m + 1) = tmS z m ++ [tmE z m] := by simp [tmS, List.range_succ]
theorem tmS_len (z m : Nat) : (tmS z m).length = m := by simp [tmS]
theorem tmS_elt {z m k : Nat} (h : k < m) : elt noEnt (tmS z m) k = tmE z k := by
  rw [elt_get noEnt (by rw [tmS_len]; exact h)]
  simp [tmS]
theorem tm_cmp2 : ∀ a, a < 16 → ∀ b, b < 256 → cmpB (tmK (a * 256 + b)) (tmK (a * 256 + b + 1)) < 0 := by decide +kernel
theorem tm_cmp (k : Nat) (hk : k < 4010) : cmpB (tmK k) (tmK (k + 1)) < 0 := by
  have h := tm_cmp2 (k / 256) (by omega) (k % 256) (by omega)
  rwa [show k / 256 * 256 + k % 256 = k by omega] at h
theorem tm_all (z m : Nat) (hz : z ≤ 30) (hm : m ≤ 4010) : AllM (tmS z m) := fun j hj => by
  rw [tmS_len] at hj
  rw [tmS_elt hj]
  unfold mayE mayN
  rw [decide_eq_true_iff]
  refine ⟨by show 1 ≤ 2; omega, by show 2 ≤ 512; omega, by show (List.replicate z (0 : UInt8)).length ≤ 2048; rw [List.length_replicate]; omega, by show 1 ≤ (j : Int) + 1; omega, by show (j : Int) + 1 ≤ _; omega, Int.le_refl _, by show (0 : Int) ≤ _; omega, .inl rfl⟩
theorem tm_srt (z m : Nat) (hm : m ≤ 4010) : Srt (tmS z m) := ordN_Srt fun k h1 h2 => by
  rw [tmS_len] at h2
  rw [tmS_elt (by omega), tmS_elt h2]
  have h := tm_cmp (k - 1) (by omega)
  rw [Nat.sub_add_cancel h1] at h
  unfold aheadE aheadK
  rw [decide_eq_true_iff]
  exact .inl h
/-! ## How long a table of small entries is -/
def SmE (es : List EntR) : Prop := ∀ j, j < es.length → (eKey (elt noEnt es j)).length + (eVal (elt noEnt es j)).length ≤ 40
theorem SmE.take {es : List EntR} (h : SmE es) (k : Nat) : SmE (es.take k) := fun j hj => by
  rw [List.length_take] at hj
  rw [elt_take' _ _ _ _ (by omega)]
  exact h j (by omega)
theorem SmE.drop {es : List EntR} (h : SmE es) (k : Nat) : SmE (es.drop k) := fun j hj => by
  rw [List.length_drop] at hj
  rw [elt_drop']
  exact h _ (by omega)
theorem bk_len2 (n : Nat) (e : EntR) (L : List UInt8) (h : (eKey e).length + (eVal e).length ≤ 40) : (bkTail e (bkHead n e L)).length ≤ L.length + 91 := by
  have e1 := uvar_len n
  have e2 := uvar_len ((eKey e).length - n)
  have e3 := uvar_len (eSeq e).toNat
  have e4 := uvar_len (eTil e).toNat
  have e5 := uvar_len (eVal e).length
  unfold bkTail bkHead
  split <;> simp only [List.length_append, List.length_singleton, List.length_drop] <;> omega
theorem accK_len2 {es : List EntR} (h : SmE es) : ∀ k, k ≤ es.length → (accK es k).length ≤ k * 91 := by
  intro k
  induction k with
  | zero => intro _; simp [accK]
  | succ k ih =>
    intro hk
    have h1 := ih (by omega)
    have h2 := bk_len2 (shN es k) (elt noEnt es k) (accK es k) (h k (by omega))
    rw [accK]
    omega
theorem encK_len2 {es : List EntR} (h : SmE es) (hne : 1 ≤ es.length) : (encK es).length ≤ es.length * 99 := by
  have h1 := accK_len2 h es.length (Nat.le_refl _)
  have h2 := stK_len es es.length
  unfold encK
  rw [List.length_append, fix4_len, fixK_len, h2]
  omega
theorem outF_len2 : ∀ (f : Nat) (es : List EntR), SmE es → (outF f es).length ≤ es.length * 103 := by
  intro f
  induction f with
  | zero => intro es _; simp [outF]
  | succ f ih =>
    intro es h
    rw [outF]
    by_cases he : es = []
    · simp [he]
    · rw [if_neg he, List.length_append, sumB_len]
      have h1 := cutN_pos he
      have h2 := cutN_le es
      have h0 : (es.take (cutN es)).length = cutN es := by rw [List.length_take]; omega
      have h3 := encK_len2 (h.take (cutN es)) (by omega)
      rw [h0] at h3
      have h4 := ih (es.drop (cutN es)) (h.drop _)
      rw [List.length_drop] at h4
      have h5 : (es.length - cutN es) * 103 + cutN es * 103 = es.length * 103 := by rw [← Nat.add_mul]; congr 1; omega
      omega
theorem fit_light {es : List EntR} (hm : AllM es) (hs : Srt es) (hl : SmE es) (h1 : 1 ≤ es.length) (h2 : es.length ≤ 4000) : FitT es := by
  obtain ⟨out, idx, FIL, F, hp⟩ := parts_of hm
  have := hp.len
  have h3 := outF_len2 es.length es hl
  rw [← hp.outE] at h3
  have := hp.idxL
  have := hp.filL
  exact ⟨⟨h1, h2⟩, hm, hs, by omega⟩
theorem tm_fit {z n : Nat} (hz : z ≤ 30) (h1 : 1 ≤ n) (h2 : n ≤ 4000) : FitT (tmS z n) := by
  refine fit_light (tm_all z n hz (by omega)) (tm_srt z n (by omega)) (fun j hj => ?_) (by rw [tmS_len]; exact h1) (by rw [tmS_len]; exact h2)
  rw [tmS_len] at hj
  rw [tmS_elt hj]
  show 2 + (List.replicate z (0 : UInt8)).length ≤ 40
  rw [List.length_replicate]
  omega
/-- Keys of entries that are in order with rising numbers part. -/
theorem tm_ahead {z n i j : Nat} (hn : n ≤ 4010) (hij : i < j) (hj : j < n) : cmpB (tmK i) (tmK j) < 0 := by
  have h := (tm_srt z n hn).at_ i j hij (by rw [tmS_len]; exact hj)
  rw [tmS_elt (by omega), tmS_elt hj] at h
  rcases aheadK_iff.1 h with h | ⟨_, h⟩
  · exact h
  · have : (j : Int) + 1 < (i : Int) + 1 := h
    omega
theorem tm_pos {z n h : Nat} (hn : n ≤ 4010) (hh : h < n) {s : Int} (hs : (4010 : Int) ≤ s) : PosA (tmS z n) (tmK h) s h := by
  refine ⟨by rw [tmS_len]; omega, fun j hj => ?_, fun j hj hj2 => ?_⟩
  · rw [tmS_elt (by omega)]
    exact aheadK_iff.2 (.inl (tm_ahead (z := z) hn hj hh))
  · rw [tmS_len] at hj2
    rw [tmS_elt hj2]
    rcases Nat.lt_or_ge h j with hlt | hge
    · have h1 := tm_ahead (z := z) hn hlt hj2
      exact aheadK_not.2 (.inl (by show 0 < cmpB (tmK j) (tmK h); rw [cmpB_swap]; omega))
    · obtain rfl : j = h := by omega
      exact aheadK_not.2 (.inr ⟨rfl, by show (j : Int) + 1 ≤ s; omega⟩)
theorem tm_get {z n h : Nat} (hn : n ≤ 4010) (hh : h < n) : getR (tmK h) 1099511627776 (tmS z n) = (tmE z h, true) := by
  rw [getR_pos (tm_pos hn hh (by omega)) (tm_srt z n hn), tmS_len, tmS_elt hh, if_pos ⟨hh, rfl⟩]
theorem tm_list {z n h : Nat} (hz : z ≤ 30) (hn : n ≤ 4010) (hh : h < n) : (listR (tmK h) [] (tmS z n)).length = n - h := by
  rw [listR_pos (k := n) (tm_pos hn hh (by unfold topQ; omega)) (tm_srt z n hn) (tm_all z n hz hn) (by omega) (by rw [tmS_len]; omega) (fun t _ _ => .inl rfl) (.inl (tmS_len z n).symm), List.length_take, List.length_drop, tmS_len]
  omega
end Go.Proofs.Ytkkclkknpjapcaa
/-! ### BkK -/
namespace Go.Proofs.Ytkkclkknpjapcaa
open Go.RowKit
set_option linter.unusedVariables false
set_option linter.unusedSimpArgs false

theorem cut_head (n : Nat) (e : EntR) (L L2 : List UInt8) (s : Nat) (h : L ++ uvar n ++ uvar ((eKey e).drop n).length ++ (eKey e).drop n = L2) (hs : eSeq e = (s : Int)) : bkHead n e L = L2 ++ uvar s := by
  rw [head_ref, ← h, hs, Int.toNat_natCast]
theorem tdiv4 {m k : Nat} (h : m = 4 * k) : Int.tdiv (m : Int) 4 = (k : Int) := by
  rw [show ((4 : Int)) = ((4 : Nat) : Int) from rfl, ← Int.ofNat_tdiv, h, Nat.mul_div_cancel_left _ (by omega)]
set_option maxHeartbeats 64000000 in
set_option maxRecDepth 200000 in
theorem block_fit (A : Option Addr) (n c : Nat) (es : List EntR) (w : World) (h : REnts w A n es) (hf : FitK es) :
    Calls Try.prog 43 #[.slice A n c] w fun r w' => ∃ v, r = .returned (.tuple #[v, .int .i64 0]) ∧ OB w' w.heap.size v (encK es) ∧ Below w.heap.size w w' := by
  have hl := h.1
  have hmax := h.2.1
  have h1 := hf.1
  have h400 := hf.2.1
  rw [hl] at h1 h400
  have hn0 : ((n : Int) == 0) = false := by rw [beq_eq_false_iff_ne]; omega
  have hn4 : decide ((400 : Int) < (n : Int)) = false := decide_eq_false (by omega)
  have HLen := hid (hf.len hl)
  have HMay : Hid (∀ j, j < n → mayE (elt noEnt es j) = true) := hid (fun j hj => hf.2.2.1 j (by omega))
  have HSr := hid (srtB_true hf.2.2.2)
  have H := hid h
  have HL := hid hl
  clear h hf hl
  go_enter Try.func43, Try.ntmps43
  go_wp2
  go_loopw [21] (fun i wr => ∃ k : Nat, k ≤ n ∧ i = .int .i64 k ∧ Below w.heap.size w wr) (fun i wr => n - (intOf i).toNat)
  case atStart => exact ⟨0, Nat.zero_le _, rfl, Below.refl _ _⟩
  case round =>
    obtain ⟨k, hk, rfl, hB⟩ := hrel
    by_cases hlt : k < n
    · obtain ⟨ad, rfl, hen⟩ := H.out.at_ hlt
      obtain ⟨Ak, nk, ck, Av, nv, cv, a0, a1, a2, a3, a4, a5, a6, a7, a8⟩ := hen.below hB
      have hm := HMay.out k hlt
      have hkl := a5.max
      have hvl := a6.max
      have e5 := a5.1
      have e6 := a6.1
      generalize elt noEnt es k = x at *
      have hmN : mayN nk (eSeq x) (eGone x) (eTil x) nv = true := by rw [← e5, ← e6]; exact hm
      have HmN := hid hmN
      clear hen a5 a6 hm hmN e5 e6
      go_wp2_with (go_at_call 41; (with_reducible refine (refmay_any Ak nk ck (eSeq x) (eGone x) (eTil x) Av nv cv _ hkl hvl).mono ?_); rintro r w1 ⟨rfl, hb1⟩; rw [HmN.out])
      go_roundw
      case rel => exact ⟨k + 1, by omega, by go_num, below_then (below_alloc' hB _) hb1⟩
      case measure => simp [intOf]; omega
    · obtain rfl : k = n := by omega
      go_wp2_with (go_at_call 31; (with_reducible refine (refordered_any A k c es _ (H.out.below hB)).mono ?_); rintro r w1 ⟨rfl, hb1⟩; rw [HSr.out]; have hB1 := below_then hB hb1)
      go_loopw [6, 7, 34] (fun v u i wr => ∃ j : Nat, j ≤ k ∧ i = .int .i64 j ∧ RfJ w wr v (accK es j) u (tlK es j)) (fun v u i wr => k - (intOf i).toNat)
      case atStart => exact ⟨0, Nat.zero_le _, rfl, OB.nil _ _, OB.nil _ _, (by intro q hq; cases hq), hB1⟩
      case round =>
        clear hB hB1 hb1
        obtain ⟨j, hj, rfl, hJ⟩ := hrel
        by_cases hjt : j < k
        · have hlen := HLen.out j hj
          have hsh := shN_le es j
          have hm := HMay.out j hjt
          have hacc : accK es (j + 1) = bkTail (elt noEnt es j) (bkHead (shN es j) (elt noEnt es j) (accK es j)) := rfl
          have hst : tlK es (j + 1) = if j % 8 = 0 then tlK es j ++ fixB (accK es j).length 4 else tlK es j := rfl
          have hsn : shN es j = if j % 8 = 0 then 0 else cmnB (eKey (elt noEnt es (j - 1))) (eKey (elt noEnt es j)) := rfl
          have htl4 := tl_len es j
          have hslen := stK_len es j
          have htln : (tlK es j).length + 10 ≤ 140737488355328 := by omega
          obtain ⟨ad, hA, hen⟩ := H.out.at_ hjt
          subst hA
          have hen1 : 0 < j → EnC w (ad.add ((j - 1) * 5)) (elt noEnt es (j - 1)) := fun h0 => by
            obtain ⟨ad1, ha, hx⟩ := H.out.at_ (show j - 1 < k by omega)
            obtain rfl := Option.some.inj ha
            exact hx
          clear htl4 hslen
          generalize elt noEnt es j = x at *
          generalize shN es j = NN at *
          obtain ⟨T2, hT2⟩ : ∃ T2, tlK es (j + 1) = T2 := ⟨_, rfl⟩
          rw [hT2] at hst
          have HT2 := hid hT2
          clear hT2
          generalize tlK es j = T at *
          generalize accK es j = L at *
          obtain ⟨m1, m2, m3, m4, m5⟩ := mayE_cases hm
          obtain ⟨m6, m7, m8⟩ := mayE_more hm
          obtain ⟨Ak, nk, ck, Av, nv, cv, a0, a1, a2, a3, a4, a5, a6, a7, a8⟩ := hen
          have a0 := below_cell hJ.2.2.2 a0
          have a1 := below_cell hJ.2.2.2 a1
          have a2 := below_cell hJ.2.2.2 a2
          have a3 := below_cell hJ.2.2.2 a3
          have a4 := below_cell hJ.2.2.2 a4
          obtain ⟨Ao, co, hve, _, _⟩ := hJ.1.open_
          subst hve
          have hnk := a5.1
          have hnv := a6.1
          have HK0 := hid a5
          have HV0 := hid a6
          obtain ⟨sq, hsq⟩ : ∃ sq : Nat, eSeq x = (sq : Int) := ⟨(eSeq x).toNat, by omega⟩
          obtain ⟨tl, htl⟩ : ∃ tl : Nat, eTil x = (tl : Int) := ⟨(eTil x).toNat, by omega⟩
          have hsq2 : sq < 18446744073709551616 := by omega
          have htl2 : tl < 18446744073709551616 := by omega
          have HSq := hid hsq
          have HTl := hid htl
          clear hsq htl m4 m5 m6 m7
          rw [hnk] at hsh m1 m2
          rw [hnv] at m3
          have hJ0 := hJ.below (below_alloc' (Below.refl _ _) (.cells #[.slice Ak nk ck, .int .i64 (eSeq x), .bool (eGone x), .int .i64 (eTil x), .slice Av nv cv] 42))
          have hbx : EnBx (wr.alloc (.cells #[.slice Ak nk ck, .int .i64 (eSeq x), .bool (eGone x), .int .i64 (eTil x), .slice Av nv cv] 42)) wr.heap.size Ak nk ck x Av nv cv := heap_alloc_new wr _
          have HAcc := hid hacc
          have HSt := hid hst
          have HEn1 := hid hen1
          have HSn := hid hsn
          have hq1 := wrap_u64_nat' NN (by omega)
          clear hacc hst hen1 hsn hm m8 a5 a6 hJ
          obtain ⟨M8, hM8⟩ : ∃ M8 : Bool, ((j : Int) % 8 == 0) = M8 := ⟨_, rfl⟩
          have HM8 : Hid (M8 = decide (j % 8 = 0)) := by
            unfold Hid
            rw [← hM8]
            by_cases h8 : j % 8 = 0
            · rw [decide_eq_true h8, beq_iff_eq]; omega
            · rw [decide_eq_false h8, beq_eq_false_iff_ne]; omega
          go_upto_if 41 with fail
          generalize wr.alloc (.cells #[.slice Ak nk ck, .int .i64 (eSeq x), .bool (eGone x), .int .i64 (eTil x), .slice Av nv cv] 42) = W0 at *
          generalize wr.heap.size = b at *
          clear a0 a1 a2 a3 a4
          go_cut [6, 7, 10] (fun v u s wx => s = .int .i64 (NN : Int) ∧ RfJ w wx v L u T2 ∧ EnBx wx b Ak nk ck x Av nv cv)
          case first =>
            have HW := hid (hJ0.2.2.2)
            cases M8
            · have h8 : ¬ j % 8 = 0 := of_decide_eq_false HM8.out.symm
              have HST : Hid (T = T2) := hid (by rw [HSt.out, if_neg h8])
              have hNe : NN = cmnB (eKey (elt noEnt es (j - 1))) (eKey x) := by rw [HSn.out, if_neg h8]
              obtain ⟨Bk, mk, dk, Bv, mv, dv, b0, _, _, _, _, b5, _, _, _⟩ := HEn1.out (by omega)
              have b0 := below_cell hJ0.2.2.2 b0
              obtain ⟨i, hi⟩ : ∃ i, j - 1 = i := ⟨_, rfl⟩
              have hkm : (j : Int) - 1 = (i : Int) := by omega
              have hws : IntKind.i64.wrap (i : Int) = (i : Int) := by rw [IntKind.wrap_i64]; omega
              have hik : i < k := by omega
              rw [hi] at b0 hNe b5
              generalize elt noEnt es i = y at *
              have ha0 := hbx.at_.1
              have hkx := HK0.out.1
              have hky := b5.1
              have hmx := HK0.out.max
              have hmy := b5.max
              have HI : Hid (∀ q, q ≤ nk → q ≤ mk → (∀ t, t < q → bAt (eKey x) t = bAt (eKey y) t) → (q = nk ∨ q = mk ∨ bAt (eKey x) q ≠ bAt (eKey y) q) → NN = q) := by
                intro q h1 h2 h3 h4
                rw [hNe]
                exact cmnB_is _ _ q (by omega) (by omega) (fun t ht => (h3 t ht).symm) (by rw [hkx, hky]; rcases h4 with h4 | h4 | h4 <;> first | exact .inr (.inl h4) | exact .inl h4 | exact .inr (.inr (fun e => h4 e.symm)))
              have HY0 := hid b5
              have HJ0 := hid hJ0
              have HBX := hid hbx
              clear h8 hi hNe b5 hkx hky hJ0 hbx
              go_wp2
              go_loopw [10] (fun s wx => ∃ q : Nat, q ≤ nk ∧ q ≤ mk ∧ s = .int .i64 q ∧ (∀ t, t < q → bAt (eKey x) t = bAt (eKey y) t) ∧ Below W0.heap.size W0 wx) (fun s wx => nk - (intOf s).toNat)
              case atStart => exact ⟨0, Nat.zero_le _, Nat.zero_le _, rfl, fun t ht => absurd ht (by omega), Below.refl _ _⟩
              case round =>
                obtain ⟨q, hqn, hqm, rfl, hall, hB⟩ := hrel
                have HA := hid hall
                clear hall
                have b0 := below_cell hB b0
                have ha0 := below_cell hB ha0
                have fin : Hid (∀ W, Below wr.heap.size wr W → RfJ w W (.slice Ao L.length co) L u7 T2 ∧ EnBx W b Ak nk ck x Av nv cv) := by
                  intro W hbW
                  rw [← HST.out]
                  exact ⟨HJ0.out.below (below_then hB hbW), blk_below (below_then hB hbW) HBX.out⟩
                rcases Nat.lt_or_ge q nk with h1 | h1
                · have hd1 : decide ((q : Int) < (nk : Int)) = true := decide_eq_true (by omega)
                  rcases Nat.lt_or_ge q mk with h2 | h2
                  · have hd2 : decide ((q : Int) < (mk : Int)) = true := decide_eq_true (by omega)
                    obtain ⟨ax, rfl, p0⟩ := HK0.out.at_ h1
                    obtain ⟨ay, rfl, q0⟩ := HY0.out.at_ h2
                    have p0 := below_cell (below_then HW.out hB) p0
                    have q0 := below_cell (below_then HW.out hB) q0
                    by_cases he : bAt (eKey x) q = bAt (eKey y) q
                    · have HA2 : Hid (∀ t, t < q + 1 → bAt (eKey x) t = bAt (eKey y) t) := by
                        intro t ht
                        rcases Nat.lt_succ_iff_lt_or_eq.1 ht with h3 | h3
                        · exact HA.out t h3
                        · rw [h3]; exact he
                      rw [he] at p0
                      clear he
                      go_wp2
                      go_quiet (fail)
                      go_wp2
                      go_roundw
                      case rel => exact ⟨q + 1, by omega, by omega, by go_num, HA2.out, below_drewN hB _⟩
                      case measure => simp [intOf]; omega
                    · have hd3 : ((bAt (eKey x) q : Int) == (bAt (eKey y) q : Int)) = false := by rw [beq_eq_false_iff_ne]; omega
                      have HR := hid (HI.out q hqn hqm HA.out (.inr (.inr he)))
                      clear he
                      go_wp2
                      go_quiet (fail)
                      go_wp2
                      go_meet
                      exact ⟨by rw [HR.out], fin.out _ (below_drewN (Below.refl _ _) _)⟩
                  · obtain rfl : mk = q := by omega
                    have hd2 : ¬ ((mk : Int) < (mk : Int)) := by omega
                    have HR := hid (HI.out mk hqn hqm HA.out (.inr (.inl rfl)))
                    go_wp2
                    go_quiet (fail)
                    go_wp2
                    go_meet
                    exact ⟨by rw [HR.out], fin.out _ (below_drewN (Below.refl _ _) _)⟩
                · obtain rfl : nk = q := by omega
                  have HR := hid (HI.out nk hqn hqm HA.out (.inl rfl))
                  go_wp2
                  go_quiet (fail)
                  go_wp2
                  go_meet
                  exact ⟨by rw [HR.out], fin.out _ (below_drewN (Below.refl _ _) _)⟩
            · have h8 : j % 8 = 0 := of_decide_eq_true HM8.out.symm
              have HST : Hid (T2 = T ++ fixB L.length 4) := hid (by rw [HSt.out, if_pos h8])
              have hN0 : NN = 0 := by rw [HSn.out, if_pos h8]
              have hLl := wrap_u64_nat' L.length (by omega)
              subst hN0
              clear h8
              have hoU := hJ0.2.1
              have hoS := hJ0.size
              go_wp2_with (go_at_call 47; (with_reducible refine (reffixed_any u7 w.heap.size T L.length 4 _ hoU hoS (by omega) (by omega) htln).mono ?_); rintro r w1 ⟨v1, rfl, hown1, hgr1, hat1⟩; have hbx1 := hbx.grown hgr1 hJ0.2.1; have hJ1 := hJ0.stepU hgr1 hown1 hat1.place)
              go_meet
              exact ⟨rfl, by rw [HST.out]; exact hJ1, hbx1⟩
          case rest =>
            obtain ⟨rfl, hJ1, hbx1⟩ := hcut
            clear hJ0 hbx hM8 HM8 M8
            generalize wc = W1 at *
            have hown := hJ1.1
            have hbW1 := hJ1.size
            have hJ1B := hJ1.2.2.2
            have huN := uvar_len NN
            obtain ⟨A4, c4, hkcut, hrb, hc4⟩ := cutB_lo (A := Ak) a7 hsh (NN : Int) rfl
            have hr4 := hrb _ _ HK0.out
            have HR4 := hid hr4
            have hd4 : ((eKey x).drop NN).length = nk - NN := hr4.1
            clear hrb hr4
            go_wp2
            apply wp_region_txtP (w.heap.size) 0 (u6.ownBlock) [none, none, none, none, none, none, some 9, none, none, none, none, none, none, none, none, none, none, none, none, none, none, none, none, none, none, none, none, none, none, none, none, none, none, none, none, none, none, none, none, none, none, none, none, none, none, none, none, none, none, none, none, none, none, none, none, none, none, none, none, none, none, none, none, none, none, none, none, none, none, none, none, none, none, none, none, none, none, none, none, none, none, none, some 0, some 1, some 2, some 3, some 4, some 5, some 6, some 7, some 8, none, none, none, none, none, none, none, none, none, none, none, none, none, none, none, none, none, none, none, none, none, none, none, none, none, none, none, none, none] [0, 3, 8, 9] [(0, 3), (3, 8), (8, 9)] [undef, _, _, undef, _, _, _, _, undef, undef] [_, [], [], _, [], [], [], [], _, _]
            case hm => rfl
            case hs => rfl
            case hst => kernel_rfl
            case hrow0 => exact fun k hk => (World.ownsRow.lt hown k hk).2
            case hput => exact OpsOK.cons (fun _ _ => rfl) (OpsOK.cons (fun _ _ => rfl) (OpsOK.cons (fun _ _ => rfl) (OpsOK.cons (fun _ _ => rfl) (OpsOK.cons (fun _ _ => rfl) (OpsOK.cons (fun _ _ => rfl) (OpsOK.cons (fun _ _ => rfl) (OpsOK.cons (fun _ _ => rfl) (OpsOK.cons (fun _ _ => rfl) (OpsOK.cons (fun _ _ => rfl) (OpsOK.nil))))))))))
            case hops =>
              refine OpsOK.cons ?_ ?_
              · intro u W K hB hz0 hz1 hd hK
                have hbW := Nat.le_trans hbW1 hB.size
                replace hK := hk_oldB hK rfl (by decide) (by rfl)
                clear hd
                have hw : u 9 = (u6) := (was_of hz1 9 (by kernel_rfl)).trans rfl
                clear hz1
                simp only [lay, Act.put, List.setIfInBounds_toArray, List.set_cons_zero, List.set_cons_succ, hw] at hK ⊢
                go_simp
                exact hK.out _ (OB.below hown (hz0 rfl)) (fun k hk => hk.symm)
              refine OpsOK.cons ?_ ?_
              · intro u W K hB hz0 hz1 hd hK
                have hbW := Nat.le_trans hbW1 hB.size
                replace hK := hk_valB hK (by decide) (by rfl)
                clear hd
                clear hz1
                simp only [lay, Act.put, List.setIfInBounds_toArray, List.set_cons_zero, List.set_cons_succ] at hK ⊢
                go_simp
                exact hK.out _ _ rfl (Below.refl _ _)
              refine OpsOK.cons ?_ ?_
              · intro u W K hB hz0 hz1 hd hK
                have hbW := Nat.le_trans hbW1 hB.size
                have h1 := fact_valB (dep_of hd 1 (by kernel_rfl) (by kernel_rfl)) (by decide)
                dsimp only [nth] at h1
                replace hK := hk_valB hK (by decide) (by rfl)
                clear hd
                clear hz1
                simp only [lay, Act.put, List.setIfInBounds_toArray, List.set_cons_zero, List.set_cons_succ, h1] at hK ⊢
                go_simp
                exact hK.out _ _ rfl (Below.refl _ _)
              refine OpsOK.cons ?_ ?_
              · intro u W K hB hz0 hz1 hd hK
                have hbW := Nat.le_trans hbW1 hB.size
                have h0 := fact_rowB (dep_of hd 0 (by kernel_rfl) (by kernel_rfl)) (by decide)
                dsimp only [nth] at h0
                have h2 := fact_valB (dep_of hd 2 (by kernel_rfl) (by kernel_rfl)) (by decide)
                dsimp only [nth] at h2
                replace hK := hk_parB hK (by decide) 0 (by rfl)
                clear hd
                clear hz1
                simp only [lay, Act.put, List.setIfInBounds_toArray, List.set_cons_zero, List.set_cons_succ, h2] at hK ⊢
                try simp only [hq1] at hK ⊢
                go_simp
                first
                  | (go_at_call 45; (with_reducible refine (refput_any _ w.heap.size L NN W h0 hbW (by omega) (by omega)).mono ?_); rintro e w1 ⟨v1, rfl, hown1, hgr1, hat1⟩; exact hK.out _ _ hown1 hgr1 hat1)
                  | (go_at_call 44; (with_reducible refine (refputbytes_any _ w.heap.size (L ++ uvar NN) A4 _ c4 ((eKey x).drop NN) W h3 hbW (HR4.out.below (hJ1B.grown hB hbW1 (OB.base_ hown))) (own_key h3 HR4.out) (by simp only [List.length_append]; omega)).mono ?_); rintro e w1 ⟨v1, rfl, hown1, hgr1, hat1⟩; exact hK.out _ _ hown1 hgr1 hat1)
              refine OpsOK.cons ?_ ?_
              · intro u W K hB hz0 hz1 hd hK
                have hbW := Nat.le_trans hbW1 hB.size
                replace hK := hk_valB hK (by decide) (by rfl)
                clear hd
                clear hz1
                simp only [lay, Act.put, List.setIfInBounds_toArray, List.set_cons_zero, List.set_cons_succ] at hK ⊢
                go_simp
                exact hK.out _ _ rfl (Below.refl _ _)
              refine OpsOK.cons ?_ ?_
              · intro u W K hB hz0 hz1 hd hK
                have hbW := Nat.le_trans hbW1 hB.size
                have h4 := fact_valB (dep_of hd 4 (by kernel_rfl) (by kernel_rfl)) (by decide)
                dsimp only [nth] at h4
                replace hK := hk_valB hK (by decide) (by rfl)
                clear hd
                clear hz1
                simp only [lay, Act.put, List.setIfInBounds_toArray, List.set_cons_zero, List.set_cons_succ, h4] at hK ⊢
                have y0 := (hbx1.grown hB hown).at_.1
                go_simp
                exact hK.out _ _ rfl (Below.refl _ _)
              refine OpsOK.cons ?_ ?_
              · intro u W K hB hz0 hz1 hd hK
                have hbW := Nat.le_trans hbW1 hB.size
                replace hK := hk_valB hK (by decide) (by rfl)
                clear hd
                clear hz1
                simp only [lay, Act.put, List.setIfInBounds_toArray, List.set_cons_zero, List.set_cons_succ] at hK ⊢
                go_simp
                exact hK.out _ _ rfl (Below.refl _ _)
              refine OpsOK.cons ?_ ?_
              · intro u W K hB hz0 hz1 hd hK
                have hbW := Nat.le_trans hbW1 hB.size
                have h5 := fact_valB (dep_of hd 5 (by kernel_rfl) (by kernel_rfl)) (by decide)
                dsimp only [nth] at h5
                have h6 := fact_valB (dep_of hd 6 (by kernel_rfl) (by kernel_rfl)) (by decide)
                dsimp only [nth] at h6
                replace hK := hk_valB hK (by decide) (by rfl)
                clear hd
                clear hz1
                simp only [lay, Act.put, List.setIfInBounds_toArray, List.set_cons_zero, List.set_cons_succ, h5, h6] at hK ⊢
                go_simp
                exact hK.out _ _ rfl (Below.refl _ _)
              refine OpsOK.cons ?_ ?_
              · intro u W K hB hz0 hz1 hd hK
                have hbW := Nat.le_trans hbW1 hB.size
                have h3 := fact_rowB (dep_of hd 3 (by kernel_rfl) (by kernel_rfl)) (by decide)
                dsimp only [nth] at h3
                have h7 := fact_valB (dep_of hd 7 (by kernel_rfl) (by kernel_rfl)) (by decide)
                dsimp only [nth] at h7
                replace hK := hk_parB hK (by decide) 3 (by rfl)
                clear hd
                clear hz1
                simp only [lay, Act.put, List.setIfInBounds_toArray, List.set_cons_zero, List.set_cons_succ, h7] at hK ⊢
                go_simp
                first
                  | (go_at_call 45; (with_reducible refine (refput_any _ w.heap.size L NN W h0 hbW (by omega) (by omega)).mono ?_); rintro e w1 ⟨v1, rfl, hown1, hgr1, hat1⟩; exact hK.out _ _ hown1 hgr1 hat1)
                  | (go_at_call 44; (with_reducible refine (refputbytes_any _ w.heap.size (L ++ uvar NN) A4 _ c4 ((eKey x).drop NN) W h3 hbW (HR4.out.below (hJ1B.grown hB hbW1 (OB.base_ hown))) (own_key h3 HR4.out) (by simp only [List.length_append]; omega)).mono ?_); rintro e w1 ⟨v1, rfl, hown1, hgr1, hat1⟩; exact hK.out _ _ hown1 hgr1 hat1)
              refine OpsOK.cons ?_ ?_
              · intro u W K hB hz0 hz1 hd hK
                have hbW := Nat.le_trans hbW1 hB.size
                have h8 := fact_rowB (dep_of hd 8 (by kernel_rfl) (by kernel_rfl)) (by decide)
                dsimp only [nth] at h8
                replace hK := hk_parB hK (by decide) 8 (by rfl)
                clear hd
                clear hz1
                simp only [lay, Act.put, List.setIfInBounds_toArray, List.set_cons_zero, List.set_cons_succ] at hK ⊢
                go_simp
                exact hK.out _ _ h8 (grown_refl _ _) (AtRow.refl _ _)
              exact OpsOK.nil
            intro u W hB hp hf
            have p9 := hp 9 (by decide) (by decide) (by decide)
            clear hp
            have h1 := fact_valB (hf 1 (by decide) (by decide)) (by decide)
            dsimp only [nth] at h1
            have h2 := fact_valB (hf 2 (by decide) (by decide)) (by decide)
            dsimp only [nth] at h2
            have h4 := fact_valB (hf 4 (by decide) (by decide)) (by decide)
            dsimp only [nth] at h4
            have h5 := fact_valB (hf 5 (by decide) (by decide)) (by decide)
            dsimp only [nth] at h5
            have h6 := fact_valB (hf 6 (by decide) (by decide)) (by decide)
            dsimp only [nth] at h6
            have h7 := fact_valB (hf 7 (by decide) (by decide)) (by decide)
            dsimp only [nth] at h7
            have h9 := fact_rowB (hf 9 (by decide) (by decide)) (by decide)
            dsimp only [nth] at h9
            clear hf
            simp only [lay, h1, h2, h4, h5, h6, h7]
            clear h1 h2 h4 h5 h6 h7
            have hJ2 := hJ1.step hB h9 p9
            have hbx2 := hbx1.grown hB hown
            generalize u 9 = v9 at *
            have huR := uvar_len ((eKey x).drop NN).length
            have hL2 : (L ++ uvar NN ++ uvar ((eKey x).drop NN).length ++ (eKey x).drop NN).length ≤ L.length + 532 := by simp only [List.length_append]; omega
            obtain ⟨L2, hL2e⟩ : ∃ L2, L ++ uvar NN ++ uvar ((eKey x).drop NN).length ++ (eKey x).drop NN = L2 := ⟨_, rfl⟩
            have HHead := hid (cut_head NN x L L2 sq hL2e HSq.out)
            rw [hL2e] at hJ2 hL2
            clear hL2e h9 p9 hJ1 hbx1 hB hown hbW1 hJ1B hkcut hd4
            generalize W = W2 at *
            have hown2 := hJ2.1
            have hbW2 := hJ2.size
            have huS := uvar_len sq
            have hq3 := wrap_u64_nat' sq hsq2
            have hq4 := wrap_u64_nat' tl htl2
            have y1 := hbx2.at_.2.1
            rw [HSq.out] at y1
            obtain ⟨G, hG⟩ : ∃ G, eGone x = G := ⟨_, rfl⟩
            have HG := hid hG
            clear hG
            cases G
            · go_wp2_with (go_at_call 45; (with_reducible refine (refput_any _ w.heap.size L2 sq _ hown2 hbW2 hsq2 (by omega)).mono ?_); rintro e w3 ⟨v3, rfl, hown3, hgr3, hat3⟩; have hJ3 := hJ2.step hgr3 hown3 hat3.place; have hbx3 := hbx2.grown hgr3 hown2; have hgx := hbx3.at_.2.2.1; rw [HG.out] at hgx; have hbW3 := hJ3.size; have hJ3B := hJ3.2.2.2; have hL3 : (L2 ++ uvar sq).length ≤ L.length + 542 := by simp only [List.length_append]; omega)
              have huT := uvar_len tl
              have huV := uvar_len (eVal x).length
              obtain ⟨L3, hL3e⟩ : ∃ L3, L2 ++ uvar sq = L3 := ⟨_, rfl⟩
              have HL3 := hid (HHead.out.trans hL3e)
              rw [hL3e] at hown3 hJ3 hL3
              clear hL3e hbx2 hJ2 hown2 hbW2 y1 hgx hgr3 hat3
              generalize w3 = W3 at *
              apply wp_region_txtP (w.heap.size) 0 (v3.ownBlock) [none, none, none, none, none, none, some 10, none, none, none, none, none, none, none, none, none, none, none, none, none, none, none, none, none, none, none, none, none, none, none, none, none, none, none, none, none, none, none, none, none, none, none, none, none, none, none, none, none, none, none, none, none, none, none, none, none, none, none, none, none, none, none, none, none, none, none, none, none, none, none, none, none, none, none, none, none, none, none, none, none, none, none, none, none, none, none, none, none, none, none, none, none, none, none, none, none, none, none, none, none, none, some 0, some 1, some 2, some 3, some 4, some 5, some 6, some 7, some 8, some 9, none, none, none, none, none, none, none, none, none] [0, 1, 2, 6, 9, 10] [(0, 2), (2, 6), (6, 9), (9, 10)] [undef, undef, undef, _, _, _, undef, _, _, undef, undef] [_, _, _, [], [], [], _, [], [], _, _]
              case hm => rfl
              case hs => rfl
              case hst => kernel_rfl
              case hrow0 => exact fun k hk => (World.ownsRow.lt hown3 k hk).2
              case hput => exact OpsOK.cons (fun _ _ => rfl) (OpsOK.cons (fun _ _ => rfl) (OpsOK.cons (fun _ _ => rfl) (OpsOK.cons (fun _ _ => rfl) (OpsOK.cons (fun _ _ => rfl) (OpsOK.cons (fun _ _ => rfl) (OpsOK.cons (fun _ _ => rfl) (OpsOK.cons (fun _ _ => rfl) (OpsOK.cons (fun _ _ => rfl) (OpsOK.cons (fun _ _ => rfl) (OpsOK.cons (fun _ _ => rfl) (OpsOK.nil)))))))))))
              case hops =>
                refine OpsOK.cons ?_ ?_
                · intro u W K hB hz0 hz1 hd hK
                  have hbW := Nat.le_trans hbW3 hB.size
                  replace hK := hk_oldB hK rfl (by decide) (by rfl)
                  clear hd
                  have hw : u 10 = (v3) := (was_of hz1 10 (by kernel_rfl)).trans rfl
                  clear hz1
                  simp only [lay, Act.put, List.setIfInBounds_toArray, List.set_cons_zero, List.set_cons_succ, hw] at hK ⊢
                  go_simp
                  exact hK.out _ (OB.below hown3 (hz0 rfl)) (fun k hk => hk.symm)
                refine OpsOK.cons ?_ ?_
                · intro u W K hB hz0 hz1 hd hK
                  have hbW := Nat.le_trans hbW3 hB.size
                  replace hK := hk_rowB hbW hK (by decide) (by decide) (by rfl)
                  clear hd
                  clear hz1
                  simp only [lay, Act.put, List.setIfInBounds_toArray, List.set_cons_zero, List.set_cons_succ] at hK ⊢
                  (go_simp; exact hK.out _ _ (OB.lit1' _ _ (Nat.le_refl _) 0 0 rfl) (below_alloc' (Below.refl _ _) _))
                refine OpsOK.cons ?_ ?_
                · intro u W K hB hz0 hz1 hd hK
                  have hbW := Nat.le_trans hbW3 hB.size
                  have h0 := fact_rowB (dep_of hd 0 (by kernel_rfl) (by kernel_rfl)) (by decide)
                  dsimp only [nth] at h0
                  have h1 := fact_rowB (dep_of hd 1 (by kernel_rfl) (by kernel_rfl)) (by decide)
                  dsimp only [nth] at h1
                  replace hK := hk_parB hK (by decide) 0 (by rfl)
                  clear hd
                  clear hz1
                  (obtain ⟨A7, c7, e7, hr7, _⟩ := h1.open_; refine stepB_append W W w.heap.size (.tmp 101) (.tmp 102) (by rfl) (by rfl) (u 0) L3 (by rfl) h0 A7 _ c7 [0] (by exact e7) hr7 (by simp only [List.length_singleton]; omega) (Below.refl _ _) hbW ?_; intro v' w' a b d f; exact hK.out _ _ (show OB _ _ _ (L3 ++ [0]) from a) d f)
                refine OpsOK.cons ?_ ?_
                · intro u W K hB hz0 hz1 hd hK
                  have hbW := Nat.le_trans hbW3 hB.size
                  replace hK := hk_valB hK (by decide) (by rfl)
                  clear hd
                  clear hz1
                  simp only [lay, Act.put, List.setIfInBounds_toArray, List.set_cons_zero, List.set_cons_succ] at hK ⊢
                  go_simp
                  exact hK.out _ _ rfl (Below.refl _ _)
                refine OpsOK.cons ?_ ?_
                · intro u W K hB hz0 hz1 hd hK
                  have hbW := Nat.le_trans hbW3 hB.size
                  have h3 := fact_valB (dep_of hd 3 (by kernel_rfl) (by kernel_rfl)) (by decide)
                  dsimp only [nth] at h3
                  replace hK := hk_valB hK (by decide) (by rfl)
                  clear hd
                  clear hz1
                  simp only [lay, Act.put, List.setIfInBounds_toArray, List.set_cons_zero, List.set_cons_succ, h3] at hK ⊢
                  have y3 := (hbx3.grown hB hown3).at_.2.2.2.1
                  go_simp
                  exact hK.out _ _ rfl (Below.refl _ _)
                refine OpsOK.cons ?_ ?_
                · intro u W K hB hz0 hz1 hd hK
                  have hbW := Nat.le_trans hbW3 hB.size
                  have h4 := fact_valB (dep_of hd 4 (by kernel_rfl) (by kernel_rfl)) (by decide)
                  dsimp only [nth] at h4
                  replace hK := hk_valB hK (by decide) (by rfl)
                  clear hd
                  clear hz1
                  simp only [lay, Act.put, List.setIfInBounds_toArray, List.set_cons_zero, List.set_cons_succ, h4] at hK ⊢
                  go_simp
                  exact hK.out _ _ rfl (Below.refl _ _)
                refine OpsOK.cons ?_ ?_
                · intro u W K hB hz0 hz1 hd hK
                  have hbW := Nat.le_trans hbW3 hB.size
                  have h2 := fact_rowB (dep_of hd 2 (by kernel_rfl) (by kernel_rfl)) (by decide)
                  dsimp only [nth] at h2
                  have h5 := fact_valB (dep_of hd 5 (by kernel_rfl) (by kernel_rfl)) (by decide)
                  dsimp only [nth] at h5
                  replace hK := hk_parB hK (by decide) 2 (by rfl)
                  clear hd
                  clear hz1
                  simp only [lay, Act.put, List.setIfInBounds_toArray, List.set_cons_zero, List.set_cons_succ, h5] at hK ⊢
                  try simp only [HTl.out, hq4] at hK ⊢
                  go_simp
                  first
                    | (go_at_call 45; (with_reducible refine (refput_any _ w.heap.size (L3 ++ [0]) tl W h2 hbW (by omega) (by simp only [List.length_append, List.length_singleton]; omega)).mono ?_); rintro e w1 ⟨v1, rfl, hown1, hgr1, hat1⟩; exact hK.out _ _ hown1 hgr1 hat1)
                    | (go_at_call 44; (with_reducible refine (refputbytes_any _ w.heap.size (L3 ++ [0] ++ uvar tl) Av _ cv (eVal x) W h6 hbW (HV0.out.below (hJ3B.grown hB hbW3 (OB.base_ hown3))) (own_key h6 HV0.out) (by simp only [List.length_append, List.length_singleton]; omega)).mono ?_); rintro e w1 ⟨v1, rfl, hown1, hgr1, hat1⟩; exact hK.out _ _ hown1 hgr1 hat1)
                refine OpsOK.cons ?_ ?_
                · intro u W K hB hz0 hz1 hd hK
                  have hbW := Nat.le_trans hbW3 hB.size
                  replace hK := hk_valB hK (by decide) (by rfl)
                  clear hd
                  clear hz1
                  simp only [lay, Act.put, List.setIfInBounds_toArray, List.set_cons_zero, List.set_cons_succ] at hK ⊢
                  go_simp
                  exact hK.out _ _ rfl (Below.refl _ _)
                refine OpsOK.cons ?_ ?_
                · intro u W K hB hz0 hz1 hd hK
                  have hbW := Nat.le_trans hbW3 hB.size
                  have h7 := fact_valB (dep_of hd 7 (by kernel_rfl) (by kernel_rfl)) (by decide)
                  dsimp only [nth] at h7
                  replace hK := hk_valB hK (by decide) (by rfl)
                  clear hd
                  clear hz1
                  simp only [lay, Act.put, List.setIfInBounds_toArray, List.set_cons_zero, List.set_cons_succ, h7] at hK ⊢
                  have y4 := (hbx3.grown hB hown3).at_.2.2.2.2
                  go_simp
                  exact hK.out _ _ rfl (Below.refl _ _)
                refine OpsOK.cons ?_ ?_
                · intro u W K hB hz0 hz1 hd hK
                  have hbW := Nat.le_trans hbW3 hB.size
                  have h6 := fact_rowB (dep_of hd 6 (by kernel_rfl) (by kernel_rfl)) (by decide)
                  dsimp only [nth] at h6
                  have h8 := fact_valB (dep_of hd 8 (by kernel_rfl) (by kernel_rfl)) (by decide)
                  dsimp only [nth] at h8
                  replace hK := hk_parB hK (by decide) 6 (by rfl)
                  clear hd
                  clear hz1
                  simp only [lay, Act.put, List.setIfInBounds_toArray, List.set_cons_zero, List.set_cons_succ, h8] at hK ⊢
                  go_simp
                  first
                    | (go_at_call 45; (with_reducible refine (refput_any _ w.heap.size (L3 ++ [0]) tl W h2 hbW (by omega) (by simp only [List.length_append, List.length_singleton]; omega)).mono ?_); rintro e w1 ⟨v1, rfl, hown1, hgr1, hat1⟩; exact hK.out _ _ hown1 hgr1 hat1)
                    | (go_at_call 44; (with_reducible refine (refputbytes_any _ w.heap.size (L3 ++ [0] ++ uvar tl) Av _ cv (eVal x) W h6 hbW (HV0.out.below (hJ3B.grown hB hbW3 (OB.base_ hown3))) (own_key h6 HV0.out) (by simp only [List.length_append, List.length_singleton]; omega)).mono ?_); rintro e w1 ⟨v1, rfl, hown1, hgr1, hat1⟩; exact hK.out _ _ hown1 hgr1 hat1)
                refine OpsOK.cons ?_ ?_
                · intro u W K hB hz0 hz1 hd hK
                  have hbW := Nat.le_trans hbW3 hB.size
                  have h9 := fact_rowB (dep_of hd 9 (by kernel_rfl) (by kernel_rfl)) (by decide)
                  dsimp only [nth] at h9
                  replace hK := hk_parB hK (by decide) 9 (by rfl)
                  clear hd
                  clear hz1
                  simp only [lay, Act.put, List.setIfInBounds_toArray, List.set_cons_zero, List.set_cons_succ] at hK ⊢
                  go_simp
                  exact hK.out _ _ h9 (grown_refl _ _) (AtRow.refl _ _)
                exact OpsOK.nil
              intro u W hB hp hf
              have p1 := hp 1 (by decide) (by decide) (by decide)
              have p10 := hp 10 (by decide) (by decide) (by decide)
              clear hp
              have h1 := fact_rowB (hf 1 (by decide) (by decide)) (by decide)
              dsimp only [nth] at h1
              have h3 := fact_valB (hf 3 (by decide) (by decide)) (by decide)
              dsimp only [nth] at h3
              have h4 := fact_valB (hf 4 (by decide) (by decide)) (by decide)
              dsimp only [nth] at h4
              have h5 := fact_valB (hf 5 (by decide) (by decide)) (by decide)
              dsimp only [nth] at h5
              have h7 := fact_valB (hf 7 (by decide) (by decide)) (by decide)
              dsimp only [nth] at h7
              have h8 := fact_valB (hf 8 (by decide) (by decide)) (by decide)
              dsimp only [nth] at h8
              have h10 := fact_rowB (hf 10 (by decide) (by decide)) (by decide)
              dsimp only [nth] at h10
              clear hf
              simp only [lay, h3, h4, h5, h7, h8]
              clear h3 h4 h5 h7 h8
              have hJ4 := hJ3.step hB h10 p10
              go_wp2
              go_roundw
              case rel => exact ⟨j + 1, by omega, by go_num, by rw [HAcc.out, HT2.out, HL3.out, bkTail_false HG.out, HTl.out, Int.toNat_natCast]; exact hJ4⟩
              case measure => simp [intOf]; omega
            · go_wp2_with (first | (go_at_call 45; (with_reducible refine (refput_any _ w.heap.size L2 sq _ hown2 hbW2 hsq2 (by omega)).mono ?_); rintro e w3 ⟨v3, rfl, hown3, hgr3, hat3⟩; have hJ3 := hJ2.step hgr3 hown3 hat3.place; have hbx3 := hbx2.grown hgr3 hown2; have hgx := hbx3.at_.2.2.1; rw [HG.out] at hgx; have hbW3 := hJ3.size; have hJ3B := hJ3.2.2.2; have hL3 : (L2 ++ uvar sq).length ≤ L.length + 542 := by simp only [List.length_append]; omega) | (at_builtin; refine wpB_append1 w _ w.heap.size rfl (.tmp 98) (.tmp 99) rfl v3 (L2 ++ uvar sq) rfl hown3 1 1 rfl 1 rfl (by omega) hJ3B hbW3 ?_; intro v4 w4 hown4 hB4 hg4 hat4))
              have hJ4 := hJ3.step hg4 hown4 hat4.place
              rw [← HHead.out] at hJ4
              go_roundw
              case rel => exact ⟨j + 1, by omega, by go_num, by rw [HAcc.out, HT2.out, bkTail_true HG.out]; exact hJ4⟩
              case measure => simp [intOf]; omega
        · obtain rfl : j = k := by omega
          have hlen := HLen.out j (Nat.le_refl _)
          have htl4 := tl_len es j
          have hslen := stK_len es j
          have HX : Hid (encK es = (accK es j ++ tlK es j) ++ fixB ((tlK es j).length / 4) 4) := hid (by have := enc_tl es; rw [HL.out] at this; exact this)
          generalize (stK es j).length = m at *
          have hm60 : m ≤ 60 := by omega
          have htd := tdiv4 htl4
          have htd2 : (tlK es j).length / 4 = m := by omega
          rw [htd2] at HX
          have htln : (tlK es j).length ≤ 300 := by omega
          have HL4 := hid htl4
          obtain ⟨hO, hU, hap, hBw⟩ := hJ
          have hbs := hBw.size
          obtain ⟨At, ct, hve, hrt, hct⟩ := hU.open_
          subst hve
          have hqm := wrap_u64_nat' m (by omega)
          clear htl4 hslen htd2
          generalize tlK es j = T at *
          generalize accK es j = L at *
          go_wp2_with (first
            | (at_builtin; refine wpB_append w _ w.heap.size rfl (.tmp 112) (.tmp 113) rfl u6 L rfl hO At T.length ct T rfl hrt (by omega) hBw hbs ?_; intro v2 w2 hown2 hB2 hg2 hat2; have hbs2 := hB2.size; have hsz : (L ++ T).length + 10 ≤ 140737488355328 := by simp only [List.length_append]; omega)
            | (go_at_call 47; (with_reducible refine (reffixed_any _ w.heap.size (L ++ T) m 4 _ hown2 hbs2 (by omega) (by omega) hsz).mono ?_); rintro r w3 ⟨v3, rfl, hown3, hgr3, hat3⟩))
          go_ret2
          exact ⟨_, rfl, by rw [HX.out]; exact hown3, hB2.grown hgr3 hbs2 (OB.base_ hown2)⟩
end Go.Proofs.Ytkkclkknpjapcaa
/-! ### BkU -/
namespace Go.Proofs.Ytkkclkknpjapcaa
open Go.RowKit
set_option linter.unusedVariables false
set_option linter.unusedSimpArgs false

theorem block_any (A : Option Addr) (n c : Nat) (es : List EntR) (w : World) (h : REnts w A n es) :
    Calls Try.prog 43 #[.slice A n c] w fun r w' => EncC w w' es r := by
  have hl := h.1
  rcases bk_cases es with hc | ⟨h1, h2⟩ | ⟨h1, h2, h3⟩ | hc
  · refine (block_none A n c es w h (by omega)).mono ?_
    rintro r w' ⟨rfl, hb⟩
    exact ⟨13, _, rfl, .inl ⟨hc, rfl⟩, OB.nil _ _, hb⟩
  · refine (block_bad A n c es w h (by omega) 1 (.inl ⟨h2, rfl⟩)).mono ?_
    rintro r w' ⟨rfl, hb⟩
    exact ⟨1, _, rfl, .inr (.inl ⟨h1, h2, rfl⟩), OB.nil _ _, hb⟩
  · refine (block_bad A n c es w h (by omega) 11 (.inr ⟨h2, h3, rfl⟩)).mono ?_
    rintro r w' ⟨rfl, hb⟩
    exact ⟨11, _, rfl, .inr (.inr (.inl ⟨h1, h2, h3, rfl⟩)), OB.nil _ _, hb⟩
  · refine (block_fit A n c es w h hc).mono ?_
    rintro r w' ⟨v, rfl, ho, hb⟩
    exact ⟨0, v, rfl, .inr (.inr (.inr ⟨hc, rfl⟩)), ho, hb⟩
theorem made_bys (k : Nat) : (madeCells #[Value.int .u8 0] k).toList = bys (List.replicate k 0) := by
  apply List.ext_getElem
  · simp [madeCells, bys]
  · intro i h1 h2
    simp [madeCells, bys, Nat.mod_one]
theorem OB.made (w : World) (base k : Nat) (hb : base ≤ w.heap.size) (hk : k ≤ 3000) : OB (w.alloc (.cells (madeCells #[.int .u8 0] k) 5)) base (.slice (some ⟨w.heap.size, 0, none⟩) k k) (List.replicate k 0) := by
  show World.ownsRow _ _ _ _ _ _ _
  rw [List.length_replicate]
  refine ⟨by simp [bys], .inr ⟨w.heap.size, k, _, rfl, hb, heap_alloc_new w _, Nat.le_refl _, by simp only [maxLen]; omega, by simp [madeCells], ?_⟩⟩
  rw [made_bys, List.take_of_length_le (by simp [bys])]
theorem rb_lit2' (w : World) (x y : UInt8) (z1 z2 : Int) (h1 : z1 = x.toNat) (h2 : z2 = y.toNat) (T : TypeId) (fr : Nat × Nat) (g : Nat) (hg : g = w.heap.size) : RB (w.alloc (.cells #[.int .u8 z1, .int .u8 z2] T fr)) (some ⟨g, 0, none⟩) 2 [x, y] := by
  subst h1 h2 hg
  exact RB.lit w [x, y] _ _ _ rfl (by simp)
theorem byteM0 (j : Nat) : (j : Int) % 256 = ((UInt8.ofNat j).toNat : Int) := by rw [UInt8.toNat_ofNat']; omega
theorem byteM0' (j : Nat) : IntKind.u8.wrap (j : Int) = ((UInt8.ofNat j).toNat : Int) := by rw [IntKind.wrap_u8]; exact byteM0 j
theorem byteM1 (j : Nat) : ((j : Int) / 256) % 256 = ((UInt8.ofNat (j / 256)).toNat : Int) := by rw [UInt8.toNat_ofNat']; omega
theorem byteM1' (j : Nat) (h : j < 65536) : (j : Int) / 256 = ((UInt8.ofNat (j / 256)).toNat : Int) := by rw [UInt8.toNat_ofNat']; omega
theorem wpB_mk2 {ops : Array Oper} {rest : List Oper} {o : Oper} {a : Act} {Q : Exit → Act → World → Prop} (wr : World) (z : Nat) (hz : z ≤ 3000) (hgd : o.guard = none) (s x : Operand)
    (ho : o.op = .call { callee := .builtin .append, args := #[s, x], argTypes := #[25, 25] })
    (z1 z2 : Int) (y1 y2 : UInt8) (h1 : z1 = y1.toNat) (h2 : z2 = y2.toNat) (hs : a.eval s = .slice (some ⟨wr.heap.size, 0, none⟩) z z) (g c : Nat) (hg : g = wr.heap.size + 1) (hx : a.eval x = .slice (some ⟨g, 0, none⟩) 2 c)
    (h : ∀ A1 c1 w', OB w' wr.heap.size (.slice A1 (z + 2) c1) (List.replicate z 0 ++ [y1, y2]) → Below wr.heap.size wr w' → wpList Try.prog ops Q rest (a.put o.dst (.slice A1 (z + 2) c1)) w') :
    wpList Try.prog ops Q (o :: rest) a ((wr.alloc (.cells (madeCells #[.int .u8 0] z) 5)).alloc (.cells #[.int .u8 z1, .int .u8 z2] 5)) := by
  have hown := (OB.made wr wr.heap.size z (Nat.le_refl _) hz).alloc (.cells #[.int .u8 z1, .int .u8 z2] 5)
  have hr := rb_lit2' (wr.alloc (.cells (madeCells #[.int .u8 0] z) 5)) y1 y2 z1 z2 h1 h2 5 (0, 0) g (by rw [hg]; simp)
  have hB := below_alloc' (below_alloc' (Below.refl wr.heap.size wr) (.cells (madeCells #[.int .u8 0] z) 5)) (.cells #[.int .u8 z1, .int .u8 z2] 5)
  refine wpB_append wr _ wr.heap.size hgd s x ho _ _ hs hown _ 2 c [y1, y2] hx hr (by simp; omega) hB hB.size ?_
  intro v' w' o' b' _ _
  obtain ⟨A1, c1, rfl, _, _⟩ := o'.openN (z + 2) (by simp)
  exact h A1 c1 w' o' b'
theorem mny_step {wr w1 w' : World} {base z n k : Nat} {x : UInt8} {v v' : Value} {V : List (List Value)} {A1 : Option Addr} {c1 : Nat} {zx : Int} (hv : OV wr base 42 5 v V) (hr : RelV noEnt (PEo wr base) V (mnyS z n x k)) (hb : base ≤ wr.heap.size) (hb1 : Below wr.heap.size wr w1)
    (ho1 : OB w1 wr.heap.size (.slice A1 (z + 2) c1) (List.replicate z 0 ++ [UInt8.ofNat (k / 256), UInt8.ofNat k])) (hx : zx = x.toNat) (hg : (w1.alloc (.cells #[.int .u8 zx] 5)).grownBy w' v.ownBlock)
    (hv' : OV w' base 42 5 v' (V ++ [[.slice A1 (z + 2) c1, .int .i64 ((n : Int) - (k : Int)), .bool false, .int .i64 0, .slice (some ⟨w1.heap.size, 0, none⟩) 1 1]])) : ROw w' base v' (mnyS z n x (k + 1)) := by
  rw [mnyS_succ]
  exact ⟨_, hv', row_step (e := mnyE z n x k) (below_alloc' hb1 _) hv hr hb (ho1.alloc _) (OB.lit1' w1 wr.heap.size hb1.size x zx hx) hg⟩
theorem bk_mod (z : Int) (m : Nat) (hm : 1 ≤ m ∧ m ≤ 3000) (hz : -9223372036854775808 ≤ z ∧ z ≤ 9223372036854775807) : ∃ p : Nat, p < m ∧ (wrap64 (z.tmod m + m)).tmod m = (p : Int) := back_mod z m (by omega) hz
theorem enc_size4 {es : List EntR} (h : FitK es) : (encK es).length ≤ 1000000000 := by
  have hl := accK_len h.2.2.1 es.length (Nat.le_refl _)
  have hs := stK_len es es.length
  have h1 := h.2.1
  unfold encK
  rw [List.length_append, fix4_len, fixK_len, hs]
  have h2 : es.length * 2700 ≤ 1080000 := Nat.mul_le_mul_right 2700 h1
  omega
theorem decode_nil (w : World) : Calls Try.prog 77 #[.slice none 0 0] w fun r w' => ∃ v, ∃ e : Int, e ≠ 0 ∧ r = .returned (.tuple #[v, .int .i64 e]) ∧ Below w.heap.size w w' := by
  refine (decode_any none 0 0 [] w (OB.nil w 0).rb.1 (Nat.le_refl _) (by omega)).mono ?_
  intro r w' hd
  unfold DecC at hd
  rw [decF_short (by decide)] at hd
  obtain ⟨⟨e, he, rfl⟩, hb⟩ := hd
  exact ⟨_, e, he, rfl, hb⟩
end Go.Proofs.Ytkkclkknpjapcaa
/-! ### TbT5 -/
namespace Go.Proofs.Ytkkclkknpjapcaa
open Go.RowKit
set_option linter.unusedVariables false
set_option linter.unusedSimpArgs false

theorem tm_step {wr w' : World} {z k : Nat} {v v' : Value} {V : List (List Value)} {z1 z2 : Int} {base : Nat} (hv : OV wr base 42 5 v V) (hr : RelV noEnt (PEo wr base) V (tmS z k)) (hb : base ≤ wr.heap.size) (hz : z ≤ 3000)
    (h1 : z1 = (UInt8.ofNat (k / 256)).toNat) (h2 : z2 = (UInt8.ofNat k).toNat) (hg : ((wr.alloc (.cells #[.int .u8 z1, .int .u8 z2] 5)).alloc (.cells (madeCells #[.int .u8 0] z) 5)).grownBy w' v.ownBlock)
    (hv' : OV w' base 42 5 v' (V ++ [[.slice (some ⟨wr.heap.size, 0, none⟩) 2 2, .int .i64 ((k : Int) + 1), .bool false, .int .i64 0, .slice (some ⟨wr.heap.size + 1, 0, none⟩) z z]])) : ROw w' base v' (tmS z (k + 1)) := by
  rw [tmS_succ]
  have e1 : (wr.alloc (.cells #[.int .u8 z1, .int .u8 z2] 5)).heap.size = wr.heap.size + 1 := by simp
  have hO1 : OB (wr.alloc (.cells #[.int .u8 z1, .int .u8 z2] 5)) wr.heap.size (.slice (some ⟨wr.heap.size, 0, none⟩) 2 2) (tmK k) := by
    subst h1 h2
    exact ⟨by simp [bys, tmK], .inr ⟨wr.heap.size, 2, _, rfl, Nat.le_refl _, heap_alloc_new wr _, Nat.le_refl _, by decide, rfl, by simp [bys, tmK]⟩⟩
  have hO2 := OB.made (wr.alloc (.cells #[.int .u8 z1, .int .u8 z2] 5)) wr.heap.size z (by omega) hz
  rw [e1] at hO2
  exact ⟨_, hv', row_step (e := tmE z k) (below_alloc' (below_alloc' (Below.refl _ _) _) _) hv hr hb (hO1.alloc _) hO2 hg⟩
theorem tb_many {L : List EntR} {E : Nat} (h : TbC L E) (hl : L.length = 0 ∨ 4000 < L.length) : E = 13 := by
  rcases h with ⟨_, h⟩ | ⟨h, _⟩ | ⟨h, _⟩ | ⟨h, _⟩ | ⟨h, _⟩
  · exact h
  all_goals omega
set_option maxHeartbeats 64000000 in
set_option maxRecDepth 100000 in
theorem TableMany_walk (zn zz : Int) (w : World) (hn0 : (Lit.int .i64 zn).wf = true) (hz0 : (Lit.int .i64 zz).wf = true) :
    Calls Try.prog 6 #[.int .i64 zn, .int .i64 zz] w fun e w' => e = .returned (.bool true) ∧ Below w.heap.size w w' := by
  obtain ⟨n, hn1, hn2⟩ := back_mod zn 4010 (by omega) (wf_i64 hn0)
  obtain ⟨z, hz1, hz2⟩ := back_mod zz 30 (by omega) (wf_i64 hz0)
  have hn3 : (wrap64 (zn.tmod 4010 + 4010)).tmod 4010 = (n : Int) := hn2
  have hz3 : (wrap64 (zz.tmod 30 + 30)).tmod 30 = (z : Int) := hz2
  have hmk : ∀ (u : World), (Instr.makeSlice 25 (.int .i64 (z : Int)) (.int .i64 (z : Int))).run Try.prog u = .ok (.slice (some ⟨u.heap.size, 0, none⟩) z z) (u.alloc (.cells (madeCells #[.int .u8 0] z) 5)) := fun u => by
    obtain ⟨i, hi, hz0, hz1, hz2⟩ := info_parts u8info
    have h := run_make (P := Try.prog) u 25 5 i (.int .u8 0) Try.underlying25 hi hz0 .i64 .i64 (z : Int) (z : Int) (by omega) (Int.le_refl _) (by rw [hz2]; omega) (by omega)
    simpa [hz1, Value.cells] using h
  have HJ0 : Hid (ROw w w.heap.size (.slice none 0 0) (tmS z 0)) := hid (ROw.nil _ _)
  clear hn2 hz2 hn0 hz0
  go_enter Try.func6, Try.ntmps6
  go_wp2
  go_loopw [5, 23] (fun v i wr => ∃ k : Nat, k ≤ n ∧ i = .int .i64 k ∧ ROw wr w.heap.size v (tmS z k) ∧ Below w.heap.size w wr) (fun v i wr => n - (intOf i).toNat)
  case atStart => exact ⟨0, Nat.zero_le _, rfl, HJ0.out, Below.refl _ _⟩
  case round =>
    clear HJ0
    obtain ⟨k, hk, rfl, ⟨V, hv, hr⟩, hB⟩ := hrel
    by_cases hlt : k < n
    · have hl : V.length = k := by rw [hr.1, tmS_len]
      have HV := hid hv
      have HRl := hid hr
      clear hv hr
      go_wp2_with (at_builtin; go_loud (refine wpV_append1 22 42 _ 5 72 Try.underlying22 eninfo rfl (by omega) w ((wr.alloc (.cells #[.int .u8 _, .int .u8 _] 5)).alloc (.cells (madeCells #[.int .u8 0] z) 5)) w.heap.size rfl (.tmp 26) (.tmp 38) rfl u5 V rfl (HV.out.below (below_alloc' (below_alloc' (Below.refl _ _) _) _)) #[.slice (some ⟨wr.heap.size, 0, none⟩) 2 2, .int .i64 ((k : Int) + 1), .bool false, .int .i64 0, .slice (some ⟨wr.heap.size + 1, 0, none⟩) z z] rfl (ones5 rfl rfl rfl rfl rfl) 1 _ (by first | rfl | simp) rfl (by simp only [maxLen]; omega) (by omega) (below_alloc' (below_alloc' hB _) _) (below_alloc' (below_alloc' hB _) _).size ?_); intro v' w' hown' hB' hg' _)
      have HN := hid (tm_step HV.out HRl.out hB.size (by omega) (by first | exact byteM1' k (by omega) | exact byteM1 k) (by first | exact byteM0 k | exact byteM0' k) hg' hown')
      go_roundw
      case rel => exact ⟨k + 1, by omega, by go_num, HN.out, hB'⟩
      case measure => simp [intOf]; omega
    · obtain rfl : k = n := by omega
      obtain ⟨A, c, hve, hc, hrs⟩ := ROw.len (⟨V, hv, hr⟩ : ROw wr w.heap.size u5 (tmS z k)) (by rw [tmS_len]; omega)
      rw [tmS_len] at hve hrs hc
      subst hve
      have HRs := hid hrs
      clear hv hr hrs hmk
      by_cases hbad : k = 0 ∨ 4000 < k
      · have HNo : Hid (∀ E, TbC (tmS z k) E → E = 13) := hid (fun E hE => tb_many hE (by rw [tmS_len]; exact hbad))
        rcases hbad with hb0 | hb0
        · subst hb0
          go_wp2_with (first
            | (go_at_call 12; (with_reducible refine (tbuild_any A 0 c (tmS z 0) _ HRs.out hc).mono ?_); rintro r w2 ⟨E2, v2, rfl, hE2, ho2, hb2⟩; obtain rfl := HNo.out E2 hE2; obtain ⟨A2, c2, rfl, _, _⟩ := (show OB w2 wr.heap.size v2 [] from ho2).openN 0 rfl; have HB2 := hid (below_then hB hb2); clear hE2 ho2)
            | (go_at_call 11; (with_reducible refine (tawake_any _).mono ?_); rintro e w6 ⟨rfl, hb6⟩; have HB6 := hid (below_then HB2.out hb6)))
          go_ret
          exact ⟨by first | rfl | simp, HB6.out⟩
        · have hkz : ((k : Int) == 0) = false := by rw [beq_eq_false_iff_ne]; omega
          have hkz2 : decide (4000 < (k : Int)) = true := decide_eq_true (by omega)
          go_wp2_with (first
            | (go_at_call 12; (with_reducible refine (tbuild_any A k c (tmS z k) _ HRs.out hc).mono ?_); rintro r w2 ⟨E2, v2, rfl, hE2, ho2, hb2⟩; obtain rfl := HNo.out E2 hE2; obtain ⟨A2, c2, rfl, _, _⟩ := (show OB w2 wr.heap.size v2 [] from ho2).openN 0 rfl; have HB2 := hid (below_then hB hb2); clear hE2 ho2)
            | (go_at_call 11; (with_reducible refine (tawake_any _).mono ?_); rintro e w6 ⟨rfl, hb6⟩; have HB6 := hid (below_then HB2.out hb6)))
          go_ret
          exact ⟨by first | rfl | simp, HB6.out⟩
      · have hFit : FitT (tmS z k) := tm_fit (by omega) (by omega) (by omega)
        have HFit := hid hFit
        have HFs : Hid (Srt (tmS z k) ∧ AllM (tmS z k)) := hid ⟨hFit.2.2.1, hFit.2.1⟩
        obtain ⟨h, hh⟩ : ∃ h, k / 2 = h := ⟨_, rfl⟩
        have hhk : h < k := by omega
        have hq : (k : Int).tdiv 2 = (h : Int) := by rw [Int.tdiv_eq_ediv_of_nonneg (by omega)]; omega
        have hq2 : (k : Int) / 2 = (h : Int) := by omega
        have HGx : Hid ((getR (tmK h) 1099511627776 (tmS z k)).1 = tmE z h ∧ (getR (tmK h) 1099511627776 (tmS z k)).2 = true) := hid (by rw [tm_get (by omega) hhk]; exact ⟨rfl, rfl⟩)
        have HLx : Hid ((listR (tmK h) [] (tmS z k)).length = k - h) := hid (tm_list (by omega) (by omega) hhk)
        have HEl : Hid (elt noEnt (tmS z k) h = tmE z h) := hid (tmS_elt hhk)
        have HFh : Hid (∀ x ∈ tmS z k, hasB (filtB (tmS z k)) (eKey x) = true) := hid (fun x hx => filt_has hx)
        have HLn : Hid ((tmS z k).length = k) := hid (tmS_len z k)
        have hkz : ((k : Int) == 0) = false := by rw [beq_eq_false_iff_ne]; omega
        have hkz2 : decide (4000 < (k : Int)) = false := decide_eq_false (by omega)
        have hk1 : k ≤ 1000000 := by omega
        have hki : (h : Int) < (k : Int) := by omega
        obtain ⟨es, hes⟩ : ∃ es, tmS z k = es := ⟨_, rfl⟩
        obtain ⟨x, hx⟩ : ∃ x, tmE z h = x := ⟨_, rfl⟩
        have HKx : Hid (eKey x = tmK h) := hid (by rw [← hx]; rfl)
        rw [hes] at HRs HFit HFs HGx HLx HEl HFh HLn
        rw [hx] at HGx HEl
        obtain ⟨KH, hKH⟩ : ∃ K, tmK h = K := ⟨_, rfl⟩
        rw [hKH] at HGx HLx HKx
        clear hFit hes hx hKH hbad hn1 hz1 hn3 hz3 hlt
        go_upto_region 14 with (first
          | (go_at_call 12; (with_reducible refine (build_tab A k c es _ HRs.out hc HFit.out).mono ?_); rintro r w2 ⟨A2, n2, c2, rfl, hn2, ho2, hr2, hc2, hb2⟩; have HR2 := hid hr2; have HB2 := hid (below_then hB hb2); have HC2 := hid hb2; clear ho2 hr2 hn2 hb2)
          | (go_at_call 15; (with_reducible refine (open_tab A2 n2 c2 es _ HR2.out hc2 HFit.out).mono ?_); rintro r w3 ⟨bt, rfl, ht3, hb3⟩; have HT3 := hid ht3; have HB3 := hid (below_then HB2.out hb3); have HC3 := hid (below_then HC2.out hb3); clear ht3 hb3)
          | (go_at_call 19; (with_reducible refine (tlen_any bt es (filtB es) _ HT3.out).mono ?_); rintro e w4 ⟨rfl, rfl⟩; rw [HLn.out]))
        have HR3 := hid (HRs.out.below HC3.out)
        obtain ⟨ad, rfl, hen⟩ := HR3.out.at_ hhk
        rw [HEl.out] at hen
        obtain ⟨Ak, nk, ck, Av, nv, cv, a0, a1, a2, a3, a4, a5, a6, a7, a8⟩ := hen
        rw [HKx.out] at a5
        have HA5 := hid a5
        go_upto_region 15 with (fail)
        have HGt := hid (fun (W : World) (hW : Below w3.heap.size w3 W) => tget_any bt es (filtB es) Ak nk ck KH 1099511627776 W (HT3.out.below hW) (HA5.out.below hW) HFs.out.1 HFs.out.2 (by rw [HLn.out]; exact hk1) HFh.out)
        rw [HGx.out.1, HGx.out.2] at HGt
        go_upto_region 16 with (go_at_call 20; (with_reducible refine (HGt.out _ (Below.refl _ _)).mono ?_); rintro r w5 ⟨Ag, ng, cg, Avg, nvg, cvg, rfl, hg1, hg2, hb5⟩; have HG5 := hid (⟨hg1, hg2, hb5⟩ : _ ∧ _ ∧ _); clear hg1 hg2 hb5)
        have hx12 := heap_alloc_new w5 (.cells #[.slice Ag ng cg, .int .i64 (eSeq x), .bool (eGone x), .int .i64 (eTil x), .slice Avg nvg cvg] 42)
        have hBc := below_alloc' HG5.out.2.2 (.cells #[.slice Ag ng cg, .int .i64 (eSeq x), .bool (eGone x), .int .i64 (eTil x), .slice Avg nvg cvg] 42)
        have hBd := below_alloc' (Below.refl w5.heap.size w5) (.cells #[.slice Ag ng cg, .int .i64 (eSeq x), .bool (eGone x), .int .i64 (eTil x), .slice Avg nvg cvg] 42)
        have HHk := hid (⟨HG5.out.1.below hBd, HG5.out.2.1.below hBd⟩ : _ ∧ _)
        have HT5 := hid (HT3.out.below hBc)
        have HA55 := hid (HA5.out.below hBc)
        have HV5 := hid (a6.below hBc)
        have HB5 := hid (below_then HB3.out hBc)
        have a0 := below_cell hBc a0
        have a1 := below_cell hBc a1
        have a2 := below_cell hBc a2
        have a3 := below_cell hBc a3
        have a4 := below_cell hBc a4
        clear hBd hBc HG5 HT3 HB3 HC3 HC2 HB2 HA5 a5 a6 HGt HR2 HR3 HRs
        rw [HKx.out] at HHk
        generalize w5.alloc (.cells #[.slice Ag ng cg, .int .i64 (eSeq x), .bool (eGone x), .int .i64 (eTil x), .slice Avg nvg cvg] 42) = W5 at *
        generalize w5.heap.size = b12 at *
        obtain ⟨e0, e1, e2, e3, e4⟩ := box5 hx12
        clear hx12
        have HPl : Hid (∀ (W : World) (v : Value), PEn (listR KH [] es) v W → ∃ A c, v = .slice A (k - h) c) := hid (fun W v hp => by
          obtain ⟨A, c, e, _, _⟩ := hp
          rw [HLx.out] at e
          exact ⟨A, c, e⟩)
        obtain ⟨LR, hLR⟩ : ∃ R, listR KH [] es = R := ⟨_, rfl⟩
        have HLR := hid hLR
        rw [hLR] at HPl
        clear hLR HLx
        have hkh : ((k - h : Nat) : Int) = (k : Int) - (h : Int) := by omega
        have hws : IntKind.i64.wrap (h : Int) = (h : Int) := by rw [IntKind.wrap_i64]; omega
        have hws2 : IntKind.i64.wrap ((k : Int) - (h : Int)) = (k : Int) - (h : Int) := by rw [IntKind.wrap_i64]; omega
        apply wp_region_gen [none, none, none, none, some 24, none, none, none, none, none, none, none, none, none, none, none, none, none, none, none, none, none, none, none, none, none, none, none, none, none, none, none, none, none, none, none, none, none, none, none, none, none, none, none, none, none, none, none, none, none, none, none, none, none, none, none, none, none, none, none, none, none, none, none, none, none, none, none, none, none, none, none, none, none, none, none, none, none, none, none, none, none, none, none, none, none, none, none, none, none, none, some 0, some 1, some 2, some 3, some 4, some 5, some 6, some 7, some 8, some 9, some 10, some 11, some 12, some 13, some 14, some 15, some 16, some 17, some 18, some 19, some 20, some 21, some 22, some 23] [13] [_, _, _, _, _, _, _, _, _, _, _, _, _, undef, _, _, _, _, _, _, _, _, _, _, _] [noP, noP, noP, noP, noP, noP, noP, noP, noP, noP, noP, noP, noP, (PEn LR), noP, noP, noP, noP, noP, noP, noP, noP, noP, noP, noP]
        case hm => rfl
        case hs => rfl
        case hst => kernel_rfl
        case hq => exact StabL.cons (noP_stab) (StabL.cons (noP_stab) (StabL.cons (noP_stab) (StabL.cons (noP_stab) (StabL.cons (noP_stab) (StabL.cons (noP_stab) (StabL.cons (noP_stab) (StabL.cons (noP_stab) (StabL.cons (noP_stab) (StabL.cons (noP_stab) (StabL.cons (noP_stab) (StabL.cons (noP_stab) (StabL.cons (noP_stab) (StabL.cons (PEn_stab _) (StabL.cons (noP_stab) (StabL.cons (noP_stab) (StabL.cons (noP_stab) (StabL.cons (noP_stab) (StabL.cons (noP_stab) (StabL.cons (noP_stab) (StabL.cons (noP_stab) (StabL.cons (noP_stab) (StabL.cons (noP_stab) (StabL.cons (noP_stab) (StabL.cons (noP_stab) (StabL.nil)))))))))))))))))))))))))
        case hput => exact OpsOK.cons (fun _ _ => rfl) (OpsOK.cons (fun _ _ => rfl) (OpsOK.cons (fun _ _ => rfl) (OpsOK.cons (fun _ _ => rfl) (OpsOK.cons (fun _ _ => rfl) (OpsOK.cons (fun _ _ => rfl) (OpsOK.cons (fun _ _ => rfl) (OpsOK.cons (fun _ _ => rfl) (OpsOK.cons (fun _ _ => rfl) (OpsOK.cons (fun _ _ => rfl) (OpsOK.cons (fun _ _ => rfl) (OpsOK.cons (fun _ _ => rfl) (OpsOK.cons (fun _ _ => rfl) (OpsOK.cons (fun _ _ => rfl) (OpsOK.cons (fun _ _ => rfl) (OpsOK.cons (fun _ _ => rfl) (OpsOK.cons (fun _ _ => rfl) (OpsOK.cons (fun _ _ => rfl) (OpsOK.cons (fun _ _ => rfl) (OpsOK.cons (fun _ _ => rfl) (OpsOK.cons (fun _ _ => rfl) (OpsOK.cons (fun _ _ => rfl) (OpsOK.cons (fun _ _ => rfl) (OpsOK.cons (fun _ _ => rfl) (OpsOK.cons (fun _ _ => rfl) (OpsOK.nil)))))))))))))))))))))))))
        case hops =>
          refine OpsOK.cons ?_ ?_
          · intro u W K hB hd hK
            replace hK := hkg_val hK (by decide)
            clear hd
            simp only [lay, Act.put, List.setIfInBounds_toArray, List.set_cons_zero, List.set_cons_succ] at hK ⊢
            go_simp
            exact hK.out _ _ rfl (Below.refl _ _)
          refine OpsOK.cons ?_ ?_
          · intro u W K hB hd hK
            have h0 := factg_v (dep_ofG hd 0 (by kernel_rfl)) (by decide)
            dsimp only [nth] at h0
            replace hK := hkg_val hK (by decide)
            clear hd
            simp only [lay, Act.put, List.setIfInBounds_toArray, List.set_cons_zero, List.set_cons_succ, h0] at hK ⊢
            go_simp
            exact hK.out _ _ rfl (Below.refl _ _)
          refine OpsOK.cons ?_ ?_
          · intro u W K hB hd hK
            have h1 := factg_v (dep_ofG hd 1 (by kernel_rfl)) (by decide)
            dsimp only [nth] at h1
            replace hK := hkg_val hK (by decide)
            clear hd
            simp only [lay, Act.put, List.setIfInBounds_toArray, List.set_cons_zero, List.set_cons_succ, h1] at hK ⊢
            have y0 := below_cell hB e0
            have y1 := below_cell hB e1
            have y2 := below_cell hB e2
            have y3 := below_cell hB e3
            have y4 := below_cell hB e4
            go_simp
            exact hK.out _ _ rfl (Below.refl _ _)
          refine OpsOK.cons ?_ ?_
          · intro u W K hB hd hK
            have h1 := factg_v (dep_ofG hd 1 (by kernel_rfl)) (by decide)
            dsimp only [nth] at h1
            replace hK := hkg_val hK (by decide)
            clear hd
            simp only [lay, Act.put, List.setIfInBounds_toArray, List.set_cons_zero, List.set_cons_succ, h1] at hK ⊢
            go_simp
            exact hK.out _ _ rfl (Below.refl _ _)
          refine OpsOK.cons ?_ ?_
          · intro u W K hB hd hK
            have h1 := factg_v (dep_ofG hd 1 (by kernel_rfl)) (by decide)
            dsimp only [nth] at h1
            replace hK := hkg_val hK (by decide)
            clear hd
            simp only [lay, Act.put, List.setIfInBounds_toArray, List.set_cons_zero, List.set_cons_succ, h1] at hK ⊢
            go_simp
            exact hK.out _ _ rfl (Below.refl _ _)
          refine OpsOK.cons ?_ ?_
          · intro u W K hB hd hK
            have h1 := factg_v (dep_ofG hd 1 (by kernel_rfl)) (by decide)
            dsimp only [nth] at h1
            have h4 := factg_v (dep_ofG hd 4 (by kernel_rfl)) (by decide)
            dsimp only [nth] at h4
            replace hK := hkg_val hK (by decide)
            clear hd
            simp only [lay, Act.put, List.setIfInBounds_toArray, List.set_cons_zero, List.set_cons_succ, h1, h4] at hK ⊢
            go_simp
            exact hK.out _ _ rfl (Below.refl _ _)
          refine OpsOK.cons ?_ ?_
          · intro u W K hB hd hK
            have h1 := factg_v (dep_ofG hd 1 (by kernel_rfl)) (by decide)
            dsimp only [nth] at h1
            have h3 := factg_v (dep_ofG hd 3 (by kernel_rfl)) (by decide)
            dsimp only [nth] at h3
            have h5 := factg_v (dep_ofG hd 5 (by kernel_rfl)) (by decide)
            dsimp only [nth] at h5
            replace hK := hkg_val hK (by decide)
            clear hd
            simp only [lay, Act.put, List.setIfInBounds_toArray, List.set_cons_zero, List.set_cons_succ, h1, h3, h5] at hK ⊢
            go_simp
            exact hK.out _ _ rfl (Below.refl _ _)
          refine OpsOK.cons ?_ ?_
          · intro u W K hB hd hK
            have h1 := factg_v (dep_ofG hd 1 (by kernel_rfl)) (by decide)
            dsimp only [nth] at h1
            have h6 := factg_v (dep_ofG hd 6 (by kernel_rfl)) (by decide)
            dsimp only [nth] at h6
            replace hK := hkg_val hK (by decide)
            clear hd
            simp only [lay, Act.put, List.setIfInBounds_toArray, List.set_cons_zero, List.set_cons_succ, h1, h6] at hK ⊢
            have y0 := below_cell hB a0
            have y1 := below_cell hB a1
            have y2 := below_cell hB a2
            have y3 := below_cell hB a3
            have y4 := below_cell hB a4
            go_simp
            exact hK.out _ _ rfl (Below.refl _ _)
          refine OpsOK.cons ?_ ?_
          · intro u W K hB hd hK
            have h1 := factg_v (dep_ofG hd 1 (by kernel_rfl)) (by decide)
            dsimp only [nth] at h1
            have h2 := factg_v (dep_ofG hd 2 (by kernel_rfl)) (by decide)
            dsimp only [nth] at h2
            have h7 := factg_v (dep_ofG hd 7 (by kernel_rfl)) (by decide)
            dsimp only [nth] at h7
            replace hK := hkg_val hK (by decide)
            clear hd
            simp only [lay, Act.put, List.setIfInBounds_toArray, List.set_cons_zero, List.set_cons_succ, h1, h2, h7] at hK ⊢
            go_simp
            first
              | (go_at_call 21; (with_reducible refine (sameentry_any Ag ng cg Avg nvg cvg Ak nk ck Av nv cv (eSeq x) (eGone x) (eTil x) KH (eVal x) W (HHk.out.1.below hB) (HHk.out.2.below hB) (HA55.out.below hB) (HV5.out.below hB)).mono ?_); rintro r w9 ⟨rfl, hb9⟩; exact hK.out _ _ rfl hb9)
              | (go_at_call 22; (with_reducible refine (tlist_any bt es (filtB es) Ak nk ck KH none 0 0 [] W (HT5.out.below hB) (HA55.out.below hB) (RB.nil _) HFs.out.1 HFs.out.2 (by rw [HLn.out]; exact hk1)).mono ?_); rintro r w9 ⟨v9, rfl, ho9, hb9⟩; rw [HLR.out] at ho9; exact hK.out _ _ (PEn.own ho9) hb9)
              | (go_at_call 11; (with_reducible refine (tawake_any _).mono ?_); rintro r w9 ⟨rfl, hb9⟩; exact hK.out _ _ rfl hb9)
          refine OpsOK.cons ?_ ?_
          · intro u W K hB hd hK
            have h1 := factg_v (dep_ofG hd 1 (by kernel_rfl)) (by decide)
            dsimp only [nth] at h1
            have h8 := factg_v (dep_ofG hd 8 (by kernel_rfl)) (by decide)
            dsimp only [nth] at h8
            replace hK := hkg_val hK (by decide)
            clear hd
            simp only [lay, Act.put, List.setIfInBounds_toArray, List.set_cons_zero, List.set_cons_succ, h1, h8] at hK ⊢
            go_simp
            exact hK.out _ _ rfl (Below.refl _ _)
          refine OpsOK.cons ?_ ?_
          · intro u W K hB hd hK
            have h8 := factg_v (dep_ofG hd 8 (by kernel_rfl)) (by decide)
            dsimp only [nth] at h8
            have h9 := factg_v (dep_ofG hd 9 (by kernel_rfl)) (by decide)
            dsimp only [nth] at h9
            replace hK := hkg_val hK (by decide)
            clear hd
            simp only [lay, Act.put, List.setIfInBounds_toArray, List.set_cons_zero, List.set_cons_succ, h8, h9] at hK ⊢
            go_simp
            exact hK.out _ _ rfl (Below.refl _ _)
          refine OpsOK.cons ?_ ?_
          · intro u W K hB hd hK
            have h10 := factg_v (dep_ofG hd 10 (by kernel_rfl)) (by decide)
            dsimp only [nth] at h10
            replace hK := hkg_val hK (by decide)
            clear hd
            simp only [lay, Act.put, List.setIfInBounds_toArray, List.set_cons_zero, List.set_cons_succ, h10] at hK ⊢
            go_simp
            exact hK.out _ _ rfl (Below.refl _ _)
          refine OpsOK.cons ?_ ?_
          · intro u W K hB hd hK
            have h10 := factg_v (dep_ofG hd 10 (by kernel_rfl)) (by decide)
            dsimp only [nth] at h10
            replace hK := hkg_val hK (by decide)
            clear hd
            simp only [lay, Act.put, List.setIfInBounds_toArray, List.set_cons_zero, List.set_cons_succ, h10] at hK ⊢
            go_simp
            exact hK.out _ _ rfl (Below.refl _ _)
          refine OpsOK.cons ?_ ?_
          · intro u W K hB hd hK
            have h10 := factg_v (dep_ofG hd 10 (by kernel_rfl)) (by decide)
            dsimp only [nth] at h10
            have h11 := factg_v (dep_ofG hd 11 (by kernel_rfl)) (by decide)
            dsimp only [nth] at h11
            have h12 := factg_v (dep_ofG hd 12 (by kernel_rfl)) (by decide)
            dsimp only [nth] at h12
            replace hK := hkg_p hK (by decide)
            dsimp only [nth] at hK
            clear hd
            simp only [lay, Act.put, List.setIfInBounds_toArray, List.set_cons_zero, List.set_cons_succ, h10, h11, h12] at hK ⊢
            go_simp
            first
              | (go_at_call 21; (with_reducible refine (sameentry_any Ag ng cg Avg nvg cvg Ak nk ck Av nv cv (eSeq x) (eGone x) (eTil x) KH (eVal x) W (HHk.out.1.below hB) (HHk.out.2.below hB) (HA55.out.below hB) (HV5.out.below hB)).mono ?_); rintro r w9 ⟨rfl, hb9⟩; exact hK.out _ _ rfl hb9)
              | (go_at_call 22; (with_reducible refine (tlist_any bt es (filtB es) Ak nk ck KH none 0 0 [] W (HT5.out.below hB) (HA55.out.below hB) (RB.nil _) HFs.out.1 HFs.out.2 (by rw [HLn.out]; exact hk1)).mono ?_); rintro r w9 ⟨v9, rfl, ho9, hb9⟩; rw [HLR.out] at ho9; exact hK.out _ _ (PEn.own ho9) hb9)
              | (go_at_call 11; (with_reducible refine (tawake_any _).mono ?_); rintro r w9 ⟨rfl, hb9⟩; exact hK.out _ _ rfl hb9)
          refine OpsOK.cons ?_ ?_
          · intro u W K hB hd hK
            have h10 := factg_v (dep_ofG hd 10 (by kernel_rfl)) (by decide)
            dsimp only [nth] at h10
            have h13 := factg_p (dep_ofG hd 13 (by kernel_rfl)) (by decide)
            dsimp only [nth] at h13
            replace hK := hkg_val hK (by decide)
            clear hd
            simp only [lay, Act.put, List.setIfInBounds_toArray, List.set_cons_zero, List.set_cons_succ, h10] at hK ⊢
            obtain ⟨Al, cl, hul⟩ := HPl.out _ _ h13
            simp only [hul] at hK ⊢
            go_simp
            exact hK.out _ _ rfl (Below.refl _ _)
          refine OpsOK.cons ?_ ?_
          · intro u W K hB hd hK
            have h10 := factg_v (dep_ofG hd 10 (by kernel_rfl)) (by decide)
            dsimp only [nth] at h10
            replace hK := hkg_val hK (by decide)
            clear hd
            simp only [lay, Act.put, List.setIfInBounds_toArray, List.set_cons_zero, List.set_cons_succ, h10] at hK ⊢
            go_simp
            exact hK.out _ _ rfl (Below.refl _ _)
          refine OpsOK.cons ?_ ?_
          · intro u W K hB hd hK
            have h10 := factg_v (dep_ofG hd 10 (by kernel_rfl)) (by decide)
            dsimp only [nth] at h10
            replace hK := hkg_val hK (by decide)
            clear hd
            simp only [lay, Act.put, List.setIfInBounds_toArray, List.set_cons_zero, List.set_cons_succ, h10] at hK ⊢
            go_simp
            exact hK.out _ _ rfl (Below.refl _ _)
          refine OpsOK.cons ?_ ?_
          · intro u W K hB hd hK
            have h10 := factg_v (dep_ofG hd 10 (by kernel_rfl)) (by decide)
            dsimp only [nth] at h10
            have h16 := factg_v (dep_ofG hd 16 (by kernel_rfl)) (by decide)
            dsimp only [nth] at h16
            replace hK := hkg_val hK (by decide)
            clear hd
            simp only [lay, Act.put, List.setIfInBounds_toArray, List.set_cons_zero, List.set_cons_succ, h10, h16] at hK ⊢
            go_simp
            exact hK.out _ _ rfl (Below.refl _ _)
          refine OpsOK.cons ?_ ?_
          · intro u W K hB hd hK
            have h10 := factg_v (dep_ofG hd 10 (by kernel_rfl)) (by decide)
            dsimp only [nth] at h10
            have h15 := factg_v (dep_ofG hd 15 (by kernel_rfl)) (by decide)
            dsimp only [nth] at h15
            have h17 := factg_v (dep_ofG hd 17 (by kernel_rfl)) (by decide)
            dsimp only [nth] at h17
            replace hK := hkg_val hK (by decide)
            clear hd
            simp only [lay, Act.put, List.setIfInBounds_toArray, List.set_cons_zero, List.set_cons_succ, h10, h15, h17] at hK ⊢
            go_simp
            exact hK.out _ _ rfl (Below.refl _ _)
          refine OpsOK.cons ?_ ?_
          · intro u W K hB hd hK
            have h10 := factg_v (dep_ofG hd 10 (by kernel_rfl)) (by decide)
            dsimp only [nth] at h10
            have h14 := factg_v (dep_ofG hd 14 (by kernel_rfl)) (by decide)
            dsimp only [nth] at h14
            have h18 := factg_v (dep_ofG hd 18 (by kernel_rfl)) (by decide)
            dsimp only [nth] at h18
            replace hK := hkg_val hK (by decide)
            clear hd
            simp only [lay, Act.put, List.setIfInBounds_toArray, List.set_cons_zero, List.set_cons_succ, h10, h14, h18] at hK ⊢
            go_simp
            exact hK.out _ _ rfl (Below.refl _ _)
          refine OpsOK.cons ?_ ?_
          · intro u W K hB hd hK
            have h10 := factg_v (dep_ofG hd 10 (by kernel_rfl)) (by decide)
            dsimp only [nth] at h10
            have h19 := factg_v (dep_ofG hd 19 (by kernel_rfl)) (by decide)
            dsimp only [nth] at h19
            replace hK := hkg_val hK (by decide)
            clear hd
            simp only [lay, Act.put, List.setIfInBounds_toArray, List.set_cons_zero, List.set_cons_succ, h10, h19] at hK ⊢
            go_simp
            exact hK.out _ _ rfl (Below.refl _ _)
          refine OpsOK.cons ?_ ?_
          · intro u W K hB hd hK
            have h13 := factg_p (dep_ofG hd 13 (by kernel_rfl)) (by decide)
            dsimp only [nth] at h13
            have h20 := factg_v (dep_ofG hd 20 (by kernel_rfl)) (by decide)
            dsimp only [nth] at h20
            replace hK := hkg_val hK (by decide)
            clear hd
            simp only [lay, Act.put, List.setIfInBounds_toArray, List.set_cons_zero, List.set_cons_succ, h20] at hK ⊢
            go_simp
            exact hK.out _ _ rfl (Below.refl _ _)
          refine OpsOK.cons ?_ ?_
          · intro u W K hB hd hK
            have h21 := factg_v (dep_ofG hd 21 (by kernel_rfl)) (by decide)
            dsimp only [nth] at h21
            replace hK := hkg_val hK (by decide)
            clear hd
            simp only [lay, Act.put, List.setIfInBounds_toArray, List.set_cons_zero, List.set_cons_succ, h21] at hK ⊢
            go_simp
            first
              | (go_at_call 21; (with_reducible refine (sameentry_any Ag ng cg Avg nvg cvg Ak nk ck Av nv cv (eSeq x) (eGone x) (eTil x) KH (eVal x) W (HHk.out.1.below hB) (HHk.out.2.below hB) (HA55.out.below hB) (HV5.out.below hB)).mono ?_); rintro r w9 ⟨rfl, hb9⟩; exact hK.out _ _ rfl hb9)
              | (go_at_call 22; (with_reducible refine (tlist_any bt es (filtB es) Ak nk ck KH none 0 0 [] W (HT5.out.below hB) (HA55.out.below hB) (RB.nil _) HFs.out.1 HFs.out.2 (by rw [HLn.out]; exact hk1)).mono ?_); rintro r w9 ⟨v9, rfl, ho9, hb9⟩; rw [HLR.out] at ho9; exact hK.out _ _ (PEn.own ho9) hb9)
              | (go_at_call 11; (with_reducible refine (tawake_any _).mono ?_); rintro r w9 ⟨rfl, hb9⟩; exact hK.out _ _ rfl hb9)
          refine OpsOK.cons ?_ ?_
          · intro u W K hB hd hK
            have h21 := factg_v (dep_ofG hd 21 (by kernel_rfl)) (by decide)
            dsimp only [nth] at h21
            have h22 := factg_v (dep_ofG hd 22 (by kernel_rfl)) (by decide)
            dsimp only [nth] at h22
            replace hK := hkg_val hK (by decide)
            clear hd
            simp only [lay, Act.put, List.setIfInBounds_toArray, List.set_cons_zero, List.set_cons_succ, h21, h22] at hK ⊢
            go_simp
            exact hK.out _ _ rfl (Below.refl _ _)
          refine OpsOK.cons ?_ ?_
          · intro u W K hB hd hK
            have h22 := factg_v (dep_ofG hd 22 (by kernel_rfl)) (by decide)
            dsimp only [nth] at h22
            have h23 := factg_v (dep_ofG hd 23 (by kernel_rfl)) (by decide)
            dsimp only [nth] at h23
            replace hK := hkg_val hK (by decide)
            clear hd
            simp only [lay, Act.put, List.setIfInBounds_toArray, List.set_cons_zero, List.set_cons_succ, h22, h23] at hK ⊢
            go_simp
            exact hK.out _ _ rfl (Below.refl _ _)
          exact OpsOK.nil
        intro u W hB hf
        have h24 := factg_v (hf 24 (by decide)) (by decide)
        dsimp only [nth] at h24
        clear hf
        simp only [lay, h24]
        clear h24
        go_wp2
        go_ret
        exact ⟨by first | rfl | simp, below_then HB5.out hB⟩
end Go.Proofs.Ytkkclkknpjapcaa
