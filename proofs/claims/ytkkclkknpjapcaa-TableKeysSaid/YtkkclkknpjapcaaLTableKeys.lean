/- The walk of one law, with what it wants beyond the shared texts. -/
import Derived.Test.YtkkclkknpjapcaaS14
import Derived.Test.YtkkclkknpjapcaaS16
import Derived.Test.YtkkclkknpjapcaaS03
/-! ### TbL -/
namespace Go.Proofs.Ytkkclkknpjapcaa
open Go.RowKit
set_option linter.unusedVariables false
set_option linter.unusedSimpArgs false

set_option maxHeartbeats 16000000 in
set_option maxRecDepth 100000 in
theorem tsorted_any (A : Option Addr) (n c : Nat) (es : List EntR) (w : World) (h : REnts w A n es) : Calls Try.prog 14 #[.slice A n c] w fun r w' => SrtdB w w' r := by
  have hmax := h.2.1
  have H := hid h
  clear h
  go_enter Try.func14, Try.ntmps14
  go_wp2
  go_loopw [3, 8] (fun v i wr => ∃ j : Nat, j ≤ n ∧ i = .int .i64 j ∧ SoB w wr v j) (fun v i wr => n - (intOf i).toNat)
  case atStart => exact ⟨0, Nat.zero_le _, rfl, [], [], OV.nil _ _ _ _, RelV.nil, trivial, Nat.le_refl _, Nat.zero_le _, fun e he => (by cases he), Below.refl _ _⟩
  case round =>
    obtain ⟨j, hj, rfl, hS⟩ := hrel
    have HS := hid hS
    obtain ⟨es0, U, hU, hUr, hs1, hs2, hs3, hs4, hBw⟩ := hS
    by_cases hjl : j < n
    · obtain ⟨ae, rfl, hc1⟩ := H.out.at_ hjl
      obtain ⟨Ak, nk, ck, Av, nv, cv, a0, a1, a2, a3, a4, a5, a6, a7, a8⟩ := hc1
      have a0 := below_cell hBw a0
      have a1 := below_cell hBw a1
      have a2 := below_cell hBw a2
      have a3 := below_cell hBw a3
      have a4 := below_cell hBw a4
      have hkl := a5.max
      have hvl := a6.max
      have e5 := a5.1
      have e6 := a6.1
      generalize elt noEnt es j = x at *
      obtain ⟨M, hM⟩ : ∃ M, mayE x = M := ⟨_, rfl⟩
      have hmN : mayN nk (eSeq x) (eGone x) (eTil x) nv = M := by rw [← e5, ← e6]; exact hM
      have HmN := hid hmN
      have HM := hid hM
      have HKV := hid (⟨a5, a6, a7, a8⟩ : _ ∧ _ ∧ _ ∧ _)
      have hba := below_alloc' (Below.refl wr.heap.size wr) (.cells #[.slice Ak nk ck, .int .i64 (eSeq x), .bool (eGone x), .int .i64 (eTil x), .slice Av nv cv] 42)
      have HSn := hid ((HS.out.below hba).more)
      have hB2 := hid (below_then hBw hba)
      obtain ⟨Ao, co, hve, _⟩ := hU.openN es0.length hUr.1
      subst hve
      have HU := hid (hU.below hba)
      have HUr := hid hUr
      have HQ := hid (⟨hs1, hs2, hs3, hs4⟩ : _ ∧ _ ∧ _ ∧ _)
      clear a5 a6 a7 a8 hM hmN e5 e6 hU hUr hs1 hs2 hs3 hs4 HS hBw hba
      by_cases hp : j < 60
      · have hd1 : decide ((j : Int) < 60) = true := decide_eq_true (by omega)
        cases M
        · go_wp2_with (go_at_call 41; (with_reducible refine (refmay_any Ak nk ck (eSeq x) (eGone x) (eTil x) Av nv cv _ hkl hvl).mono ?_); rintro r w4 ⟨rfl, hb4⟩; rw [HmN.out])
          go_roundw
          case rel => exact ⟨j + 1, by omega, by go_num, HSn.out.below hb4⟩
          case measure => simp [intOf]; omega
        · go_wp2_with (first
            | (go_at_call 41; (with_reducible refine (refmay_any Ak nk ck (eSeq x) (eGone x) (eTil x) Av nv cv _ hkl hvl).mono ?_); rintro r w4 ⟨rfl, hb4⟩; rw [HmN.out]; have HB4 := hid hb4; have hbx := heap_alloc_new wr (.cells #[.slice Ak nk ck, .int .i64 (eSeq x), .bool (eGone x), .int .i64 (eTil x), .slice Av nv cv] 42); obtain ⟨y0, y1, y2, y3, y4⟩ := box5 (blk_below hb4 hbx); clear hb4 hbx)
            | (go_at_call 48; (with_reducible refine (refputE_any w w.heap.size Ao es0.length co U es0 Ak nk ck Av nv cv x _ (below_then hB2.out HB4.out) (HU.out.below HB4.out) HUr.out (below_then hB2.out HB4.out).size HKV.out.1 HKV.out.2.1 HKV.out.2.2.1 HKV.out.2.2.2 rfl (by have := HQ.out.2.2.1; omega)).mono ?_); rintro r w5 ⟨v5, V5, rfl, hv5, hr5, hb5⟩))
          have HN : Hid (SoB w w5 v5 (j + 1)) := hid ⟨putE es0 x, V5, hv5, hr5, put_srt HQ.out.1, by have := put_len' es0 x; have := HQ.out.2.1; omega, by have := put_len' es0 x; have := HQ.out.2.1; omega, fun y hy => (put_mem' hy).elim (HQ.out.2.2.2 y) (fun h => by rw [h]; exact HM.out), below_then (below_then hB2.out HB4.out) hb5⟩
          clear hv5 hr5
          go_roundw
          case rel => exact ⟨j + 1, by omega, by go_num, HN.out⟩
          case measure => simp [intOf]; omega
      · have hd1 : decide ((j : Int) < 60) = false := decide_eq_false (by omega)
        go_wp2
        go_roundw
        case rel => exact ⟨j + 1, by omega, by go_num, HSn.out⟩
        case measure => simp [intOf]; omega
    · obtain rfl : j = n := by omega
      obtain ⟨A2, c2, hv2, hc2, hr2⟩ := REnts_of hU (hUr.mono fun x a hx => hx.below hBw) (by omega)
      subst hv2
      have HR := hid hr2
      have HAll : Hid (AllM es0) := hid (fun i hi => hs4 _ (elt_mem hi))
      have HSr := hid hs1
      clear hr2 hU hUr hs1 hs4 HS
      go_wp2
      go_ret
      exact ⟨A2, c2, es0, rfl, hc2, HR.out, HSr.out, HAll.out, hs3, hBw⟩
end Go.Proofs.Ytkkclkknpjapcaa
/-! ### TbM2 -/
namespace Go.Proofs.Ytkkclkknpjapcaa
open Go.RowKit
set_option linter.unusedVariables false
set_option linter.unusedSimpArgs false

def KeyO (w w' : World) (key : List UInt8) (r : Ending) : Prop := ∃ v, r = .returned v ∧ OB w' w.heap.size v key ∧ Below w.heap.size w w'
set_option maxHeartbeats 8000000 in
set_option maxRecDepth 100000 in
theorem tleast_row (bt : Nat) (es : List EntR) (fil : List UInt8) (w : World) (h : TabR w bt es fil) (hne : 1 ≤ es.length) (hm : AllM es) :
    Calls Try.prog 25 #[.pointer (some ⟨bt, 0, none⟩)] w fun r w' => KeyO w w' (eKey (elt noEnt es 0)) r := by
  have HT := hid h
  obtain ⟨A, n, c, Af, m, cf, h1, h2, hc, _⟩ := h
  have hn := h2.1
  have hmax := h2.2.1
  have q0 := box_at h1 0 _ rfl
  obtain ⟨ad, rfl, hen⟩ := h2.at_ (show 0 < n by omega)
  have hmx := mayE_cases (hm 0 (by omega))
  generalize elt noEnt es 0 = x at *
  obtain ⟨Ak, nk, ck, Av, nv, cv, a0, a1, a2, a3, a4, a5, a6, a7, a8⟩ := hen
  rw [Nat.zero_mul, addr_zero'] at a0 a1 a2 a3 a4
  have hn0 : (0 : Int) < (n : Int) := by omega
  have hn0' : 0 < n := by omega
  have e5 := a5.1
  have e6 := a6.1
  have hnk : nk ≤ 140737488355328 := by omega
  have hnv : nv ≤ 140737488355328 := by omega
  have HKV := hid (⟨a5, a6⟩ : _ ∧ _)
  have hzz : ((es.length : Int) == 0) = false := by rw [beq_eq_false_iff_ne]; omega
  clear h1 h2 a5 a6 hm hmx e5 e6
  go_enter Try.func25, Try.ntmps25
  go_wp2_with (first
    | (go_at_call 19; (with_reducible refine (tlen_any bt es fil _ HT.out).mono ?_); rintro e w1 ⟨rfl, rfl⟩)
    | (go_at_call 61; (with_reducible refine (town_any Ak nk ck (eKey x) (eSeq x) (eGone x) (eTil x) Av nv cv (eVal x) _ HKV.out.1 HKV.out.2 hnk hnv).mono ?_); rintro r w4 ⟨kv, vv, rfl, ok1, ov1, hb4⟩; have ok2 := ok1; obtain ⟨A4, c4, rfl, hr4, hc4⟩ := ok1.open_; have hfd := run_field0 (.slice A4 (eKey x).length c4) vv (.int .i64 (eSeq x)) (.bool (eGone x)) (.int .i64 (eTil x)) w4))
  go_ret
  exact ⟨_, rfl, ok2, hb4⟩
set_option maxHeartbeats 8000000 in
set_option maxRecDepth 100000 in
theorem tmost_row (bt : Nat) (es : List EntR) (fil : List UInt8) (w : World) (h : TabR w bt es fil) (hne : 1 ≤ es.length) (hm : AllM es) :
    Calls Try.prog 26 #[.pointer (some ⟨bt, 0, none⟩)] w fun r w' => KeyO w w' (eKey (elt noEnt es (es.length - 1))) r := by
  have HT := hid h
  obtain ⟨A, n, c, Af, m, cf, h1, h2, hc, _⟩ := h
  have hn := h2.1
  have hmax := h2.2.1
  have q0 := box_at h1 0 _ rfl
  obtain ⟨j, hj⟩ : ∃ j, es.length - 1 = j := ⟨_, rfl⟩
  rw [hj]
  have hji : (n : Int) - 1 = (j : Int) := by omega
  have hjn : j < n := by omega
  have hws : IntKind.i64.wrap (j : Int) = (j : Int) := by rw [IntKind.wrap_i64]; omega
  obtain ⟨ad, rfl, hen⟩ := h2.at_ hjn
  have hmx := mayE_cases (hm j (by omega))
  generalize elt noEnt es j = x at *
  obtain ⟨Ak, nk, ck, Av, nv, cv, a0, a1, a2, a3, a4, a5, a6, a7, a8⟩ := hen
  have e5 := a5.1
  have e6 := a6.1
  have hnk : nk ≤ 140737488355328 := by omega
  have hnv : nv ≤ 140737488355328 := by omega
  have HKV := hid (⟨a5, a6⟩ : _ ∧ _)
  have hzz : ((es.length : Int) == 0) = false := by rw [beq_eq_false_iff_ne]; omega
  clear h1 h2 a5 a6 hm hmx e5 e6 hj
  go_enter Try.func26, Try.ntmps26
  go_wp2_with (go_at_call 19; (with_reducible refine (tlen_any bt es fil _ HT.out).mono ?_); rintro e w1 ⟨rfl, rfl⟩)
  go_still_tail 12, (by kernel_rfl)
  change wpList _ _ _ _ _ w.drew
  have hbd : Below w.heap.size w w.drew := below_drew (Below.refl _ _)
  have HKd := hid (⟨HKV.out.1.drew, HKV.out.2.drew⟩ : _ ∧ _)
  generalize w.drew = w2 at *
  go_wp2_with (go_at_call 61; (with_reducible refine (town_any Ak nk ck (eKey x) (eSeq x) (eGone x) (eTil x) Av nv cv (eVal x) _ HKd.out.1 HKd.out.2 hnk hnv).mono ?_); rintro r w4 ⟨kv, vv, rfl, ok1, ov1, hb4⟩; have ok2 := ok1; obtain ⟨A4, c4, rfl, hr4, hc4⟩ := ok1.open_; have hfd := run_field0 (.slice A4 (eKey x).length c4) vv (.int .i64 (eSeq x)) (.bool (eGone x)) (.int .i64 (eTil x)) w4)
  go_ret
  exact ⟨_, rfl, ok2.mono hbd.size, below_then hbd hb4⟩
theorem refcompare_row (A : Option Addr) (n c : Nat) (xs : List UInt8) (v : Value) (base : Nat) (ys : List UInt8) (w : World) (h : RB w A n xs) (h' : OB w base v ys) :
    Calls Try.prog 24 #[.slice A n c, v] w fun e w' => e = .returned (.int .i64 (cmpB xs ys)) ∧ Below w.heap.size w w' := by
  obtain ⟨A2, c2, rfl, hr, _⟩ := h'.open_
  refine (refcompare_quiet A n c xs A2 _ c2 ys w h hr).mono ?_
  rintro e w' ⟨rfl, m, rfl⟩
  exact ⟨rfl, below_drewN (Below.refl _ _) m⟩
end Go.Proofs.Ytkkclkknpjapcaa
/-! ### TbT2 -/
namespace Go.Proofs.Ytkkclkknpjapcaa
open Go.RowKit
set_option linter.unusedVariables false
set_option linter.unusedSimpArgs false

theorem str_dec (xs ys : List UInt8) : ((bstr xs).toList == (bstr ys).toList) = decide (xs = ys) := by
  rw [bstr_list, bstr_list]
  exact Bool.eq_iff_iff.2 (by simp)
/-- Is a key among the first ones? -/
def thereB (L : List EntR) (key : List UInt8) (k : Nat) : Bool := (L.take k).any fun x => decide (eKey x = key)
theorem there_zero (L : List EntR) (key : List UInt8) : thereB L key 0 = false := rfl
theorem there_succ {L : List EntR} {key : List UInt8} {k : Nat} (hk : k < L.length) : thereB L key (k + 1) = (thereB L key k || decide (eKey (elt noEnt L k) = key)) := by
  unfold thereB
  rw [take_succ_elt noEnt hk, List.any_append]
  simp
theorem there_get {L : List EntR} {key : List UInt8} (hm : AllM L) : (getR key 4611686018427387904 L).2 = thereB L key L.length := by
  unfold thereB
  rw [List.take_length]
  have : ∀ l : List EntR, (∀ x ∈ l, mayE x = true) → (getR key 4611686018427387904 l).2 = l.any fun x => decide (eKey x = key) := by
    intro l
    induction l with
    | nil => intro _; rfl
    | cons x l ih =>
      intro h
      rw [getR, List.any_cons]
      have hx := mayE_cases (h x List.mem_cons_self)
      by_cases hk : eKey x = key
      · rw [if_pos ⟨hk, hx.2.2.2.2⟩, decide_eq_true hk]; rfl
      · rw [if_neg (fun e => hk e.1), decide_eq_false hk, ih (fun y hy => h y (List.mem_cons_of_mem _ hy))]; rfl
  refine this L fun x hx => ?_
  obtain ⟨j, hj, rfl⟩ := mem_elt hx
  exact hm j hj
theorem there_has {L : List EntR} {key : List UInt8} (h : thereB L key L.length = true) : hasB (filtB L) key = true := by
  unfold thereB at h
  rw [List.take_length, List.any_eq_true] at h
  obtain ⟨x, hx, e⟩ := h
  rw [decide_eq_true_iff] at e
  rw [← e]
  exact filt_has hx
/-- Each key lies between the least and the most. -/
theorem key_least {L : List EntR} (hs : Srt L) {k : Nat} (hk : k < L.length) : 0 ≤ cmpB (eKey (elt noEnt L k)) (eKey (elt noEnt L 0)) := by
  rcases Nat.eq_zero_or_pos k with rfl | h0
  · rw [(cmpB_zero _ _).2 rfl]; omega
  · rcases aheadK_iff.1 (hs.at_ 0 k h0 hk) with h | ⟨h, _⟩
    · rw [cmpB_swap]; omega
    · rw [h, (cmpB_zero _ _).2 rfl]; omega
theorem key_most {L : List EntR} (hs : Srt L) {k : Nat} (hk : k < L.length) : cmpB (eKey (elt noEnt L k)) (eKey (elt noEnt L (L.length - 1))) ≤ 0 := by
  rcases Nat.lt_or_ge k (L.length - 1) with h0 | h0
  · rcases aheadK_iff.1 (hs.at_ k (L.length - 1) h0 (by omega)) with h | ⟨h, _⟩
    · omega
    · rw [h, (cmpB_zero _ _).2 rfl]; omega
  · obtain rfl : k = L.length - 1 := by omega
    rw [(cmpB_zero _ _).2 rfl]; omega
theorem refordered_rows {w : World} {base : Nat} {v : Value} {L : List EntR} (h : ROw w base v L) (hs : Srt L) : Calls Try.prog 31 #[v] w fun e w' => e = .returned (.bool true) ∧ Below w.heap.size w w' := by
  obtain ⟨A, c, rfl, _, hr⟩ := h.len h.len_lt
  refine (refordered_any A _ c L w hr).mono ?_
  rintro e w' ⟨rfl, hb⟩
  rw [srtB_true hs]
  exact ⟨rfl, hb⟩
set_option maxHeartbeats 32000000 in
set_option maxRecDepth 100000 in
theorem TableKeys_walk (A : Option Addr) (n c : Nat) (es : List EntR) (Ar : Option Addr) (nr cr : Nat) (key : List UInt8) (w : World) (h : REnts w A n es) (hc : n ≤ c) (hk : RB w Ar nr key) (hkc : nr ≤ cr) (hksz : nr ≤ 140737488351232) :
    Calls Try.prog 9 #[.slice A n c, .slice Ar nr cr] w fun e w' => e = .returned (.bool true) ∧ Below w.heap.size w w' := by
  have H := hid h
  have HK := hid hk
  clear h hk
  go_enter Try.func9, Try.ntmps9
  go_upto_region 2 with (go_at_call 14; (with_reducible refine (tsorted_any A n c es _ H.out).mono ?_); rintro r w1 ⟨A1, c1, L, rfl, hc1, hr1, hs1, hm1, hl1, hb1⟩; have HR1 := hid hr1; have HS1 := hid (⟨hs1, hm1⟩ : _ ∧ _); have HB1 := hid hb1; clear hr1 hs1 hm1 hb1)
  by_cases hL : L.length = 0
  · have HNo : Hid (∀ E, TbC L E → E ≠ 0) := hid (fun E hE e => by
      have := (hE.fit.1 e).1.1
      omega)
    have hz : ((L.length : Int) == 0) = true := by rw [beq_iff_eq]; omega
    clear hL
    go_wp2_with (first
      | (go_at_call 12; (with_reducible refine (tbuild_any A1 L.length c1 L _ HR1.out hc1).mono ?_); rintro r w2 ⟨E2, v2, rfl, hE2, ho2, hb2⟩; have hne := HNo.out E2 hE2; have hneb : ((E2 : Int) != 0) = true := (by simpa using hne); have HB2 := hid (below_then HB1.out hb2); clear hE2 ho2)
      | (go_at_call 11; (with_reducible refine (tawake_any _).mono ?_); rintro e w6 ⟨rfl, hb6⟩; have HB6 := hid (below_then HB2.out hb6)))
    go_ret
    exact ⟨by first | rfl | simp, HB6.out⟩
  · have HFit : Hid (FitT L) := hid (fit_small HS1.out.2 HS1.out.1 (by omega) (by omega))
    go_wp2_with (first
      | (go_at_call 12; (with_reducible refine (build_tab A1 L.length c1 L _ HR1.out hc1 HFit.out).mono ?_); rintro r w2 ⟨A2, n2, c2, rfl, hn2, ho2, hr2, hc2, hb2⟩; have HR2 := hid hr2; have HB2 := hid (below_then HB1.out hb2); have HC2 := hid hb2; clear ho2 hr2 hn2 hb2)
      | (go_at_call 15; (with_reducible refine (open_tab A2 n2 c2 L _ HR2.out hc2 HFit.out).mono ?_); rintro r w3 ⟨bt, rfl, ht3, hb3⟩; have HT3 := hid ht3; have HB3 := hid (below_then HB2.out hb3); have HC3 := hid (below_then HC2.out hb3); clear ht3 hb3))
    have HR3 := hid (HR1.out.below HC3.out)
    have HK3 := hid (HK.out.below HB3.out)
    clear HR1 HK HC3 HC2 HB2 HR2 HB1 H
    go_loopw [10, 39] (fun th i wr => ∃ k : Nat, k ≤ L.length ∧ i = .int .i64 k ∧ th = .bool (thereB L key k) ∧ Below w3.heap.size w3 wr) (fun _ i wr => L.length - (intOf i).toNat)
    case atStart => exact ⟨0, Nat.zero_le _, rfl, rfl, Below.refl _ _⟩
    case round =>
      obtain ⟨k, hk, rfl, rfl, hB⟩ := hrel
      have HTr := hid (HT3.out.below hB)
      have HRr := hid (HR3.out.below hB)
      have HKr := hid (HK3.out.below hB)
      have HBr := hid (below_then HB3.out hB)
      by_cases hlt : k < L.length
      · obtain ⟨ad, rfl, hen⟩ := HRr.out.at_ hlt
        have hsucc := there_succ (key := key) hlt
        have hle := key_least HS1.out.1 hlt
        have hmo := key_most HS1.out.1 hlt
        have hfh := filt_has (elt_mem hlt)
        obtain ⟨C0, hC0⟩ : ∃ C, cmpB (eKey (elt noEnt L k)) (eKey (elt noEnt L 0)) = C := ⟨_, rfl⟩
        obtain ⟨C1, hC1⟩ : ∃ C, cmpB (eKey (elt noEnt L k)) (eKey (elt noEnt L (L.length - 1))) = C := ⟨_, rfl⟩
        rw [hC0] at hle
        rw [hC1] at hmo
        have HC0 := hid hC0
        have HC1 := hid hC1
        have HFh := hid hfh
        obtain ⟨K0, hK0⟩ : ∃ K, eKey (elt noEnt L 0) = K := ⟨_, rfl⟩
        obtain ⟨K1, hK1⟩ : ∃ K, eKey (elt noEnt L (L.length - 1)) = K := ⟨_, rfl⟩
        have HLe := hid (fun (u : World) (hu : Below wr.heap.size wr u) => tleast_row bt L (filtB L) u (HTr.out.below hu) (by omega) HS1.out.2)
        have HMo := hid (fun (u : World) (hu : Below wr.heap.size wr u) => tmost_row bt L (filtB L) u (HTr.out.below hu) (by omega) HS1.out.2)
        rw [hK0] at HLe HC0
        rw [hK1] at HMo HC1
        obtain ⟨TH, hTH⟩ : ∃ T, thereB L key k = T := ⟨_, rfl⟩
        rw [hTH] at hsucc
        have HSu := hid hsucc
        obtain ⟨x, hx⟩ : ∃ x, elt noEnt L k = x := ⟨_, rfl⟩
        rw [hx] at hen HC0 HC1 HFh HSu
        obtain ⟨Ak, nk, ck, Av, nv, cv, a0, a1, a2, a3, a4, a5, a6, a7, a8⟩ := hen
        have hdl : decide (C0 < 0) = false := decide_eq_false (by omega)
        have hdm : decide ((0 : Int) < C1) = false := decide_eq_false (by omega)
        have hbxx := heap_alloc_new wr (.cells #[.slice Ak nk ck, .int .i64 (eSeq x), .bool (eGone x), .int .i64 (eTil x), .slice Av nv cv] 42)
        have hBx := below_alloc' (Below.refl wr.heap.size wr) (.cells #[.slice Ak nk ck, .int .i64 (eSeq x), .bool (eGone x), .int .i64 (eTil x), .slice Av nv cv] 42)
        have HX5 := hid (a5.below hBx)
        rw [hTH]
        clear hsucc hfh hC0 hC1 hK0 hK1 hTH hx a5 a6
        go_upto_region 12 with (fail)
        generalize hW5 : wr.alloc (.cells #[.slice Ak nk ck, .int .i64 (eSeq x), .bool (eGone x), .int .i64 (eTil x), .slice Av nv cv] 42) = W5 at *
        clear hW5
        have g0 := box_at hbxx 0 _ rfl
        have HBx := hid hBx
        have HTW := hid (fun (u : World) (hu : Below W5.heap.size W5 u) => HTr.out.below (below_then HBx.out hu))
        have HLe5 := hid (fun (u : World) (hu : Below W5.heap.size W5 u) => HLe.out u (below_then HBx.out hu))
        have HMo5 := hid (fun (u : World) (hu : Below W5.heap.size W5 u) => HMo.out u (below_then HBx.out hu))
        have HKW := hid (fun (u : World) (hu : Below W5.heap.size W5 u) => HKr.out.below (below_then HBx.out hu))
        have HBW := hid (fun (u : World) (hu : Below W5.heap.size W5 u) => below_then (below_then hB HBx.out) hu)
        clear hbxx hBx hB hle hmo
        apply wp_region_txt [none, none, none, none, none, none, none, none, none, none, none, none, none, none, none, none, none, none, none, none, none, none, none, none, none, none, none, none, none, none, none, none, none, none, none, none, none, none, none, none, none, none, none, some 0, some 1, some 2, some 3, some 4, some 5, some 6, some 7, some 8, some 9, some 10, some 11, some 12, some 13, some 14, some 15, some 16, some 17, some 18, some 19, some 20, none, none, none, none, none, none, none, none, none, none, none, none, none, none, none, none, none, none, none, none, none, none, none, none, none, none, none, none, none, none, none, none, none, none, none, none] [9, 17] [] [_, _, _, _, _, _, _, _, _, undef, _, _, _, _, _, _, _, undef, _, _, _] [[], [], [], [], [], [], [], [], [], _, [], [], [], [], [], [], [], _, [], [], []]
        case hm => rfl
        case hs => rfl
        case hst => kernel_rfl
        case hput => exact OpsOK.cons (fun _ _ => rfl) (OpsOK.cons (fun _ _ => rfl) (OpsOK.cons (fun _ _ => rfl) (OpsOK.cons (fun _ _ => rfl) (OpsOK.cons (fun _ _ => rfl) (OpsOK.cons (fun _ _ => rfl) (OpsOK.cons (fun _ _ => rfl) (OpsOK.cons (fun _ _ => rfl) (OpsOK.cons (fun _ _ => rfl) (OpsOK.cons (fun _ _ => rfl) (OpsOK.cons (fun _ _ => rfl) (OpsOK.cons (fun _ _ => rfl) (OpsOK.cons (fun _ _ => rfl) (OpsOK.cons (fun _ _ => rfl) (OpsOK.cons (fun _ _ => rfl) (OpsOK.cons (fun _ _ => rfl) (OpsOK.cons (fun _ _ => rfl) (OpsOK.cons (fun _ _ => rfl) (OpsOK.cons (fun _ _ => rfl) (OpsOK.cons (fun _ _ => rfl) (OpsOK.cons (fun _ _ => rfl) (OpsOK.nil)))))))))))))))))))))
        case hops =>
          refine OpsOK.cons ?_ ?_
          · intro u W K hB hd hK
            replace hK := hk_val hK (by decide) (by rfl)
            clear hd
            simp only [lay, Act.put, List.setIfInBounds_toArray, List.set_cons_zero, List.set_cons_succ] at hK ⊢
            go_simp
            exact hK.out _ _ rfl (Below.refl _ _)
          refine OpsOK.cons ?_ ?_
          · intro u W K hB hd hK
            replace hK := hk_val hK (by decide) (by rfl)
            clear hd
            simp only [lay, Act.put, List.setIfInBounds_toArray, List.set_cons_zero, List.set_cons_succ] at hK ⊢
            go_simp
            exact hK.out _ _ rfl (Below.refl _ _)
          refine OpsOK.cons ?_ ?_
          · intro u W K hB hd hK
            have h1 := fact_val (dep_of hd 1 (by kernel_rfl) (by kernel_rfl)) (by decide)
            dsimp only [nth] at h1
            replace hK := hk_val hK (by decide) (by rfl)
            clear hd
            simp only [lay, Act.put, List.setIfInBounds_toArray, List.set_cons_zero, List.set_cons_succ, h1] at hK ⊢
            have y0 := below_cell hB g0
            go_simp
            exact hK.out _ _ rfl (Below.refl _ _)
          refine OpsOK.cons ?_ ?_
          · intro u W K hB hd hK
            have h0 := fact_val (dep_of hd 0 (by kernel_rfl) (by kernel_rfl)) (by decide)
            dsimp only [nth] at h0
            have h2 := fact_val (dep_of hd 2 (by kernel_rfl) (by kernel_rfl)) (by decide)
            dsimp only [nth] at h2
            replace hK := hk_val hK (by decide) (by rfl)
            clear hd
            simp only [lay, Act.put, List.setIfInBounds_toArray, List.set_cons_zero, List.set_cons_succ, h0, h2] at hK ⊢
            go_simp
            first
              | (go_at_call 28; (with_reducible refine (tmay_any bt L (filtB L) Ak nk ck (eKey x) W (HTW.out W hB) (HX5.out.below hB)).mono ?_); rintro r w9 ⟨rfl, hb⟩; rw [HFh.out]; exact hK.out _ _ rfl hb)
              | (go_at_call 25; (with_reducible refine (HLe5.out W hB).mono ?_); rintro r w9 ⟨v9, rfl, ho9, hb9⟩; exact hK.out _ _ ho9 hb9)
              | (go_at_call 26; (with_reducible refine (HMo5.out W hB).mono ?_); rintro r w9 ⟨v9, rfl, ho9, hb9⟩; exact hK.out _ _ ho9 hb9)
              | (go_at_call 24; (with_reducible refine (refcompare_row Ak nk ck (eKey x) _ _ K0 W (HX5.out.below hB) h9).mono ?_); rintro r w9 ⟨rfl, hb⟩; rw [HC0.out]; exact hK.out _ _ rfl hb)
              | (go_at_call 24; (with_reducible refine (refcompare_row Ak nk ck (eKey x) _ _ K1 W (HX5.out.below hB) h17).mono ?_); rintro r w9 ⟨rfl, hb⟩; rw [HC1.out]; exact hK.out _ _ rfl hb)
          refine OpsOK.cons ?_ ?_
          · intro u W K hB hd hK
            have h3 := fact_val (dep_of hd 3 (by kernel_rfl) (by kernel_rfl)) (by decide)
            dsimp only [nth] at h3
            replace hK := hk_val hK (by decide) (by rfl)
            clear hd
            simp only [lay, Act.put, List.setIfInBounds_toArray, List.set_cons_zero, List.set_cons_succ, h3] at hK ⊢
            go_simp
            exact hK.out _ _ rfl (Below.refl _ _)
          refine OpsOK.cons ?_ ?_
          · intro u W K hB hd hK
            have h3 := fact_val (dep_of hd 3 (by kernel_rfl) (by kernel_rfl)) (by decide)
            dsimp only [nth] at h3
            have h4 := fact_val (dep_of hd 4 (by kernel_rfl) (by kernel_rfl)) (by decide)
            dsimp only [nth] at h4
            replace hK := hk_val hK (by decide) (by rfl)
            clear hd
            simp only [lay, Act.put, List.setIfInBounds_toArray, List.set_cons_zero, List.set_cons_succ, h3, h4] at hK ⊢
            go_simp
            exact hK.out _ _ rfl (Below.refl _ _)
          refine OpsOK.cons ?_ ?_
          · intro u W K hB hd hK
            have h5 := fact_val (dep_of hd 5 (by kernel_rfl) (by kernel_rfl)) (by decide)
            dsimp only [nth] at h5
            replace hK := hk_val hK (by decide) (by rfl)
            clear hd
            simp only [lay, Act.put, List.setIfInBounds_toArray, List.set_cons_zero, List.set_cons_succ, h5] at hK ⊢
            go_simp
            exact hK.out _ _ rfl (Below.refl _ _)
          refine OpsOK.cons ?_ ?_
          · intro u W K hB hd hK
            have h5 := fact_val (dep_of hd 5 (by kernel_rfl) (by kernel_rfl)) (by decide)
            dsimp only [nth] at h5
            have h6 := fact_val (dep_of hd 6 (by kernel_rfl) (by kernel_rfl)) (by decide)
            dsimp only [nth] at h6
            replace hK := hk_val hK (by decide) (by rfl)
            clear hd
            simp only [lay, Act.put, List.setIfInBounds_toArray, List.set_cons_zero, List.set_cons_succ, h5, h6] at hK ⊢
            have y0 := below_cell hB g0
            go_simp
            exact hK.out _ _ rfl (Below.refl _ _)
          refine OpsOK.cons ?_ ?_
          · intro u W K hB hd hK
            have h5 := fact_val (dep_of hd 5 (by kernel_rfl) (by kernel_rfl)) (by decide)
            dsimp only [nth] at h5
            replace hK := hk_val hK (by decide) (by rfl)
            clear hd
            simp only [lay, Act.put, List.setIfInBounds_toArray, List.set_cons_zero, List.set_cons_succ, h5] at hK ⊢
            go_simp
            exact hK.out _ _ rfl (Below.refl _ _)
          refine OpsOK.cons ?_ ?_
          · intro u W K hB hd hK
            have h5 := fact_val (dep_of hd 5 (by kernel_rfl) (by kernel_rfl)) (by decide)
            dsimp only [nth] at h5
            have h8 := fact_val (dep_of hd 8 (by kernel_rfl) (by kernel_rfl)) (by decide)
            dsimp only [nth] at h8
            replace hK := hk_row hB hK (by decide) (by rfl)
            clear hd
            simp only [lay, Act.put, List.setIfInBounds_toArray, List.set_cons_zero, List.set_cons_succ, h5, h8] at hK ⊢
            go_simp
            first
              | (go_at_call 28; (with_reducible refine (tmay_any bt L (filtB L) Ak nk ck (eKey x) W (HTW.out W hB) (HX5.out.below hB)).mono ?_); rintro r w9 ⟨rfl, hb⟩; rw [HFh.out]; exact hK.out _ _ rfl hb)
              | (go_at_call 25; (with_reducible refine (HLe5.out W hB).mono ?_); rintro r w9 ⟨v9, rfl, ho9, hb9⟩; exact hK.out _ _ ho9 hb9)
              | (go_at_call 26; (with_reducible refine (HMo5.out W hB).mono ?_); rintro r w9 ⟨v9, rfl, ho9, hb9⟩; exact hK.out _ _ ho9 hb9)
              | (go_at_call 24; (with_reducible refine (refcompare_row Ak nk ck (eKey x) _ _ K0 W (HX5.out.below hB) h9).mono ?_); rintro r w9 ⟨rfl, hb⟩; rw [HC0.out]; exact hK.out _ _ rfl hb)
              | (go_at_call 24; (with_reducible refine (refcompare_row Ak nk ck (eKey x) _ _ K1 W (HX5.out.below hB) h17).mono ?_); rintro r w9 ⟨rfl, hb⟩; rw [HC1.out]; exact hK.out _ _ rfl hb)
          refine OpsOK.cons ?_ ?_
          · intro u W K hB hd hK
            have h5 := fact_val (dep_of hd 5 (by kernel_rfl) (by kernel_rfl)) (by decide)
            dsimp only [nth] at h5
            have h7 := fact_val (dep_of hd 7 (by kernel_rfl) (by kernel_rfl)) (by decide)
            dsimp only [nth] at h7
            have h9 := fact_row (dep_of hd 9 (by kernel_rfl) (by kernel_rfl)) (by decide)
            dsimp only [nth] at h9
            replace hK := hk_val hK (by decide) (by rfl)
            clear hd
            simp only [lay, Act.put, List.setIfInBounds_toArray, List.set_cons_zero, List.set_cons_succ, h5, h7] at hK ⊢
            go_simp
            first
              | (go_at_call 28; (with_reducible refine (tmay_any bt L (filtB L) Ak nk ck (eKey x) W (HTW.out W hB) (HX5.out.below hB)).mono ?_); rintro r w9 ⟨rfl, hb⟩; rw [HFh.out]; exact hK.out _ _ rfl hb)
              | (go_at_call 25; (with_reducible refine (HLe5.out W hB).mono ?_); rintro r w9 ⟨v9, rfl, ho9, hb9⟩; exact hK.out _ _ ho9 hb9)
              | (go_at_call 26; (with_reducible refine (HMo5.out W hB).mono ?_); rintro r w9 ⟨v9, rfl, ho9, hb9⟩; exact hK.out _ _ ho9 hb9)
              | (go_at_call 24; (with_reducible refine (refcompare_row Ak nk ck (eKey x) _ _ K0 W (HX5.out.below hB) h9).mono ?_); rintro r w9 ⟨rfl, hb⟩; rw [HC0.out]; exact hK.out _ _ rfl hb)
              | (go_at_call 24; (with_reducible refine (refcompare_row Ak nk ck (eKey x) _ _ K1 W (HX5.out.below hB) h17).mono ?_); rintro r w9 ⟨rfl, hb⟩; rw [HC1.out]; exact hK.out _ _ rfl hb)
          refine OpsOK.cons ?_ ?_
          · intro u W K hB hd hK
            have h5 := fact_val (dep_of hd 5 (by kernel_rfl) (by kernel_rfl)) (by decide)
            dsimp only [nth] at h5
            have h10 := fact_val (dep_of hd 10 (by kernel_rfl) (by kernel_rfl)) (by decide)
            dsimp only [nth] at h10
            replace hK := hk_val hK (by decide) (by rfl)
            clear hd
            simp only [lay, Act.put, List.setIfInBounds_toArray, List.set_cons_zero, List.set_cons_succ, h5, h10] at hK ⊢
            go_simp
            exact hK.out _ _ rfl (Below.refl _ _)
          refine OpsOK.cons ?_ ?_
          · intro u W K hB hd hK
            have h5 := fact_val (dep_of hd 5 (by kernel_rfl) (by kernel_rfl)) (by decide)
            dsimp only [nth] at h5
            have h11 := fact_val (dep_of hd 11 (by kernel_rfl) (by kernel_rfl)) (by decide)
            dsimp only [nth] at h11
            replace hK := hk_val hK (by decide) (by rfl)
            clear hd
            simp only [lay, Act.put, List.setIfInBounds_toArray, List.set_cons_zero, List.set_cons_succ, h5, h11] at hK ⊢
            go_simp
            exact hK.out _ _ rfl (Below.refl _ _)
          refine OpsOK.cons ?_ ?_
          · intro u W K hB hd hK
            have h10 := fact_val (dep_of hd 10 (by kernel_rfl) (by kernel_rfl)) (by decide)
            dsimp only [nth] at h10
            have h12 := fact_val (dep_of hd 12 (by kernel_rfl) (by kernel_rfl)) (by decide)
            dsimp only [nth] at h12
            replace hK := hk_val hK (by decide) (by rfl)
            clear hd
            simp only [lay, Act.put, List.setIfInBounds_toArray, List.set_cons_zero, List.set_cons_succ, h10, h12] at hK ⊢
            go_simp
            exact hK.out _ _ rfl (Below.refl _ _)
          refine OpsOK.cons ?_ ?_
          · intro u W K hB hd hK
            have h13 := fact_val (dep_of hd 13 (by kernel_rfl) (by kernel_rfl)) (by decide)
            dsimp only [nth] at h13
            replace hK := hk_val hK (by decide) (by rfl)
            clear hd
            simp only [lay, Act.put, List.setIfInBounds_toArray, List.set_cons_zero, List.set_cons_succ, h13] at hK ⊢
            go_simp
            exact hK.out _ _ rfl (Below.refl _ _)
          refine OpsOK.cons ?_ ?_
          · intro u W K hB hd hK
            have h13 := fact_val (dep_of hd 13 (by kernel_rfl) (by kernel_rfl)) (by decide)
            dsimp only [nth] at h13
            have h14 := fact_val (dep_of hd 14 (by kernel_rfl) (by kernel_rfl)) (by decide)
            dsimp only [nth] at h14
            replace hK := hk_val hK (by decide) (by rfl)
            clear hd
            simp only [lay, Act.put, List.setIfInBounds_toArray, List.set_cons_zero, List.set_cons_succ, h13, h14] at hK ⊢
            have y0 := below_cell hB g0
            go_simp
            exact hK.out _ _ rfl (Below.refl _ _)
          refine OpsOK.cons ?_ ?_
          · intro u W K hB hd hK
            have h13 := fact_val (dep_of hd 13 (by kernel_rfl) (by kernel_rfl)) (by decide)
            dsimp only [nth] at h13
            replace hK := hk_val hK (by decide) (by rfl)
            clear hd
            simp only [lay, Act.put, List.setIfInBounds_toArray, List.set_cons_zero, List.set_cons_succ, h13] at hK ⊢
            go_simp
            exact hK.out _ _ rfl (Below.refl _ _)
          refine OpsOK.cons ?_ ?_
          · intro u W K hB hd hK
            have h13 := fact_val (dep_of hd 13 (by kernel_rfl) (by kernel_rfl)) (by decide)
            dsimp only [nth] at h13
            have h16 := fact_val (dep_of hd 16 (by kernel_rfl) (by kernel_rfl)) (by decide)
            dsimp only [nth] at h16
            replace hK := hk_row hB hK (by decide) (by rfl)
            clear hd
            simp only [lay, Act.put, List.setIfInBounds_toArray, List.set_cons_zero, List.set_cons_succ, h13, h16] at hK ⊢
            go_simp
            first
              | (go_at_call 28; (with_reducible refine (tmay_any bt L (filtB L) Ak nk ck (eKey x) W (HTW.out W hB) (HX5.out.below hB)).mono ?_); rintro r w9 ⟨rfl, hb⟩; rw [HFh.out]; exact hK.out _ _ rfl hb)
              | (go_at_call 25; (with_reducible refine (HLe5.out W hB).mono ?_); rintro r w9 ⟨v9, rfl, ho9, hb9⟩; exact hK.out _ _ ho9 hb9)
              | (go_at_call 26; (with_reducible refine (HMo5.out W hB).mono ?_); rintro r w9 ⟨v9, rfl, ho9, hb9⟩; exact hK.out _ _ ho9 hb9)
              | (go_at_call 24; (with_reducible refine (refcompare_row Ak nk ck (eKey x) _ _ K0 W (HX5.out.below hB) h9).mono ?_); rintro r w9 ⟨rfl, hb⟩; rw [HC0.out]; exact hK.out _ _ rfl hb)
              | (go_at_call 24; (with_reducible refine (refcompare_row Ak nk ck (eKey x) _ _ K1 W (HX5.out.below hB) h17).mono ?_); rintro r w9 ⟨rfl, hb⟩; rw [HC1.out]; exact hK.out _ _ rfl hb)
          refine OpsOK.cons ?_ ?_
          · intro u W K hB hd hK
            have h13 := fact_val (dep_of hd 13 (by kernel_rfl) (by kernel_rfl)) (by decide)
            dsimp only [nth] at h13
            have h15 := fact_val (dep_of hd 15 (by kernel_rfl) (by kernel_rfl)) (by decide)
            dsimp only [nth] at h15
            have h17 := fact_row (dep_of hd 17 (by kernel_rfl) (by kernel_rfl)) (by decide)
            dsimp only [nth] at h17
            replace hK := hk_val hK (by decide) (by rfl)
            clear hd
            simp only [lay, Act.put, List.setIfInBounds_toArray, List.set_cons_zero, List.set_cons_succ, h13, h15] at hK ⊢
            go_simp
            first
              | (go_at_call 28; (with_reducible refine (tmay_any bt L (filtB L) Ak nk ck (eKey x) W (HTW.out W hB) (HX5.out.below hB)).mono ?_); rintro r w9 ⟨rfl, hb⟩; rw [HFh.out]; exact hK.out _ _ rfl hb)
              | (go_at_call 25; (with_reducible refine (HLe5.out W hB).mono ?_); rintro r w9 ⟨v9, rfl, ho9, hb9⟩; exact hK.out _ _ ho9 hb9)
              | (go_at_call 26; (with_reducible refine (HMo5.out W hB).mono ?_); rintro r w9 ⟨v9, rfl, ho9, hb9⟩; exact hK.out _ _ ho9 hb9)
              | (go_at_call 24; (with_reducible refine (refcompare_row Ak nk ck (eKey x) _ _ K0 W (HX5.out.below hB) h9).mono ?_); rintro r w9 ⟨rfl, hb⟩; rw [HC0.out]; exact hK.out _ _ rfl hb)
              | (go_at_call 24; (with_reducible refine (refcompare_row Ak nk ck (eKey x) _ _ K1 W (HX5.out.below hB) h17).mono ?_); rintro r w9 ⟨rfl, hb⟩; rw [HC1.out]; exact hK.out _ _ rfl hb)
          refine OpsOK.cons ?_ ?_
          · intro u W K hB hd hK
            have h13 := fact_val (dep_of hd 13 (by kernel_rfl) (by kernel_rfl)) (by decide)
            dsimp only [nth] at h13
            have h18 := fact_val (dep_of hd 18 (by kernel_rfl) (by kernel_rfl)) (by decide)
            dsimp only [nth] at h18
            replace hK := hk_val hK (by decide) (by rfl)
            clear hd
            simp only [lay, Act.put, List.setIfInBounds_toArray, List.set_cons_zero, List.set_cons_succ, h13, h18] at hK ⊢
            go_simp
            exact hK.out _ _ rfl (Below.refl _ _)
          refine OpsOK.cons ?_ ?_
          · intro u W K hB hd hK
            have h13 := fact_val (dep_of hd 13 (by kernel_rfl) (by kernel_rfl)) (by decide)
            dsimp only [nth] at h13
            have h19 := fact_val (dep_of hd 19 (by kernel_rfl) (by kernel_rfl)) (by decide)
            dsimp only [nth] at h19
            replace hK := hk_val hK (by decide) (by rfl)
            clear hd
            simp only [lay, Act.put, List.setIfInBounds_toArray, List.set_cons_zero, List.set_cons_succ, h13, h19] at hK ⊢
            go_simp
            exact hK.out _ _ rfl (Below.refl _ _)
          exact OpsOK.nil
        intro u W hB hf
        have h0 := fact_val (hf 0 (by decide) (by decide)) (by decide)
        dsimp only [nth] at h0
        have h1 := fact_val (hf 1 (by decide) (by decide)) (by decide)
        dsimp only [nth] at h1
        have h2 := fact_val (hf 2 (by decide) (by decide)) (by decide)
        dsimp only [nth] at h2
        have h3 := fact_val (hf 3 (by decide) (by decide)) (by decide)
        dsimp only [nth] at h3
        have h4 := fact_val (hf 4 (by decide) (by decide)) (by decide)
        dsimp only [nth] at h4
        have h5 := fact_val (hf 5 (by decide) (by decide)) (by decide)
        dsimp only [nth] at h5
        have h6 := fact_val (hf 6 (by decide) (by decide)) (by decide)
        dsimp only [nth] at h6
        have h7 := fact_val (hf 7 (by decide) (by decide)) (by decide)
        dsimp only [nth] at h7
        have h8 := fact_val (hf 8 (by decide) (by decide)) (by decide)
        dsimp only [nth] at h8
        have h9 := fact_row (hf 9 (by decide) (by decide)) (by decide)
        dsimp only [nth] at h9
        have h10 := fact_val (hf 10 (by decide) (by decide)) (by decide)
        dsimp only [nth] at h10
        have h11 := fact_val (hf 11 (by decide) (by decide)) (by decide)
        dsimp only [nth] at h11
        have h12 := fact_val (hf 12 (by decide) (by decide)) (by decide)
        dsimp only [nth] at h12
        have h13 := fact_val (hf 13 (by decide) (by decide)) (by decide)
        dsimp only [nth] at h13
        have h14 := fact_val (hf 14 (by decide) (by decide)) (by decide)
        dsimp only [nth] at h14
        have h15 := fact_val (hf 15 (by decide) (by decide)) (by decide)
        dsimp only [nth] at h15
        have h16 := fact_val (hf 16 (by decide) (by decide)) (by decide)
        dsimp only [nth] at h16
        have h17 := fact_row (hf 17 (by decide) (by decide)) (by decide)
        dsimp only [nth] at h17
        have h18 := fact_val (hf 18 (by decide) (by decide)) (by decide)
        dsimp only [nth] at h18
        have h19 := fact_val (hf 19 (by decide) (by decide)) (by decide)
        dsimp only [nth] at h19
        have h20 := fact_val (hf 20 (by decide) (by decide)) (by decide)
        dsimp only [nth] at h20
        clear hf
        simp only [lay, h0, h1, h2, h3, h4, h5, h6, h7, h8, h10, h11, h12, h13, h14, h15, h16, h18, h19, h20]
        clear h0 h1 h2 h3 h4 h5 h6 h7 h8 h10 h11 h12 h13 h14 h15 h16 h18 h19 h20
        have y0 := below_cell hB g0
        have HB9 := hid (HBW.out W hB)
        have hcv1 := (HX5.out.below hB).conv ck
        have hcv2 := (HKW.out W hB).conv cr
        clear h9 h17
        cases TH
        · by_cases heq : eKey x = key
          · have hst : ((bstr (eKey x)).toList == (bstr key).toList) = true := by rw [str_dec]; exact decide_eq_true heq
            have HN : Hid (thereB L key (k + 1) = true) := hid (by rw [HSu.out, decide_eq_true heq]; rfl)
            clear heq
            go_wp2
            go_roundw
            case rel => exact ⟨k + 1, by omega, by go_num, by rw [HN.out], HB9.out⟩
            case measure => simp [intOf]; omega
          · have hst : ((bstr (eKey x)).toList == (bstr key).toList) = false := by rw [str_dec]; exact decide_eq_false heq
            have HN : Hid (thereB L key (k + 1) = false) := hid (by rw [HSu.out, decide_eq_false heq]; rfl)
            clear heq
            go_wp2
            go_roundw
            case rel => exact ⟨k + 1, by omega, by go_num, by rw [HN.out], HB9.out⟩
            case measure => simp [intOf]; omega
        · have HN : Hid (thereB L key (k + 1) = true) := hid (by rw [HSu.out]; rfl)
          go_wp2
          go_roundw
          case rel => exact ⟨k + 1, by omega, by go_num, by rw [HN.out], HB9.out⟩
          case measure => simp [intOf]; omega
      · obtain rfl : k = L.length := by omega
        have hget := there_get (key := key) HS1.out.2
        have hhas := there_has (L := L) (key := key)
        have HGt := hid (tget_any bt L (filtB L) Ar nr cr key 4611686018427387904 wr HTr.out HKr.out HS1.out.1 HS1.out.2 (by omega) (fun x hx => filt_has hx))
        rw [hget] at HGt
        clear hget
        obtain ⟨TH, hTH⟩ : ∃ T, thereB L key L.length = T := ⟨_, rfl⟩
        obtain ⟨HH, hHH⟩ : ∃ T, hasB (filtB L) key = T := ⟨_, rfl⟩
        rw [hTH] at hhas HGt
        rw [hHH] at hhas
        rw [hTH]
        have HHH := hid hHH
        generalize (getR key 4611686018427387904 L).1 = gx at *
        clear hTH hHH
        cases TH
        all_goals cases HH
        all_goals (try (exact absurd (hhas rfl) (by decide)))
        all_goals
          clear hhas
          go_wp2_with (first
            | (go_at_call 20; (with_reducible refine (HGt.out).mono ?_); rintro r w4 ⟨Ag, ng, cg, Avg, nvg, cvg, rfl, hg1, hg2, hb4⟩; have HC4 := hid (below_alloc' hb4 (.cells #[.slice Ag ng cg, .int .i64 (eSeq gx), .bool (eGone gx), .int .i64 (eTil gx), .slice Avg nvg cvg] 42)); have HT4 := hid (HTr.out.below HC4.out); have HK4 := hid (HKr.out.below HC4.out); have HB4 := hid (below_then HBr.out HC4.out); clear hg1 hg2)
            | (go_at_call 28; (with_reducible refine (tmay_any bt L (filtB L) Ar nr cr key _ HT4.out HK4.out).mono ?_); rintro r w5 ⟨rfl, hb5⟩; rw [HHH.out]; have HT5 := hid (HT4.out.below hb5); have HB5 := hid (below_then HB4.out hb5))
            | (go_at_call 18; (with_reducible refine (tall_any bt L (filtB L) _ HT5.out HS1.out.1 HS1.out.2 (by omega)).mono ?_); rintro r w6 ⟨v6, rfl, ho6, hb6⟩; have HO6 := hid ho6; have HB6 := hid (below_then HB5.out hb6); clear ho6)
            | (go_at_call 31; (with_reducible refine (refordered_rows HO6.out HS1.out.1).mono ?_); rintro r w7 ⟨rfl, hb7⟩; have HB7 := hid (below_then HB6.out hb7))
            | (go_at_call 11; (with_reducible refine (tawake_any _).mono ?_); rintro e w8 ⟨rfl, hb8⟩; have HB8 := hid (below_then HB7.out hb8)))
          go_ret
          exact ⟨by first | rfl | simp, HB8.out⟩
end Go.Proofs.Ytkkclkknpjapcaa
