/- The walk of one law, with what it wants beyond the shared texts. -/
import Derived.StillTailTactics
import Derived.Test.YtkkclkknpjapcaaS14
import Derived.Test.YtkkclkknpjapcaaS16
import Derived.Test.YtkkclkknpjapcaaS03
import Derived.Test.YtkkclkknpjapcaaS04
/-! ### TbL -/
namespace Go.Proofs.Ytkkclkknpjapcaa
open Go.RowKit
set_option linter.unusedVariables false
set_option linter.unusedSimpArgs false

set_option maxHeartbeats 16000000 in
set_option maxRecDepth 100000 in
theorem tsorted_any (A : Option Addr) (n c : Nat) (es : List EntR) (w : World) (h : REnts w A n es) : Calls Try.prog 14 #[.slice A n c] w fun r w' => SrtdB w w' r := by
  have hmax := h.2.1
  have H := hid h
  clear h
  go_enter Try.func14, Try.ntmps14
  go_wp2
  go_loopw [3, 8] (fun v i wr => ∃ j : Nat, j ≤ n ∧ i = .int .i64 j ∧ SoB w wr v j) (fun v i wr => n - (intOf i).toNat)
  case atStart => exact ⟨0, Nat.zero_le _, rfl, [], [], OV.nil _ _ _ _, RelV.nil, trivial, Nat.le_refl _, Nat.zero_le _, fun e he => (by cases he), Below.refl _ _⟩
  case round =>
    obtain ⟨j, hj, rfl, hS⟩ := hrel
    have HS := hid hS
    obtain ⟨es0, U, hU, hUr, hs1, hs2, hs3, hs4, hBw⟩ := hS
    by_cases hjl : j < n
    · obtain ⟨ae, rfl, hc1⟩ := H.out.at_ hjl
      obtain ⟨Ak, nk, ck, Av, nv, cv, a0, a1, a2, a3, a4, a5, a6, a7, a8⟩ := hc1
      have a0 := below_cell hBw a0
      have a1 := below_cell hBw a1
      have a2 := below_cell hBw a2
      have a3 := below_cell hBw a3
      have a4 := below_cell hBw a4
      have hkl := a5.max
      have hvl := a6.max
      have e5 := a5.1
      have e6 := a6.1
      generalize elt noEnt es j = x at *
      obtain ⟨M, hM⟩ : ∃ M, mayE x = M := ⟨_, rfl⟩
      have hmN : mayN nk (eSeq x) (eGone x) (eTil x) nv = M := by rw [← e5, ← e6]; exact hM
      have HmN := hid hmN
      have HM := hid hM
      have HKV := hid (⟨a5, a6, a7, a8⟩ : _ ∧ _ ∧ _ ∧ _)
      have hba := below_alloc' (Below.refl wr.heap.size wr) (.cells #[.slice Ak nk ck, .int .i64 (eSeq x), .bool (eGone x), .int .i64 (eTil x), .slice Av nv cv] 42)
      have HSn := hid ((HS.out.below hba).more)
      have hB2 := hid (below_then hBw hba)
      obtain ⟨Ao, co, hve, _⟩ := hU.openN es0.length hUr.1
      subst hve
      have HU := hid (hU.below hba)
      have HUr := hid hUr
      have HQ := hid (⟨hs1, hs2, hs3, hs4⟩ : _ ∧ _ ∧ _ ∧ _)
      clear a5 a6 a7 a8 hM hmN e5 e6 hU hUr hs1 hs2 hs3 hs4 HS hBw hba
      by_cases hp : j < 60
      · have hd1 : decide ((j : Int) < 60) = true := decide_eq_true (by omega)
        cases M
        · go_wp2_with (go_at_call 41; (with_reducible refine (refmay_any Ak nk ck (eSeq x) (eGone x) (eTil x) Av nv cv _ hkl hvl).mono ?_); rintro r w4 ⟨rfl, hb4⟩; rw [HmN.out])
          go_roundw
          case rel => exact ⟨j + 1, by omega, by go_num, HSn.out.below hb4⟩
          case measure => simp [intOf]; omega
        · go_wp2_with (first
            | (go_at_call 41; (with_reducible refine (refmay_any Ak nk ck (eSeq x) (eGone x) (eTil x) Av nv cv _ hkl hvl).mono ?_); rintro r w4 ⟨rfl, hb4⟩; rw [HmN.out]; have HB4 := hid hb4; have hbx := heap_alloc_new wr (.cells #[.slice Ak nk ck, .int .i64 (eSeq x), .bool (eGone x), .int .i64 (eTil x), .slice Av nv cv] 42); obtain ⟨y0, y1, y2, y3, y4⟩ := box5 (blk_below hb4 hbx); clear hb4 hbx)
            | (go_at_call 48; (with_reducible refine (refputE_any w w.heap.size Ao es0.length co U es0 Ak nk ck Av nv cv x _ (below_then hB2.out HB4.out) (HU.out.below HB4.out) HUr.out (below_then hB2.out HB4.out).size HKV.out.1 HKV.out.2.1 HKV.out.2.2.1 HKV.out.2.2.2 rfl (by have := HQ.out.2.2.1; omega)).mono ?_); rintro r w5 ⟨v5, V5, rfl, hv5, hr5, hb5⟩))
          have HN : Hid (SoB w w5 v5 (j + 1)) := hid ⟨putE es0 x, V5, hv5, hr5, put_srt HQ.out.1, by have := put_len' es0 x; have := HQ.out.2.1; omega, by have := put_len' es0 x; have := HQ.out.2.1; omega, fun y hy => (put_mem' hy).elim (HQ.out.2.2.2 y) (fun h => by rw [h]; exact HM.out), below_then (below_then hB2.out HB4.out) hb5⟩
          clear hv5 hr5
          go_roundw
          case rel => exact ⟨j + 1, by omega, by go_num, HN.out⟩
          case measure => simp [intOf]; omega
      · have hd1 : decide ((j : Int) < 60) = false := decide_eq_false (by omega)
        go_wp2
        go_roundw
        case rel => exact ⟨j + 1, by omega, by go_num, HSn.out⟩
        case measure => simp [intOf]; omega
    · obtain rfl : j = n := by omega
      obtain ⟨A2, c2, hv2, hc2, hr2⟩ := REnts_of hU (hUr.mono fun x a hx => hx.below hBw) (by omega)
      subst hv2
      have HR := hid hr2
      have HAll : Hid (AllM es0) := hid (fun i hi => hs4 _ (elt_mem hi))
      have HSr := hid hs1
      clear hr2 hU hUr hs1 hs4 HS
      go_wp2
      go_ret
      exact ⟨A2, c2, es0, rfl, hc2, HR.out, HSr.out, HAll.out, hs3, hBw⟩
end Go.Proofs.Ytkkclkknpjapcaa
/-! ### TbM2 -/
namespace Go.Proofs.Ytkkclkknpjapcaa
open Go.RowKit
set_option linter.unusedVariables false
set_option linter.unusedSimpArgs false

def KeyO (w w' : World) (key : List UInt8) (r : Ending) : Prop := ∃ v, r = .returned v ∧ OB w' w.heap.size v key ∧ Below w.heap.size w w'
set_option maxHeartbeats 8000000 in
set_option maxRecDepth 100000 in
theorem tleast_row (bt : Nat) (es : List EntR) (fil : List UInt8) (w : World) (h : TabR w bt es fil) (hne : 1 ≤ es.length) (hm : AllM es) :
    Calls Try.prog 25 #[.pointer (some ⟨bt, 0, none⟩)] w fun r w' => KeyO w w' (eKey (elt noEnt es 0)) r := by
  have HT := hid h
  obtain ⟨A, n, c, Af, m, cf, h1, h2, hc, _⟩ := h
  have hn := h2.1
  have hmax := h2.2.1
  have q0 := box_at h1 0 _ rfl
  obtain ⟨ad, rfl, hen⟩ := h2.at_ (show 0 < n by omega)
  have hmx := mayE_cases (hm 0 (by omega))
  generalize elt noEnt es 0 = x at *
  obtain ⟨Ak, nk, ck, Av, nv, cv, a0, a1, a2, a3, a4, a5, a6, a7, a8⟩ := hen
  rw [Nat.zero_mul, addr_zero'] at a0 a1 a2 a3 a4
  have hn0 : (0 : Int) < (n : Int) := by omega
  have hn0' : 0 < n := by omega
  have e5 := a5.1
  have e6 := a6.1
  have hnk : nk ≤ 140737488355328 := by omega
  have hnv : nv ≤ 140737488355328 := by omega
  have HKV := hid (⟨a5, a6⟩ : _ ∧ _)
  have hzz : ((es.length : Int) == 0) = false := by rw [beq_eq_false_iff_ne]; omega
  clear h1 h2 a5 a6 hm hmx e5 e6
  go_enter Try.func25, Try.ntmps25
  go_wp2_with (first
    | (go_at_call 19; (with_reducible refine (tlen_any bt es fil _ HT.out).mono ?_); rintro e w1 ⟨rfl, rfl⟩)
    | (go_at_call 61; (with_reducible refine (town_any Ak nk ck (eKey x) (eSeq x) (eGone x) (eTil x) Av nv cv (eVal x) _ HKV.out.1 HKV.out.2 hnk hnv).mono ?_); rintro r w4 ⟨kv, vv, rfl, ok1, ov1, hb4⟩; have ok2 := ok1; obtain ⟨A4, c4, rfl, hr4, hc4⟩ := ok1.open_; have hfd := run_field0 (.slice A4 (eKey x).length c4) vv (.int .i64 (eSeq x)) (.bool (eGone x)) (.int .i64 (eTil x)) w4))
  go_ret
  exact ⟨_, rfl, ok2, hb4⟩
set_option maxHeartbeats 8000000 in
set_option maxRecDepth 100000 in
theorem tmost_row (bt : Nat) (es : List EntR) (fil : List UInt8) (w : World) (h : TabR w bt es fil) (hne : 1 ≤ es.length) (hm : AllM es) :
    Calls Try.prog 26 #[.pointer (some ⟨bt, 0, none⟩)] w fun r w' => KeyO w w' (eKey (elt noEnt es (es.length - 1))) r := by
  have HT := hid h
  obtain ⟨A, n, c, Af, m, cf, h1, h2, hc, _⟩ := h
  have hn := h2.1
  have hmax := h2.2.1
  have q0 := box_at h1 0 _ rfl
  obtain ⟨j, hj⟩ : ∃ j, es.length - 1 = j := ⟨_, rfl⟩
  rw [hj]
  have hji : (n : Int) - 1 = (j : Int) := by omega
  have hjn : j < n := by omega
  have hws : IntKind.i64.wrap (j : Int) = (j : Int) := by rw [IntKind.wrap_i64]; omega
  obtain ⟨ad, rfl, hen⟩ := h2.at_ hjn
  have hmx := mayE_cases (hm j (by omega))
  generalize elt noEnt es j = x at *
  obtain ⟨Ak, nk, ck, Av, nv, cv, a0, a1, a2, a3, a4, a5, a6, a7, a8⟩ := hen
  have e5 := a5.1
  have e6 := a6.1
  have hnk : nk ≤ 140737488355328 := by omega
  have hnv : nv ≤ 140737488355328 := by omega
  have HKV := hid (⟨a5, a6⟩ : _ ∧ _)
  have hzz : ((es.length : Int) == 0) = false := by rw [beq_eq_false_iff_ne]; omega
  clear h1 h2 a5 a6 hm hmx e5 e6 hj
  go_enter Try.func26, Try.ntmps26
  go_wp2_with (go_at_call 19; (with_reducible refine (tlen_any bt es fil _ HT.out).mono ?_); rintro e w1 ⟨rfl, rfl⟩)
  go_still_tail 12, (by kernel_rfl)
  change wpList _ _ _ _ _ w.drew
  have hbd : Below w.heap.size w w.drew := below_drew (Below.refl _ _)
  have HKd := hid (⟨HKV.out.1.drew, HKV.out.2.drew⟩ : _ ∧ _)
  generalize w.drew = w2 at *
  go_wp2_with (go_at_call 61; (with_reducible refine (town_any Ak nk ck (eKey x) (eSeq x) (eGone x) (eTil x) Av nv cv (eVal x) _ HKd.out.1 HKd.out.2 hnk hnv).mono ?_); rintro r w4 ⟨kv, vv, rfl, ok1, ov1, hb4⟩; have ok2 := ok1; obtain ⟨A4, c4, rfl, hr4, hc4⟩ := ok1.open_; have hfd := run_field0 (.slice A4 (eKey x).length c4) vv (.int .i64 (eSeq x)) (.bool (eGone x)) (.int .i64 (eTil x)) w4)
  go_ret
  exact ⟨_, rfl, ok2.mono hbd.size, below_then hbd hb4⟩
theorem refcompare_row (A : Option Addr) (n c : Nat) (xs : List UInt8) (v : Value) (base : Nat) (ys : List UInt8) (w : World) (h : RB w A n xs) (h' : OB w base v ys) :
    Calls Try.prog 24 #[.slice A n c, v] w fun e w' => e = .returned (.int .i64 (cmpB xs ys)) ∧ Below w.heap.size w w' := by
  obtain ⟨A2, c2, rfl, hr, _⟩ := h'.open_
  refine (refcompare_quiet A n c xs A2 _ c2 ys w h hr).mono ?_
  rintro e w' ⟨rfl, m, rfl⟩
  exact ⟨rfl, below_drewN (Below.refl _ _) m⟩
end Go.Proofs.Ytkkclkknpjapcaa
/-! ### TbT2 -/
namespace Go.Proofs.Ytkkclkknpjapcaa
open Go.RowKit
set_option linter.unusedVariables false
set_option linter.unusedSimpArgs false

theorem str_dec (xs ys : List UInt8) : ((bstr xs).toList == (bstr ys).toList) = decide (xs = ys) := by
  rw [bstr_list, bstr_list]
  exact Bool.eq_iff_iff.2 (by simp)
/-- Is a key among the first ones? -/
def thereB (L : List EntR) (key : List UInt8) (k : Nat) : Bool := (L.take k).any fun x => decide (eKey x = key)
theorem there_zero (L : List EntR) (key : List UInt8) : thereB L key 0 = false := rfl
theorem there_succ {L : List EntR} {key : List UInt8} {k : Nat} (hk : k < L.length) : thereB L key (k + 1) = (thereB L key k || decide (eKey (elt noEnt L k) = key)) := by
  unfold thereB
  rw [take_succ_elt noEnt hk, List.any_append]
  simp
theorem there_get {L : List EntR} {key : List UInt8} (hm : AllM L) : (getR key 4611686018427387904 L).2 = thereB L key L.length := by
  unfold thereB
  rw [List.take_length]
  have : ∀ l : List EntR, (∀ x ∈ l, mayE x = true) → (getR key 4611686018427387904 l).2 = l.any fun x => decide (eKey x = key) := by
    intro l
    induction l with
    | nil => intro _; rfl
    | cons x l ih =>
      intro h
      rw [getR, List.any_cons]
      have hx := mayE_cases (h x List.mem_cons_self)
      by_cases hk : eKey x = key
      · rw [if_pos ⟨hk, hx.2.2.2.2⟩, decide_eq_true hk]; rfl
      · rw [if_neg (fun e => hk e.1), decide_eq_false hk, ih (fun y hy => h y (List.mem_cons_of_mem _ hy))]; rfl
  refine this L fun x hx => ?_
  obtain ⟨j, hj, rfl⟩ := mem_elt hx
  exact hm j hj
theorem there_has {L : List EntR} {key : List UInt8} (h : thereB L key L.length = true) : hasB (filtB L) key = true := by
  unfold thereB at h
  rw [List.take_length, List.any_eq_true] at h
  obtain ⟨x, hx, e⟩ := h
  rw [decide_eq_true_iff] at e
  rw [← e]
  exact filt_has hx
/-- Each key lies between the least and the most. -/
theorem key_least {L : List EntR} (hs : Srt L) {k : Nat} (hk : k < L.length) : 0 ≤ cmpB (eKey (elt noEnt L k)) (eKey (elt noEnt L 0)) := by
  rcases Nat.eq_zero_or_pos k with rfl | h0
  · rw [(cmpB_zero _ _).2 rfl]; omega
  · rcases aheadK_iff.1 (hs.at_ 0 k h0 hk) with h | ⟨h, _⟩
    · rw [cmpB_swap]; omega
    · rw [h, (cmpB_zero _ _).2 rfl]; omega
theorem key_most {L : List EntR} (hs : Srt L) {k : Nat} (hk : k < L.length) : cmpB (eKey (elt noEnt L k)) (eKey (elt noEnt L (L.length - 1))) ≤ 0 := by
  rcases Nat.lt_or_ge k (L.length - 1) with h0 | h0
  · rcases aheadK_iff.1 (hs.at_ k (L.length - 1) h0 (by omega)) with h | ⟨h, _⟩
    · omega
    · rw [h, (cmpB_zero _ _).2 rfl]; omega
  · obtain rfl : k = L.length - 1 := by omega
    rw [(cmpB_zero _ _).2 rfl]; omega
theorem refordered_rows {w : World} {base : Nat} {v : Value} {L : List EntR} (h : ROw w base v L) (hs : Srt L) : Calls Try.prog 31 #[v] w fun e w' => e = .returned (.bool true) ∧ Below w.heap.size w w' := by
  obtain ⟨A, c, rfl, _, hr⟩ := h.len h.len_lt
  refine (refordered_any A _ c L w hr).mono ?_
  rintro e w' ⟨rfl, hb⟩
  rw [srtB_true hs]
  exact ⟨rfl, hb⟩
set_option maxHeartbeats 32000000 in
set_option maxRecDepth 100000 in
theorem TableKeys_walk (A : Option Addr) (n c : Nat) (es : List EntR) (Ar : Option Addr) (nr cr : Nat) (key : List UInt8) (w : World) (h : REnts w A n es) (hc : n ≤ c) (hk : RB w Ar nr key) (hkc : nr ≤ cr) (hksz : nr ≤ 140737488351232) :
    Calls Try.prog 9 #[.slice A n c, .slice Ar nr cr] w fun e w' => e = .returned (.bool true) ∧ Below w.heap.size w w' := by
  have H := hid h
  have HK := hid hk
  clear h hk
  go_enter Try.func9, Try.ntmps9
  go_upto_region 2 with (go_at_call 14; (with_reducible refine (tsorted_any A n c es _ H.out).mono ?_); rintro r w1 ⟨A1, c1, L, rfl, hc1, hr1, hs1, hm1, hl1, hb1⟩; have HR1 := hid hr1; have HS1 := hid (⟨hs1, hm1⟩ : _ ∧ _); have HB1 := hid hb1; clear hr1 hs1 hm1 hb1)
  by_cases hL : L.length = 0
  · have HNo : Hid (∀ E, TbC L E → E ≠ 0) := hid (fun E hE e => by
      have := (hE.fit.1 e).1.1
      omega)
    have hz : ((L.length : Int) == 0) = true := by rw [beq_iff_eq]; omega
    clear hL
    go_wp2_with (first
      | (go_at_call 12; (with_reducible refine (tbuild_any A1 L.length c1 L _ HR1.out hc1).mono ?_); rintro r w2 ⟨E2, v2, rfl, hE2, ho2, hb2⟩; have hne := HNo.out E2 hE2; have hneb : ((E2 : Int) != 0) = true := (by simpa using hne); have HB2 := hid (below_then HB1.out hb2); clear hE2 ho2)
      | (go_at_call 11; (with_reducible refine (tawake_any _).mono ?_); rintro e w6 ⟨rfl, hb6⟩; have HB6 := hid (below_then HB2.out hb6)))
    go_ret
    exact ⟨by first | rfl | simp, HB6.out⟩
  · have HFit : Hid (FitT L) := hid (fit_small HS1.out.2 HS1.out.1 (by omega) (by omega))
    go_wp2_with (first
      | (go_at_call 12; (with_reducible refine (build_tab A1 L.length c1 L _ HR1.out hc1 HFit.out).mono ?_); rintro r w2 ⟨A2, n2, c2, rfl, hn2, ho2, hr2, hc2, hb2⟩; have HR2 := hid hr2; have HB2 := hid (below_then HB1.out hb2); have HC2 := hid hb2; clear ho2 hr2 hn2 hb2)
      | (go_at_call 15; (with_reducible refine (open_tab A2 n2 c2 L _ HR2.out hc2 HFit.out).mono ?_); rintro r w3 ⟨bt, rfl, ht3, hb3⟩; have HT3 := hid ht3; have HB3 := hid (below_then HB2.out hb3); have HC3 := hid (below_then HC2.out hb3); clear ht3 hb3))
    have HR3 := hid (HR1.out.below HC3.out)
    have HK3 := hid (HK.out.below HB3.out)
    clear HR1 HK HC3 HC2 HB2 HR2 HB1 H
    go_loopw [10, 39] (fun th i wr => ∃ k : Nat, k ≤ L.length ∧ i = .int .i64 k ∧ th = .bool (thereB L key k) ∧ Below w3.heap.size w3 wr) (fun _ i wr => L.length - (intOf i).toNat)
    case atStart => exact ⟨0, Nat.zero_le _, rfl, rfl, Below.refl _ _⟩
    case round =>
      obtain ⟨k, hk, rfl, rfl, hB⟩ := hrel
      have HTr := hid (HT3.out.below hB)
      have HRr := hid (HR3.out.below hB)
      have HKr := hid (HK3.out.below hB)
      have HBr := hid (below_then HB3.out hB)
      by_cases hlt : k < L.length
      · obtain ⟨ad, rfl, hen⟩ := HRr.out.at_ hlt
        have hsucc := there_succ (key := key) hlt
        have hle := key_least HS1.out.1 hlt
        have hmo := key_most HS1.out.1 hlt
        have hfh := filt_has (elt_mem hlt)
        obtain ⟨C0, hC0⟩ : ∃ C, cmpB (eKey (elt noEnt L k)) (eKey (elt noEnt L 0)) = C := ⟨_, rfl⟩
        obtain ⟨C1, hC1⟩ : ∃ C, cmpB (eKey (elt noEnt L k)) (eKey (elt noEnt L (L.length - 1))) = C := ⟨_, rfl⟩
        rw [hC0] at hle
        rw [hC1] at hmo
        have HC0 := hid hC0
        have HC1 := hid hC1
        have HFh := hid hfh
        obtain ⟨K0, hK0⟩ : ∃ K, eKey (elt noEnt L 0) = K := ⟨_, rfl⟩
        obtain ⟨K1, hK1⟩ : ∃ K, eKey (elt noEnt L (L.length - 1)) = K := ⟨_, rfl⟩
        have HLe := hid (fun (u : World) (hu : Below wr.heap.size wr u) => tleast_row bt L (filtB L) u (HTr.out.below hu) (by omega) HS1.out.2)
        have HMo := hid (fun (u : World) (hu : Below wr.heap.size wr u) => tmost_row bt L (filtB L) u (HTr.out.below hu) (by omega) HS1.out.2)
        rw [hK0] at HLe HC0
        rw [hK1] at HMo HC1
        obtain ⟨TH, hTH⟩ : ∃ T, thereB L key k = T := ⟨_, rfl⟩
        rw [hTH] at hsucc
        have HSu := hid hsucc
        obtain ⟨x, hx⟩ : ∃ x, elt noEnt L k = x := ⟨_, rfl⟩
        rw [hx] at hen HC0 HC1 HFh HSu
        obtain ⟨Ak, nk, ck, Av, nv, cv, a0, a1, a2, a3, a4, a5, a6, a7, a8⟩ := hen
        have hdl : decide (C0 < 0) = false := decide_eq_false (by omega)
        have hdm : decide ((0 : Int) < C1) = false := decide_eq_false (by omega)
        have hbxx := heap_alloc_new wr (.cells #[.slice Ak nk ck, .int .i64 (eSeq x), .bool (eGone x), .int .i64 (eTil x), .slice Av nv cv] 42)
        have hBx := below_alloc' (Below.refl wr.heap.size wr) (.cells #[.slice Ak nk ck, .int .i64 (eSeq x), .bool (eGone x), .int .i64 (eTil x), .slice Av nv cv] 42)
        have HX5 := hid (a5.below hBx)
        rw [hTH]
        clear hsucc hfh hC0 hC1 hK0 hK1 hTH hx a5 a6
        go_upto_region 12 with (fail)
        generalize hW5 : wr.alloc (.cells #[.slice Ak nk ck, .int .i64 (eSeq x), .bool (eGone x), .int .i64 (eTil x), .slice Av nv cv] 42) = W5 at *
        clear hW5
        have g0 := box_at hbxx 0 _ rfl
        have HBx := hid hBx
        have HTW := hid (fun (u : World) (hu : Below W5.heap.size W5 u) => HTr.out.below (below_then HBx.out hu))
        have HLe5 := hid (fun (u : World) (hu : Below W5.heap.size W5 u) => HLe.out u (below_then HBx.out hu))
        have HMo5 := hid (fun (u : World) (hu : Below W5.heap.size W5 u) => HMo.out u (below_then HBx.out hu))
        have HKW := hid (fun (u : World) (hu : Below W5.heap.size W5 u) => HKr.out.below (below_then HBx.out hu))
        have HBW := hid (fun (u : World) (hu : Below W5.heap.size W5 u) => below_then (below_then hB HBx.out) hu)
        clear hbxx hBx hB hle hmo
        apply wp_region_txt [none, none, none, none, none, none, none, none, none, none, none, none, none, none, none, none, none, none, none, none, none, none, none, none, none, none, none, none, none, none, none, none, none, none, none, none, none, none, none, none, none, none, none, some 0, some 1, some 2, some 3, some 4, some 5, some 6, some 7, some 8, some 9, some 10, some 11, some 12, some 13, some 14, some 15, some 16, some 17, some 18, some 19, some 20, none, none, none, none, none, none, none, none, none, none, none, none, none, none, none, none, none, none, none, none, none, none, none, none, none, none, none, none, none, none, none, none, none, none, none, none] [9, 17] [] [_, _, _, _, _, _, _, _, _, undef, _, _, _, _, _, _, _, undef, _, _, _] [[], [], [], [], [], [], [], [], [], _, [], [], [], [], [], [], [], _, [], [], []]
        case hm => rfl
        case hs => rfl
        case hst => kernel_rfl
        case hput => exact OpsOK.cons (fun _ _ => rfl) (OpsOK.cons (fun _ _ => rfl) (OpsOK.cons (fun _ _ => rfl) (OpsOK.cons (fun _ _ => rfl) (OpsOK.cons (fun _ _ => rfl) (OpsOK.cons (fun _ _ => rfl) (OpsOK.cons (fun _ _ => rfl) (OpsOK.cons (fun _ _ => rfl) (OpsOK.cons (fun _ _ => rfl) (OpsOK.cons (fun _ _ => rfl) (OpsOK.cons (fun _ _ => rfl) (OpsOK.cons (fun _ _ => rfl) (OpsOK.cons (fun _ _ => rfl) (OpsOK.cons (fun _ _ => rfl) (OpsOK.cons (fun _ _ => rfl) (OpsOK.cons (fun _ _ => rfl) (OpsOK.cons (fun _ _ => rfl) (OpsOK.cons (fun _ _ => rfl) (OpsOK.cons (fun _ _ => rfl) (OpsOK.cons (fun _ _ => rfl) (OpsOK.cons (fun _ _ => rfl) (OpsOK.nil)))))))))))))))))))))
        case hops =>
          refine OpsOK.cons ?_ ?_
          · intro u W K hB hd hK
            replace hK := hk_val hK (by decide) (by rfl)
            clear hd
            simp only [lay, Act.put, List.setIfInBounds_toArray, List.set_cons_zero, List.set_cons_succ] at hK ⊢
            go_simp
            exact hK.out _ _ rfl (Below.refl _ _)
          refine OpsOK.cons ?_ ?_
          · intro u W K hB hd hK
            replace hK := hk_val hK (by decide) (by rfl)
            clear hd
            simp only [lay, Act.put, List.setIfInBounds_toArray, List.set_cons_zero, List.set_cons_succ] at hK ⊢
            go_simp
            exact hK.out _ _ rfl (Below.refl _ _)
          refine OpsOK.cons ?_ ?_
          · intro u W K hB hd hK
            have h1 := fact_val (dep_of hd 1 (by kernel_rfl) (by kernel_rfl)) (by decide)
            dsimp only [nth] at h1
            replace hK := hk_val hK (by decide) (by rfl)
            clear hd
            simp only [lay, Act.put, List.setIfInBounds_toArray, List.set_cons_zero, List.set_cons_succ, h1] at hK ⊢
            have y0 := below_cell hB g0
            go_simp
            exact hK.out _ _ rfl (Below.refl _ _)
          refine OpsOK.cons ?_ ?_
          · intro u W K hB hd hK
            have h0 := fact_val (dep_of hd 0 (by kernel_rfl) (by kernel_rfl)) (by decide)
            dsimp only [nth] at h0
            have h2 := fact_val (dep_of hd 2 (by kernel_rfl) (by kernel_rfl)) (by decide)
            dsimp only [nth] at h2
            replace hK := hk_val hK (by decide) (by rfl)
            clear hd
            simp only [lay, Act.put, List.setIfInBounds_toArray, List.set_cons_zero, List.set_cons_succ, h0, h2] at hK ⊢
            go_simp
            first
              | (go_at_call 28; (with_reducible refine (tmay_any bt L (filtB L) Ak nk ck (eKey x) W (HTW.out W hB) (HX5.out.below hB)).mono ?_); rintro r w9 ⟨rfl, hb⟩; rw [HFh.out]; exact hK.out _ _ rfl hb)
              | (go_at_call 25; (with_reducible refine (HLe5.out W hB).mono ?_); rintro r w9 ⟨v9, rfl, ho9, hb9⟩; exact hK.out _ _ ho9 hb9)
              | (go_at_call 26; (with_reducible refine (HMo5.out W hB).mono ?_); rintro r w9 ⟨v9, rfl, ho9, hb9⟩; exact hK.out _ _ ho9 hb9)
              | (go_at_call 24; (with_reducible refine (refcompare_row Ak nk ck (eKey x) _ _ K0 W (HX5.out.below hB) h9).mono ?_); rintro r w9 ⟨rfl, hb⟩; rw [HC0.out]; exact hK.out _ _ rfl hb)
              | (go_at_call 24; (with_reducible refine (refcompare_row Ak nk ck (eKey x) _ _ K1 W (HX5.out.below hB) h17).mono ?_); rintro r w9 ⟨rfl, hb⟩; rw [HC1.out]; exact hK.out _ _ rfl hb)
          refine OpsOK.cons ?_ ?_
          · intro u W K hB hd hK
            have h3 := fact_val (dep_of hd 3 (by kernel_rfl) (by kernel_rfl)) (by decide)
            dsimp only [nth] at h3
            replace hK := hk_val hK (by decide) (by rfl)
            clear hd
            simp only [lay, Act.put, List.setIfInBounds_toArray, List.set_cons_zero, List.set_cons_succ, h3] at hK ⊢
            go_simp
            exact hK.out _ _ rfl (Below.refl _ _)
          refine OpsOK.cons ?_ ?_
          · intro u W K hB hd hK
            have h3 := fact_val (dep_of hd 3 (by kernel_rfl) (by kernel_rfl)) (by decide)
            dsimp only [nth] at h3
            have h4 := fact_val (dep_of hd 4 (by kernel_rfl) (by kernel_rfl)) (by decide)
            dsimp only [nth] at h4
            replace hK := hk_val hK (by decide) (by rfl)
            clear hd
            simp only [lay, Act.put, List.setIfInBounds_toArray, List.set_cons_zero, List.set_cons_succ, h3, h4] at hK ⊢
            go_simp
            exact hK.out _ _ rfl (Below.refl _ _)
          refine OpsOK.cons ?_ ?_
          · intro u W K hB hd hK
            have h5 := fact_val (dep_of hd 5 (by kernel_rfl) (by kernel_rfl)) (by decide)
            dsimp only [nth] at h5
            replace hK := hk_val hK (by decide) (by rfl)
            clear hd
            simp only [lay, Act.put, List.setIfInBounds_toArray, List.set_cons_zero, List.set_cons_succ, h5] at hK ⊢
            go_simp
            exact hK.out _ _ rfl (Below.refl _ _)
          refine OpsOK.cons ?_ ?_
          · intro u W K hB hd hK
            have h5 := fact_val (dep_of hd 5 (by kernel_rfl) (by kernel_rfl)) (by decide)
            dsimp only [nth] at h5
            have h6 := fact_val (dep_of hd 6 (by kernel_rfl) (by kernel_rfl)) (by decide)
            dsimp only [nth] at h6
            replace hK := hk_val hK (by decide) (by rfl)
            clear hd
            simp only [lay, Act.put, List.setIfInBounds_toArray, List.set_cons_zero, List.set_cons_succ, h5, h6] at hK ⊢
            have y0 := below_cell hB g0
            go_simp
            exact hK.out _ _ rfl (Below.refl _ _)
          refine OpsOK.cons ?_ ?_
          · intro u W K hB hd hK
            have h5 := fact_val (dep_of hd 5 (by kernel_rfl) (by kernel_rfl)) (by decide)
            dsimp only [nth] at h5
            replace hK := hk_val hK (by decide) (by rfl)
            clear hd
            simp only [lay, Act.put, List.setIfInBounds_toArray, List.set_cons_zero, List.set_cons_succ, h5] at hK ⊢
            go_simp
            exact hK.out _ _ rfl (Below.refl _ _)
          refine OpsOK.cons ?_ ?_
          · intro u W K hB hd hK
            have h5 := fact_val (dep_of hd 5 (by kernel_rfl) (by kernel_rfl)) (by decide)
            dsimp only [nth] at h5
            have h8 := fact_val (dep_of hd 8 (by kernel_rfl) (by kernel_rfl)) (by decide)
            dsimp only [nth] at h8
            replace hK := hk_row hB hK (by decide) (by rfl)
            clear hd
            simp only [lay, Act.put, List.setIfInBounds_toArray, List.set_cons_zero, List.set_cons_succ, h5, h8] at hK ⊢
            go_simp
            first
              | (go_at_call 28; (with_reducible refine (tmay_any bt L (filtB L) Ak nk ck (eKey x) W (HTW.out W hB) (HX5.out.below hB)).mono ?_); rintro r w9 ⟨rfl, hb⟩; rw [HFh.out]; exact hK.out _ _ rfl hb)
              | (go_at_call 25; (with_reducible refine (HLe5.out W hB).mono ?_); rintro r w9 ⟨v9, rfl, ho9, hb9⟩; exact hK.out _ _ ho9 hb9)
              | (go_at_call 26; (with_reducible refine (HMo5.out W hB).mono ?_); rintro r w9 ⟨v9, rfl, ho9, hb9⟩; exact hK.out _ _ ho9 hb9)
              | (go_at_call 24; (with_reducible refine (refcompare_row Ak nk ck (eKey x) _ _ K0 W (HX5.out.below hB) h9).mono ?_); rintro r w9 ⟨rfl, hb⟩; rw [HC0.out]; exact hK.out _ _ rfl hb)
              | (go_at_call 24; (with_reducible refine (refcompare_row Ak nk ck (eKey x) _ _ K1 W (HX5.out.below hB) h17).mono ?_); rintro r w9 ⟨rfl, hb⟩; rw [HC1.out]; exact hK.out _ _ rfl hb)
          refine OpsOK.cons ?_ ?_
          · intro u W K hB hd hK
            have h5 := fact_val (dep_of hd 5 (by kernel_rfl) (by kernel_rfl)) (by decide)
            dsimp only [nth] at h5
            have h7 := fact_val (dep_of hd 7 (by kernel_rfl) (by kernel_rfl)) (by decide)
            dsimp only [nth] at h7
            have h9 := fact_row (dep_of hd 9 (by kernel_rfl) (by kernel_rfl)) (by decide)
            dsimp only [nth] at h9
            replace hK := hk_val hK (by decide) (by rfl)
            clear hd
            simp only [lay, Act.put, List.setIfInBounds_toArray, List.set_cons_zero, List.set_cons_succ, h5, h7] at hK ⊢
            go_simp
            first
              | (go_at_call 28; (with_reducible refine (tmay_any bt L (filtB L) Ak nk ck (eKey x) W (HTW.out W hB) (HX5.out.below hB)).mono ?_); rintro r w9 ⟨rfl, hb⟩; rw [HFh.out]; exact hK.out _ _ rfl hb)
              | (go_at_call 25; (with_reducible refine (HLe5.out W hB).mono ?_); rintro r w9 ⟨v9, rfl, ho9, hb9⟩; exact hK.out _ _ ho9 hb9)
              | (go_at_call 26; (with_reducible refine (HMo5.out W hB).mono ?_); rintro r w9 ⟨v9, rfl, ho9, hb9⟩; exact hK.out _ _ ho9 hb9)
              | (go_at_call 24; (with_reducible refine (refcompare_row Ak nk ck (eKey x) _ _ K0 W (HX5.out.below hB) h9).mono ?_); rintro r w9 ⟨rfl, hb⟩; rw [HC0.out]; exact hK.out _ _ rfl hb)
              | (go_at_call 24; (with_reducible refine (refcompare_row Ak nk ck (eKey x) _ _ K1 W (HX5.out.below hB) h17).mono ?_); rintro r w9 ⟨rfl, hb⟩; rw [HC1.out]; exact hK.out _ _ rfl hb)
          refine OpsOK.cons ?_ ?_
          · intro u W K hB hd hK
            have h5 := fact_val (dep_of hd 5 (by kernel_rfl) (by kernel_rfl)) (by decide)
            dsimp only [nth] at h5
            have h10 := fact_val (dep_of hd 10 (by kernel_rfl) (by kernel_rfl)) (by decide)
            dsimp only [nth] at h10
            replace hK := hk_val hK (by decide) (by rfl)
            clear hd
            simp only [lay, Act.put, List.setIfInBounds_toArray, List.set_cons_zero, List.set_cons_succ, h5, h10] at hK ⊢
            go_simp
            exact hK.out _ _ rfl (Below.refl _ _)
          refine OpsOK.cons ?_ ?_
          · intro u W K hB hd hK
            have h5 := fact_val (dep_of hd 5 (by kernel_rfl) (by kernel_rfl)) (by decide)
            dsimp only [nth] at h5
            have h11 := fact_val (dep_of hd 11 (by kernel_rfl) (by kernel_rfl)) (by decide)
            dsimp only [nth] at h11
            replace hK := hk_val hK (by decide) (by rfl)
            clear hd
            simp only [lay, Act.put, List.setIfInBounds_toArray, List.set_cons_zero, List.set_cons_succ, h5, h11] at hK ⊢
            go_simp
            exact hK.out _ _ rfl (Below.refl _ _)
          refine OpsOK.cons ?_ ?_
          · intro u W K hB hd hK
            have h10 := fact_val (dep_of hd 10 (by kernel_rfl) (by kernel_rfl)) (by decide)
            dsimp only [nth] at h10
            have h12 := fact_val (dep_of hd 12 (by kernel_rfl) (by kernel_rfl)) (by decide)
            dsimp only [nth] at h12
            replace hK := hk_val hK (by decide) (by rfl)
            clear hd
            simp only [lay, Act.put, List.setIfInBounds_toArray, List.set_cons_zero, List.set_cons_succ, h10, h12] at hK ⊢
            go_simp
            exact hK.out _ _ rfl (Below.refl _ _)
          refine OpsOK.cons ?_ ?_
          · intro u W K hB hd hK
            have h13 := fact_val (dep_of hd 13 (by kernel_rfl) (by kernel_rfl)) (by decide)
            dsimp only [nth] at h13
            replace hK := hk_val hK (by decide) (by rfl)
            clear hd
            simp only [lay, Act.put, List.setIfInBounds_toArray, List.set_cons_zero, List.set_cons_succ, h13] at hK ⊢
            go_simp
            exact hK.out _ _ rfl (Below.refl _ _)
          refine OpsOK.cons ?_ ?_
          · intro u W K hB hd hK
            have h13 := fact_val (dep_of hd 13 (by kernel_rfl) (by kernel_rfl)) (by decide)
            dsimp only [nth] at h13
            have h14 := fact_val (dep_of hd 14 (by kernel_rfl) (by kernel_rfl)) (by decide)
            dsimp only [nth] at h14
            replace hK := hk_val hK (by decide) (by rfl)
            clear hd
            simp only [lay, Act.put, List.setIfInBounds_toArray, List.set_cons_zero, List.set_cons_succ, h13, h14] at hK ⊢
            have y0 := below_cell hB g0
            go_simp
            exact hK.out _ _ rfl (Below.refl _ _)
          refine OpsOK.cons ?_ ?_
          · intro u W K hB hd hK
            have h13 := fact_val (dep_of hd 13 (by kernel_rfl) (by kernel_rfl)) (by decide)
            dsimp only [nth] at h13
            replace hK := hk_val hK (by decide) (by rfl)
            clear hd
            simp only [lay, Act.put, List.setIfInBounds_toArray, List.set_cons_zero, List.set_cons_succ, h13] at hK ⊢
            go_simp
            exact hK.out _ _ rfl (Below.refl _ _)
          refine OpsOK.cons ?_ ?_
          · intro u W K hB hd hK
            have h13 := fact_val (dep_of hd 13 (by kernel_rfl) (by kernel_rfl)) (by decide)
            dsimp only [nth] at h13
            have h16 := fact_val (dep_of hd 16 (by kernel_rfl) (by kernel_rfl)) (by decide)
            dsimp only [nth] at h16
            replace hK := hk_row hB hK (by decide) (by rfl)
            clear hd
            simp only [lay, Act.put, List.setIfInBounds_toArray, List.set_cons_zero, List.set_cons_succ, h13, h16] at hK ⊢
            go_simp
            first
              | (go_at_call 28; (with_reducible refine (tmay_any bt L (filtB L) Ak nk ck (eKey x) W (HTW.out W hB) (HX5.out.below hB)).mono ?_); rintro r w9 ⟨rfl, hb⟩; rw [HFh.out]; exact hK.out _ _ rfl hb)
              | (go_at_call 25; (with_reducible refine (HLe5.out W hB).mono ?_); rintro r w9 ⟨v9, rfl, ho9, hb9⟩; exact hK.out _ _ ho9 hb9)
              | (go_at_call 26; (with_reducible refine (HMo5.out W hB).mono ?_); rintro r w9 ⟨v9, rfl, ho9, hb9⟩; exact hK.out _ _ ho9 hb9)
              | (go_at_call 24; (with_reducible refine (refcompare_row Ak nk ck (eKey x) _ _ K0 W (HX5.out.below hB) h9).mono ?_); rintro r w9 ⟨rfl, hb⟩; rw [HC0.out]; exact hK.out _ _ rfl hb)
              | (go_at_call 24; (with_reducible refine (refcompare_row Ak nk ck (eKey x) _ _ K1 W (HX5.out.below hB) h17).mono ?_); rintro r w9 ⟨rfl, hb⟩; rw [HC1.out]; exact hK.out _ _ rfl hb)
          refine OpsOK.cons ?_ ?_
          · intro u W K hB hd hK
            have h13 := fact_val (dep_of hd 13 (by kernel_rfl) (by kernel_rfl)) (by decide)
            dsimp only [nth] at h13
            have h15 := fact_val (dep_of hd 15 (by kernel_rfl) (by kernel_rfl)) (by decide)
            dsimp only [nth] at h15
            have h17 := fact_row (dep_of hd 17 (by kernel_rfl) (by kernel_rfl)) (by decide)
            dsimp only [nth] at h17
            replace hK := hk_val hK (by decide) (by rfl)
            clear hd
            simp only [lay, Act.put, List.setIfInBounds_toArray, List.set_cons_zero, List.set_cons_succ, h13, h15] at hK ⊢
            go_simp
            first
              | (go_at_call 28; (with_reducible refine (tmay_any bt L (filtB L) Ak nk ck (eKey x) W (HTW.out W hB) (HX5.out.below hB)).mono ?_); rintro r w9 ⟨rfl, hb⟩; rw [HFh.out]; exact hK.out _ _ rfl hb)
              | (go_at_call 25; (with_reducible refine (HLe5.out W hB).mono ?_); rintro r w9 ⟨v9, rfl, ho9, hb9⟩; exact hK.out _ _ ho9 hb9)
              | (go_at_call 26; (with_reducible refine (HMo5.out W hB).mono ?_); rintro r w9 ⟨v9, rfl, ho9, hb9⟩; exact hK.out _ _ ho9 hb9)
              | (go_at_call 24; (with_reducible refine (refcompare_row Ak nk ck (eKey x) _ _ K0 W (HX5.out.below hB) h9).mono ?_); rintro r w9 ⟨rfl, hb⟩; rw [HC0.out]; exact hK.out _ _ rfl hb)
              | (go_at_call 24; (with_reducible refine (refcompare_row Ak nk ck (eKey x) _ _ K1 W (HX5.out.below hB) h17).mono ?_); rintro r w9 ⟨rfl, hb⟩; rw [HC1.out]; exact hK.out _ _ rfl hb)
          refine OpsOK.cons ?_ ?_
          · intro u W K hB hd hK
            have h13 := fact_val (dep_of hd 13 (by kernel_rfl) (by kernel_rfl)) (by decide)
            dsimp only [nth] at h13
            have h18 := fact_val (dep_of hd 18 (by kernel_rfl) (by kernel_rfl)) (by decide)
            dsimp only [nth] at h18
            replace hK := hk_val hK (by decide) (by rfl)
            clear hd
            simp only [lay, Act.put, List.setIfInBounds_toArray, List.set_cons_zero, List.set_cons_succ, h13, h18] at hK ⊢
            go_simp
            exact hK.out _ _ rfl (Below.refl _ _)
          refine OpsOK.cons ?_ ?_
          · intro u W K hB hd hK
            have h13 := fact_val (dep_of hd 13 (by kernel_rfl) (by kernel_rfl)) (by decide)
            dsimp only [nth] at h13
            have h19 := fact_val (dep_of hd 19 (by kernel_rfl) (by kernel_rfl)) (by decide)
            dsimp only [nth] at h19
            replace hK := hk_val hK (by decide) (by rfl)
            clear hd
            simp only [lay, Act.put, List.setIfInBounds_toArray, List.set_cons_zero, List.set_cons_succ, h13, h19] at hK ⊢
            go_simp
            exact hK.out _ _ rfl (Below.refl _ _)
          exact OpsOK.nil
        intro u W hB hf
        have h0 := fact_val (hf 0 (by decide) (by decide)) (by decide)
        dsimp only [nth] at h0
        have h1 := fact_val (hf 1 (by decide) (by decide)) (by decide)
        dsimp only [nth] at h1
        have h2 := fact_val (hf 2 (by decide) (by decide)) (by decide)
        dsimp only [nth] at h2
        have h3 := fact_val (hf 3 (by decide) (by decide)) (by decide)
        dsimp only [nth] at h3
        have h4 := fact_val (hf 4 (by decide) (by decide)) (by decide)
        dsimp only [nth] at h4
        have h5 := fact_val (hf 5 (by decide) (by decide)) (by decide)
        dsimp only [nth] at h5
        have h6 := fact_val (hf 6 (by decide) (by decide)) (by decide)
        dsimp only [nth] at h6
        have h7 := fact_val (hf 7 (by decide) (by decide)) (by decide)
        dsimp only [nth] at h7
        have h8 := fact_val (hf 8 (by decide) (by decide)) (by decide)
        dsimp only [nth] at h8
        have h9 := fact_row (hf 9 (by decide) (by decide)) (by decide)
        dsimp only [nth] at h9
        have h10 := fact_val (hf 10 (by decide) (by decide)) (by decide)
        dsimp only [nth] at h10
        have h11 := fact_val (hf 11 (by decide) (by decide)) (by decide)
        dsimp only [nth] at h11
        have h12 := fact_val (hf 12 (by decide) (by decide)) (by decide)
        dsimp only [nth] at h12
        have h13 := fact_val (hf 13 (by decide) (by decide)) (by decide)
        dsimp only [nth] at h13
        have h14 := fact_val (hf 14 (by decide) (by decide)) (by decide)
        dsimp only [nth] at h14
        have h15 := fact_val (hf 15 (by decide) (by decide)) (by decide)
        dsimp only [nth] at h15
        have h16 := fact_val (hf 16 (by decide) (by decide)) (by decide)
        dsimp only [nth] at h16
        have h17 := fact_row (hf 17 (by decide) (by decide)) (by decide)
        dsimp only [nth] at h17
        have h18 := fact_val (hf 18 (by decide) (by decide)) (by decide)
        dsimp only [nth] at h18
        have h19 := fact_val (hf 19 (by decide) (by decide)) (by decide)
        dsimp only [nth] at h19
        have h20 := fact_val (hf 20 (by decide) (by decide)) (by decide)
        dsimp only [nth] at h20
        clear hf
        simp only [lay, h0, h1, h2, h3, h4, h5, h6, h7, h8, h10, h11, h12, h13, h14, h15, h16, h18, h19, h20]
        clear h0 h1 h2 h3 h4 h5 h6 h7 h8 h10 h11 h12 h13 h14 h15 h16 h18 h19 h20
        have y0 := below_cell hB g0
        have HB9 := hid (HBW.out W hB)
        have hcv1 := (HX5.out.below hB).conv ck
        have hcv2 := (HKW.out W hB).conv cr
        clear h9 h17
        cases TH
        · by_cases heq : eKey x = key
          · have hst : ((bstr (eKey x)).toList == (bstr key).toList) = true := by rw [str_dec]; exact decide_eq_true heq
            have HN : Hid (thereB L key (k + 1) = true) := hid (by rw [HSu.out, decide_eq_true heq]; rfl)
            clear heq
            go_wp2
            go_roundw
            case rel => exact ⟨k + 1, by omega, by go_num, by rw [HN.out], HB9.out⟩
            case measure => simp [intOf]; omega
          · have hst : ((bstr (eKey x)).toList == (bstr key).toList) = false := by rw [str_dec]; exact decide_eq_false heq
            have HN : Hid (thereB L key (k + 1) = false) := hid (by rw [HSu.out, decide_eq_false heq]; rfl)
            clear heq
            go_wp2
            go_roundw
            case rel => exact ⟨k + 1, by omega, by go_num, by rw [HN.out], HB9.out⟩
            case measure => simp [intOf]; omega
        · have HN : Hid (thereB L key (k + 1) = true) := hid (by rw [HSu.out]; rfl)
          go_wp2
          go_roundw
          case rel => exact ⟨k + 1, by omega, by go_num, by rw [HN.out], HB9.out⟩
          case measure => simp [intOf]; omega
      · obtain rfl : k = L.length := by omega
        have hget := there_get (key := key) HS1.out.2
        have hhas := there_has (L := L) (key := key)
        have HGt := hid (tget_any bt L (filtB L) Ar nr cr key 4611686018427387904 wr HTr.out HKr.out HS1.out.1 HS1.out.2 (by omega) (fun x hx => filt_has hx))
        rw [hget] at HGt
        clear hget
        obtain ⟨TH, hTH⟩ : ∃ T, thereB L key L.length = T := ⟨_, rfl⟩
        obtain ⟨HH, hHH⟩ : ∃ T, hasB (filtB L) key = T := ⟨_, rfl⟩
        rw [hTH] at hhas HGt
        rw [hHH] at hhas
        rw [hTH]
        have HHH := hid hHH
        generalize (getR key 4611686018427387904 L).1 = gx at *
        clear hTH hHH
        cases TH
        all_goals cases HH
        all_goals (try (exact absurd (hhas rfl) (by decide)))
        all_goals
          clear hhas
          go_wp2_with (first
            | (go_at_call 20; (with_reducible refine (HGt.out).mono ?_); rintro r w4 ⟨Ag, ng, cg, Avg, nvg, cvg, rfl, hg1, hg2, hb4⟩; have HC4 := hid (below_alloc' hb4 (.cells #[.slice Ag ng cg, .int .i64 (eSeq gx), .bool (eGone gx), .int .i64 (eTil gx), .slice Avg nvg cvg] 42)); have HT4 := hid (HTr.out.below HC4.out); have HK4 := hid (HKr.out.below HC4.out); have HB4 := hid (below_then HBr.out HC4.out); clear hg1 hg2)
            | (go_at_call 28; (with_reducible refine (tmay_any bt L (filtB L) Ar nr cr key _ HT4.out HK4.out).mono ?_); rintro r w5 ⟨rfl, hb5⟩; rw [HHH.out]; have HT5 := hid (HT4.out.below hb5); have HB5 := hid (below_then HB4.out hb5))
            | (go_at_call 18; (with_reducible refine (tall_any bt L (filtB L) _ HT5.out HS1.out.1 HS1.out.2 (by omega)).mono ?_); rintro r w6 ⟨v6, rfl, ho6, hb6⟩; have HO6 := hid ho6; have HB6 := hid (below_then HB5.out hb6); clear ho6)
            | (go_at_call 31; (with_reducible refine (refordered_rows HO6.out HS1.out.1).mono ?_); rintro r w7 ⟨rfl, hb7⟩; have HB7 := hid (below_then HB6.out hb7))
            | (go_at_call 11; (with_reducible refine (tawake_any _).mono ?_); rintro e w8 ⟨rfl, hb8⟩; have HB8 := hid (below_then HB7.out hb8)))
          go_ret
          exact ⟨by first | rfl | simp, HB8.out⟩
end Go.Proofs.Ytkkclkknpjapcaa
/-! ### RG -/
namespace Go.Proofs.Ytkkclkknpjapcaa
open Go.RowKit
set_option linter.unusedVariables false
set_option linter.unusedSimpArgs false

section
variable {P : Program} {ops : Array Oper} {Q : Exit → Act → World → Prop}
def OpOKG (P : Program) (ops : Array Oper) (Q : Exit → Act → World → Prop) (mk : (Nat → Value) → Act) (T : Nat → Value → World → Prop) (w : World) (i : Nat) (o : Oper) : Prop :=
  ∀ (u : Nat → Value) (W : World) (K : Act → World → Prop), Below w.heap.size w W →
    (∀ e ∈ o.after, Region.binds .any e = true → T e.on (u e.on) W) →
    Hid (∀ v W', T i v W' → Below W.heap.size W W' → K ((mk u).put o.dst v) W') →
    if Region.wanted o (yielded ops (mk u).tmps) = true then Oper.wp P o (mk u) W K Q else K ((mk u).put o.dst undef) W
structure InvG (ops : Array Oper) (T : Nat → Value → World → Prop) (w : World) (listed : Array Bool) (u : Nat → Value) (W : World) : Prop where
  below : Below w.heap.size w W
  size : listed.size = ops.size
  facts : ∀ i, listed.getD i false = true → T i (u i) W
def noEat : Nat → Nat := fun _ => 1000000
def statG (ops : Array Oper) : Bool := statOK ops (fun _ => false) noEat (fun _ => none)
theorem inv_anyG {T : Nat → Value → World → Prop} {w : World} {mk : (Nat → Value) → Act} (hst : statG ops = true)
    (hstab : ∀ j v W W', T j v W → Below W.heap.size W W' → T j v W')
    (hput : ∀ i o, ops[i]? = some o → PutOK mk i o) (hops : ∀ i o, ops[i]? = some o → OpOKG P ops Q mk T w i o)
    (hend : ∀ u W, Below w.heap.size w W → (∀ i, i < ops.size → T i (u i) W) → Q .normal (mk u) W) :
    ∀ (fuel : Nat) (listed : Array Bool) (u : Nat → Value) (W : World), InvG ops T w listed u W → listed.toList.count false ≤ fuel → wpAny P .any ops Q fuel listed (mk u) W := by
  have fin : ∀ (listed : Array Bool) (u : Nat → Value) (W : World), InvG ops T w listed u W → Region.ready .any ops listed = [] → Q .normal (mk u) W := fun listed u W h hr =>
    hend u W h.below fun i hi => h.facts i (all_listed hst h.size hr i hi)
  intro fuel
  induction fuel with
  | zero =>
    intro listed u W h hc
    have hr : Region.ready .any ops listed = [] := by
      refine List.eq_nil_iff_forall_not_mem.2 fun i hi => ?_
      obtain ⟨h0, _⟩ := mem_ready.1 hi
      obtain ⟨h1, hlt⟩ := getD_false_of h0
      have : false ∈ listed.toList := by
        simp [hlt] at h1
        rw [← h1]
        simp
      have := List.count_pos_iff.2 this
      omega
    exact ⟨hr, fin listed u W h hr⟩
  | succ fuel ih =>
    intro listed u W h hc
    refine ⟨fin listed u W h, fun i hi => ?_⟩
    obtain ⟨hun, o, ho, hall⟩ := mem_ready.1 hi
    obtain ⟨hunf, hlt⟩ := getD_false_of hun
    refine wpOp_step ho fun K' hK => hops i o ho u W K' h.below (fun e he hb => h.facts e.on (hall e he hb)) fun v W' hT hc' => hK _ _ ?_
    rw [hput i o ho u v]
    refine ih _ _ _ ⟨below_then h.below hc', by simpa using h.size, fun j h1 => ?_⟩ ?_
    · by_cases hji : j = i
      · subst hji; rw [upd_same]; exact hT
      · rw [upd_ne u v hji]
        rw [getD_set_ne false (Ne.symm hji)] at h1
        exact hstab _ _ _ _ (h.facts j h1) hc'
    · have : (listed.setIfInBounds i true).toList.count false = listed.toList.count false - 1 := by
        rw [Array.toList_setIfInBounds, List.count_set (by simpa using hlt)]
        simp [hlt] at hunf
        simp [hunf]
      omega
end
/-- A fact on a value that stays as memory grows. -/
def Stab (q : Value → World → Prop) : Prop := ∀ v W W', q v W → Below W.heap.size W W' → q v W'
def noP : Value → World → Prop := fun _ _ => True
theorem noP_stab : Stab noP := fun _ _ _ _ _ => trivial
inductive StabL : List (Value → World → Prop) → Prop
  | nil : StabL []
  | cons {q : Value → World → Prop} {l : List (Value → World → Prop)} (h : Stab q) (k : StabL l) : StabL (q :: l)
theorem StabL.nth {l : List (Value → World → Prop)} (h : StabL l) : ∀ j, Stab (nth l j noP) := by
  induction h with
  | nil => intro j; exact noP_stab
  | cons h k ih =>
    intro j
    cases j with
    | zero => exact h
    | succ j => exact ih j
def FactsG (ps : List Nat) (vals : List Value) (qs : List (Value → World → Prop)) (i : Nat) (v : Value) (W : World) : Prop :=
  match ps.contains i with
  | true => nth qs i noP v W
  | false => v = nth vals i undef
theorem FactsG.stab {ps : List Nat} {vals : List Value} {qs : List (Value → World → Prop)} (hq : StabL qs) : ∀ j v W W', FactsG ps vals qs j v W → Below W.heap.size W W' → FactsG ps vals qs j v W' := by
  intro j v W W' h hb
  unfold FactsG at *
  cases hr : ps.contains j with
  | true => rw [hr] at h; exact hq.nth j v W W' h hb
  | false => rw [hr] at h; exact h
theorem dep_ofG {o : Oper} {T : Nat → Value → World → Prop} {u : Nat → Value} {W : World} (hd : ∀ e ∈ o.after, Region.binds .any e = true → T e.on (u e.on) W) (d : Nat) (h : (o.after.any fun e => Region.binds .any e && e.on == d) = true) : T d (u d) W := by
  obtain ⟨e, he, hb⟩ := Array.any_eq_true'.1 h
  simp only [Bool.and_eq_true, beq_iff_eq] at hb
  obtain ⟨hb, rfl⟩ := hb
  exact hd e he hb
theorem wp_region_gen {P : Program} {ops : Array Oper} {Q : Exit → Act → World → Prop} {id : Nat} {T : List Value} {D : List Deferred} {w : World} (s : List (Option Nat)) (ps : List Nat) (vals : List Value) (qs : List (Value → World → Prop))
    (hm : P.follows .mixedOrders = true) (hs : lay T s (was T s) = T) (hst : statG ops = true) (hq : StabL qs)
    (hput : OpsOK (PutOK fun u => ⟨(lay T s u).toArray, D⟩) 0 ops.toList)
    (hops : OpsOK (OpOKG P ops Q (fun u => ⟨(lay T s u).toArray, D⟩) (FactsG ps vals qs) w) 0 ops.toList)
    (hend : ∀ u W, Below w.heap.size w W → (∀ i, i < ops.size → FactsG ps vals qs i (u i) W) → Q .normal ⟨(lay T s u).toArray, D⟩ W) :
    (Code.region id ops true).wp P Q ⟨T.toArray, D⟩ w := by
  have get : ∀ {F : Nat → Oper → Prop}, OpsOK F 0 ops.toList → ∀ i o, ops[i]? = some o → F i o := fun h i o ho => by
    have := h.get (i := i) (o := o) (by simpa using ho)
    rwa [Nat.zero_add] at this
  have e : (⟨T.toArray, D⟩ : Act) = (fun u => (⟨(lay T s u).toArray, D⟩ : Act)) (was T s) := by simp only [hs]
  rw [e]
  refine wp_region_any hm (inv_anyG hst (FactsG.stab hq) (get hput) (get hops) hend ops.size _ (was T s) _ ?_ (by simp))
  refine ⟨(Below.refl _ w).drew, by simp, fun i h => ?_⟩
  exfalso; simp [Array.getElem?_replicate] at h; split at h <;> cases h
section
variable {o : Oper} {a : Act} {w W : World} {K : Act → World → Prop} {ps : List Nat} {vals : List Value} {qs : List (Value → World → Prop)} {i : Nat}
theorem hkg_val (hK : Hid (∀ v W', FactsG ps vals qs i v W' → Below W.heap.size W W' → K (a.put o.dst v) W')) (hr : ps.contains i = false) : Hid (∀ v W', v = nth vals i undef → Below W.heap.size W W' → K (a.put o.dst v) W') := fun v W' h1 h2 =>
  hK v W' (by unfold FactsG; rw [hr]; exact h1) h2
theorem hkg_p (hK : Hid (∀ v W', FactsG ps vals qs i v W' → Below W.heap.size W W' → K (a.put o.dst v) W')) (hr : ps.contains i = true) : Hid (∀ v W', nth qs i noP v W' → Below W.heap.size W W' → K (a.put o.dst v) W') := fun v W' h1 h2 =>
  hK v W' (by unfold FactsG; rw [hr]; exact h1) h2
theorem factg_v {v : Value} (h : FactsG ps vals qs i v W) (hr : ps.contains i = false) : v = nth vals i undef := by unfold FactsG at h; rw [hr] at h; exact h
theorem factg_p {v : Value} (h : FactsG ps vals qs i v W) (hr : ps.contains i = true) : nth qs i noP v W := by unfold FactsG at h; rw [hr] at h; exact h
end
/-- A slice of bytes. -/
def PB (xs : List UInt8) : Value → World → Prop := fun v W => ∃ A c, v = .slice A xs.length c ∧ RB W A xs.length xs ∧ xs.length ≤ c
theorem PB_stab (xs : List UInt8) : Stab (PB xs) := fun v W W' h hb => by
  obtain ⟨A, c, e, h1, h2⟩ := h
  exact ⟨A, c, e, h1.below hb, h2⟩
theorem PB.of {W : World} {base : Nat} {v : Value} {xs : List UInt8} (h : OB W base v xs) : PB xs v W := by
  obtain ⟨A, c, e, h1, h2⟩ := h.open_
  exact ⟨A, c, e, h1, h2⟩
theorem PB.conv {W : World} {v : Value} {xs : List UInt8} (h : PB xs v W) : (convert 25 9 v).run Try.prog W = .ok (.string (bstr xs)) W := by
  obtain ⟨A, c, rfl, h1, _⟩ := h
  exact h1.conv c
end Go.Proofs.Ytkkclkknpjapcaa
/-! ### TbT3 -/
namespace Go.Proofs.Ytkkclkknpjapcaa
open Go.RowKit
set_option linter.unusedVariables false
set_option linter.unusedSimpArgs false

/-- A row of entries. -/
def PEn (es : List EntR) : Value → World → Prop := fun v W => ∃ A c, v = .slice A es.length c ∧ es.length ≤ c ∧ REnts W A es.length es
theorem PEn_stab (es : List EntR) : Stab (PEn es) := fun v W W' h hb => by
  obtain ⟨A, c, e, h1, h2⟩ := h
  exact ⟨A, c, e, h1, h2.below hb⟩
theorem PEn.own {w : World} {base : Nat} {v : Value} {es : List EntR} (h : ROw w base v es) : PEn es v w := by
  obtain ⟨A, c, e, h1, h2⟩ := h.len h.len_lt
  exact ⟨A, c, e, h1, h2⟩
theorem PEn.row {w w' : World} {es : List EntR} {r : Ending} (h : RowC w w' es r) (hm : es.length ≤ 9223372036854775807) : ∃ v, r = .returned v ∧ PEn es v w' ∧ Below w.heap.size w w' := by
  obtain ⟨v, V, rfl, h1, h2, h3⟩ := h
  obtain ⟨A, c, e, h4, h5⟩ := REnts_of h1 h2 hm
  exact ⟨v, rfl, ⟨A, c, e, h4, h5⟩, h3⟩
theorem sameentries_p {W : World} {u v : Value} {es : List EntR} (h1 : PEn es u W) (h2 : PEn es v W) : Calls Try.prog 17 #[u, v] W fun e w' => e = .returned (.bool true) ∧ Below W.heap.size W w' := by
  obtain ⟨A, c, rfl, _, h3⟩ := h1
  obtain ⟨A', c', rfl, _, h4⟩ := h2
  exact sameentries_any A c A' c' es.length es W h3 h4
theorem refhas_p {W : World} {u : Value} {bs : List UInt8} (h1 : PB bs u W) (Ar : Option Addr) (nr cr : Nat) (key : List UInt8) (hk : RB W Ar nr key) : Calls Try.prog 29 #[u, .slice Ar nr cr] W fun e w' => e = .returned (.bool (hasB bs key)) ∧ Below W.heap.size W w' := by
  obtain ⟨A, c, rfl, h3, _⟩ := h1
  exact refhas_any A _ c bs Ar nr cr key W h3 hk
theorem RBs.below2 {w w' : World} {A : Option Addr} {n : Nat} {xss : List (List UInt8)} (h : RBs w A n xss) (hb : Below w.heap.size w w') : RBs w' A n xss := h.below hb
theorem listR_le (frm tk : List UInt8) (es : List EntR) : (listR frm tk es).length ≤ es.length := List.length_filter_le _ _
theorem tb_none {L : List EntR} {E : Nat} (h : TbC L E) (hl : L.length = 0) : E = 13 := by
  rcases h with ⟨_, h⟩ | ⟨h, _⟩ | ⟨h, _⟩ | ⟨h, _⟩ | ⟨h, _⟩
  · exact h
  all_goals omega
set_option maxHeartbeats 64000000 in
set_option maxRecDepth 100000 in
theorem TableReads_walk (A : Option Addr) (n c : Nat) (es : List EntR) (Ar : Option Addr) (nr cr : Nat) (key : List UInt8) (Af : Option Addr) (nf cf : Nat) (frm : List UInt8) (At : Option Addr) (nt ct : Nat) (tk : List UInt8) (s : Int) (w : World) (h : REnts w A n es) (hc : n ≤ c) (hk : RB w Ar nr key) (hkc : nr ≤ cr) (hksz : nr ≤ 140737488351232) (hf : RB w Af nf frm) (hfc : nf ≤ cf) (hfsz : nf ≤ 140737488351232) (ht : RB w At nt tk) (htc : nt ≤ ct) (htsz : nt ≤ 140737488351232) (hs : (Lit.int .i64 s).wf = true) :
    Calls Try.prog 7 #[.slice A n c, .slice Ar nr cr, .slice Af nf cf, .slice At nt ct, .int .i64 s] w fun e w' => e = .returned (.bool true) ∧ Below w.heap.size w w' := by
  have H := hid h
  have HK := hid hk
  have HF := hid hf
  have HT := hid ht
  clear h hk hf ht hkc hksz hfc hfsz htc htsz hs
  go_enter Try.func7, Try.ntmps7
  go_upto_region 2 with (go_at_call 14; (with_reducible refine (tsorted_any A n c es _ H.out).mono ?_); rintro r w1 ⟨A1, c1, L, rfl, hc1, hr1, hs1, hm1, hl1, hb1⟩; have HR1 := hid hr1; have HS1 := hid (⟨hs1, hm1⟩ : _ ∧ _); have HB1 := hid hb1; clear hr1 hs1 hm1 hb1)
  by_cases hL : L.length = 0
  · have HNo : Hid (∀ E, TbC L E → E = 13) := hid (fun E hE => tb_none hE hL)
    have hz : ((L.length : Int) == 0) = true := by rw [beq_iff_eq]; omega
    clear hL
    go_wp2_with (first
      | (go_at_call 12; (with_reducible refine (tbuild_any A1 L.length c1 L _ HR1.out hc1).mono ?_); rintro r w2 ⟨E2, v2, rfl, hE2, ho2, hb2⟩; obtain rfl := HNo.out E2 hE2; have HB2 := hid (below_then HB1.out hb2); clear hE2 ho2)
      | (go_at_call 11; (with_reducible refine (tawake_any _).mono ?_); rintro e w6 ⟨rfl, hb6⟩; have HB6 := hid (below_then HB2.out hb6)))
    go_ret
    exact ⟨by first | rfl | simp, HB6.out⟩
  · have HFit : Hid (FitT L) := hid (fit_small HS1.out.2 HS1.out.1 (by omega) (by omega))
    have hzz : ((L.length : Int) == 0) = false := by rw [beq_eq_false_iff_ne]; omega
    go_upto_region 8 with (first
      | (go_at_call 12; (with_reducible refine (build_tab A1 L.length c1 L _ HR1.out hc1 HFit.out).mono ?_); rintro r w2 ⟨A2, n2, c2, rfl, hn2, ho2, hr2, hc2, hb2⟩; have HR2 := hid hr2; have HB2 := hid (below_then HB1.out hb2); have HC2 := hid hb2; clear ho2 hr2 hn2 hb2)
      | (go_at_call 15; (with_reducible refine (open_tab A2 n2 c2 L _ HR2.out hc2 HFit.out).mono ?_); rintro r w3 ⟨bt, rfl, ht3, hb3⟩; have HT3 := hid ht3; have HB3 := hid (below_then HB2.out hb3); have HC3 := hid (below_then HC2.out hb3); clear ht3 hb3))
    have HR3 := hid (HR1.out.below HC3.out)
    have HK3 := hid (HK.out.below HB3.out)
    clear HR1 HC3 HC2 HB2 HR2 HB1 H
    have HGt := hid (tget_any bt L (filtB L) Ar nr cr key s w3 HT3.out HK3.out HS1.out.1 HS1.out.2 (by omega) (fun x hx => filt_has hx))
    obtain ⟨gx, hgx⟩ : ∃ g, (getR key s L).1 = g := ⟨_, rfl⟩
    obtain ⟨gb, hgb⟩ : ∃ g, (getR key s L).2 = g := ⟨_, rfl⟩
    rw [hgx, hgb] at HGt
    have HGx := hid (⟨hgx, hgb⟩ : _ ∧ _)
    clear hgx hgb
    go_upto_region 9 with (go_at_call 20; (with_reducible refine (HGt.out).mono ?_); rintro r w4 ⟨Ag, ng, cg, Avg, nvg, cvg, rfl, hg1, hg2, hb4⟩; have HG4 := hid (⟨hg1, hg2, hb4⟩ : _ ∧ _ ∧ _); clear hg1 hg2 hb4)
    have hx16 := heap_alloc_new w4 (.cells #[.slice Ag ng cg, .int .i64 (eSeq gx), .bool (eGone gx), .int .i64 (eTil gx), .slice Avg nvg cvg] 42)
    have hBa := below_alloc' HG4.out.2.2 (.cells #[.slice Ag ng cg, .int .i64 (eSeq gx), .bool (eGone gx), .int .i64 (eTil gx), .slice Avg nvg cvg] 42)
    have hBb := below_alloc' (Below.refl w4.heap.size w4) (.cells #[.slice Ag ng cg, .int .i64 (eSeq gx), .bool (eGone gx), .int .i64 (eTil gx), .slice Avg nvg cvg] 42)
    have HGk := hid (⟨HG4.out.1.below hBb, HG4.out.2.1.below hBb⟩ : _ ∧ _)
    clear hBb HG4 HGt
    generalize w4.alloc (.cells #[.slice Ag ng cg, .int .i64 (eSeq gx), .bool (eGone gx), .int .i64 (eTil gx), .slice Avg nvg cvg] 42) = W4 at *
    generalize w4.heap.size = b16 at *
    have HR4 := hid (HR3.out.below hBa)
    have HK4 := hid (HK3.out.below hBa)
    have HX16 := hid hx16
    have HBa := hid hBa
    have HRg := hid (refget_any A1 L.length c1 L Ar nr cr key s W4 HR4.out HK4.out)
    rw [HGx.out.1, HGx.out.2] at HRg
    clear hx16 hBa HR3 HK3
    go_upto_region 10 with (go_at_call 23; (with_reducible refine (HRg.out).mono ?_); rintro r w5 ⟨Ah, nh, ch, Avh, nvh, cvh, rfl, hg1, hg2, hb5⟩; have HG5 := hid (⟨hg1, hg2, hb5⟩ : _ ∧ _ ∧ _); clear hg1 hg2 hb5)
    have hx18 := heap_alloc_new w5 (.cells #[.slice Ah nh ch, .int .i64 (eSeq gx), .bool (eGone gx), .int .i64 (eTil gx), .slice Avh nvh cvh] 42)
    have hBc := below_alloc' HG5.out.2.2 (.cells #[.slice Ah nh ch, .int .i64 (eSeq gx), .bool (eGone gx), .int .i64 (eTil gx), .slice Avh nvh cvh] 42)
    have hBd := below_alloc' (Below.refl w5.heap.size w5) (.cells #[.slice Ah nh ch, .int .i64 (eSeq gx), .bool (eGone gx), .int .i64 (eTil gx), .slice Avh nvh cvh] 42)
    have HHk := hid (⟨HG5.out.1.below hBd, HG5.out.2.1.below hBd⟩ : _ ∧ _)
    have HGk5 := hid (⟨HGk.out.1.below hBc, HGk.out.2.below hBc⟩ : _ ∧ _)
    have HX16' := hid (blk_below hBc HX16.out)
    have HR5 := hid (HR4.out.below hBc)
    have HT5 := hid (HT3.out.below (below_then HBa.out hBc))
    have HB5 := hid (below_then (below_then HB3.out HBa.out) hBc)
    have HK5 := hid (HK4.out.below hBc)
    clear hBd HG5 HRg HX16 HR4 HT3 HB3 HK4 HGk HBa
    generalize w5.alloc (.cells #[.slice Ah nh ch, .int .i64 (eSeq gx), .bool (eGone gx), .int .i64 (eTil gx), .slice Avh nvh cvh] 42) = W5 at *
    generalize w5.heap.size = b18 at *
    have HX18 := hid hx18
    clear hx18 hBc
    go_wp2
    go_loopw [20, 65] (fun kv i wr => ∃ (k : Nat) (V : List Value), k ≤ L.length ∧ i = .int .i64 k ∧ OS wr W5.heap.size kv V ∧ RBW W5 V (keysU L k) ∧ Below W5.heap.size W5 wr) (fun _ i wr => L.length - (intOf i).toNat)
    case atStart => exact ⟨0, [], Nat.zero_le _, rfl, OS.nil _ _, RBW.nil _, Below.refl _ _⟩
    case round =>
      obtain ⟨k, V, hk, rfl, hos, hrw, hB⟩ := hrel
      have hVl : V.length ≤ 60 := by have := keysU_len L k; have := hrw.1; omega
      by_cases hlt : k < L.length
      · obtain ⟨ad, rfl, hen⟩ := HR5.out.at_ hlt
        obtain ⟨Ak, nk, ck, Av, nv, cv, a0, a1, a2, a3, a4, a5, a6, a7, a8⟩ := hen
        have hstep : keysU L (k + 1) = if k = 0 ∨ eKey (elt noEnt L (k - 1)) ≠ eKey (elt noEnt L k) then keysU L k ++ [eKey (elt noEnt L k)] else keysU L k := rfl
        have a0 := below_cell hB a0
        have a1 := below_cell hB a1
        have a2 := below_cell hB a2
        have a3 := below_cell hB a3
        have a4 := below_cell hB a4
        by_cases hk0 : k = 0
        · have hkz : ((k : Int) == 0) = true := by rw [beq_iff_eq]; omega
          rw [if_pos (.inl hk0)] at hstep
          have HK2 : Hid (RBW W5 (V ++ [.slice Ak nk ck]) (keysU L (k + 1))) := hid (by rw [hstep]; exact hrw.append (RBW.one a5 a7))
          clear hstep hrw a5 a6 hk0
          go_wp2
          go_quiet (fail)
          go_wp2_with (at_builtin; refine wpS_append1 W5 _ W5.heap.size rfl (.tmp 84) (.tmp 87) rfl _ V rfl (by exact (hos.below (below_alloc' (Below.refl _ _) _)).below (below_drewN (Below.refl _ _) _)) Ak nk ck 1 _ (by first | rfl | simp) rfl (by omega) (below_drewN (below_alloc' hB _) _) (below_drewN (below_alloc' hB _) _).size ?_; intro v1 w1 hown1 hB1)
          go_roundw
          case rel => exact ⟨k + 1, _, by omega, by go_num, hown1, HK2.out, hB1⟩
          case measure => simp [intOf]; omega
        · obtain ⟨j, hj⟩ : ∃ j, k - 1 = j := ⟨_, rfl⟩
          have hkm : (k : Int) - 1 = (j : Int) := by omega
          have hws : IntKind.i64.wrap (j : Int) = (j : Int) := by rw [IntKind.wrap_i64]; omega
          have hjn : j < L.length := by omega
          have hkz : ((k : Int) == 0) = false := by rw [beq_eq_false_iff_ne]; omega
          obtain ⟨ad2, hae, hen2⟩ := HR5.out.at_ hjn
          obtain rfl := Option.some.inj hae
          obtain ⟨Bk, mk, dk, Bv, mv, dv, b0, b1, b2, b3, b4, b5, b6, b7, b8⟩ := hen2
          have b0 := below_cell hB b0
          have b9 : (wr.alloc (.cells #[.slice Ak nk ck, .int .i64 (eSeq (elt noEnt L k)), .bool (eGone (elt noEnt L k)), .int .i64 (eTil (elt noEnt L k)), .slice Av nv cv] 42)).cell? (ad.add (j * 5)) = some (.slice Bk mk dk) := below_cell (below_alloc' (Below.refl _ _) _) b0
          rw [hj] at hstep
          have HKa := hid (a5.below (below_alloc' hB (.cells #[.slice Ak nk ck, .int .i64 (eSeq (elt noEnt L k)), .bool (eGone (elt noEnt L k)), .int .i64 (eTil (elt noEnt L k)), .slice Av nv cv] 42)))
          have HKb := hid (b5.below (below_alloc' hB (.cells #[.slice Ak nk ck, .int .i64 (eSeq (elt noEnt L k)), .bool (eGone (elt noEnt L k)), .int .i64 (eTil (elt noEnt L k)), .slice Av nv cv] 42)))
          obtain ⟨C, hC⟩ : ∃ C, cmpB (eKey (elt noEnt L j)) (eKey (elt noEnt L k)) = C := ⟨_, rfl⟩
          have hCz := cmpB_zero (eKey (elt noEnt L j)) (eKey (elt noEnt L k))
          rw [hC] at hCz
          have HC := hid hC
          by_cases heq : eKey (elt noEnt L j) = eKey (elt noEnt L k)
          · rw [if_neg (by rintro (h | h); exact hk0 h; exact h heq)] at hstep
            have HK2 : Hid (RBW W5 V (keysU L (k + 1))) := hid (by rw [hstep]; exact hrw)
            have hC0 : C = 0 := hCz.2 heq
            subst hC0
            clear hstep hrw a5 a6 b5 b6 heq b1 b2 b3 b4 hae hj hk0 hC hCz
            go_wp2
            go_quiet (first | (go_at_call 24; refine Calls.quiet_of (v := .int .i64 0) ((refcompare_quiet Bk mk dk _ Ak nk ck _ _ (HKb.out.drewN _) (HKa.out.drewN _)).mono ?_); rintro r w1 ⟨rfl, q, hq⟩; exact ⟨by rw [HC.out], q, hq⟩))
            go_wp2
            go_roundw
            case rel => exact ⟨k + 1, V, by omega, by go_num, (hos.below (below_alloc' (Below.refl _ _) _)).below (below_drewN (Below.refl _ _) _), HK2.out, below_drewN (below_alloc' hB _) _⟩
            case measure => simp [intOf]; omega
          · rw [if_pos (.inr heq)] at hstep
            have HK2 : Hid (RBW W5 (V ++ [.slice Ak nk ck]) (keysU L (k + 1))) := hid (by rw [hstep]; exact hrw.append (RBW.one a5 a7))
            have hC0 : (C == 0) = false := by rw [beq_eq_false_iff_ne]; exact fun e => heq (hCz.1 e)
            have hC1 : (C != 0) = true := by rw [bne, hC0]; rfl
            clear hstep hrw a5 a6 b5 b6 heq b1 b2 b3 b4 hae hj hk0 hC hCz
            go_wp2
            go_quiet (first | (go_at_call 24; refine Calls.quiet_of (v := .int .i64 C) ((refcompare_quiet Bk mk dk _ Ak nk ck _ _ (HKb.out.drewN _) (HKa.out.drewN _)).mono ?_); rintro r w1 ⟨rfl, q, hq⟩; exact ⟨by rw [HC.out], q, hq⟩))
            go_wp2_with (at_builtin; refine wpS_append1 W5 _ W5.heap.size rfl (.tmp 84) (.tmp 87) rfl _ V rfl (by exact (hos.below (below_alloc' (Below.refl _ _) _)).below (below_drewN (Below.refl _ _) _)) Ak nk ck 1 _ (by first | rfl | simp) rfl (by omega) (below_drewN (below_alloc' hB _) _) (below_drewN (below_alloc' hB _) _).size ?_; intro v1 w1 hown1 hB1)
            go_roundw
            case rel => exact ⟨k + 1, _, by omega, by go_num, hown1, HK2.out, hB1⟩
            case measure => simp [intOf]; omega
      · obtain rfl : k = L.length := by omega
        obtain ⟨Ak, ck, rfl, hck, hrd⟩ := hos.readsN V.length rfl
        have HKs : Hid (RBs wr Ak V.length (keysU L L.length)) := hid (RBs_of_reads hrd (hrw.below hB) (by omega))
        have HRr := hid (HR5.out.below hB)
        have HTr := hid (HT5.out.below hB)
        have HKr := hid (HK5.out.below hB)
        have HFr := hid (HF.out.below (below_then HB5.out hB))
        have HTk := hid (HT.out.below (below_then HB5.out hB))
        have HGr := hid (⟨HGk5.out.1.below hB, HGk5.out.2.below hB⟩ : _ ∧ _)
        have HHr := hid (⟨HHk.out.1.below hB, HHk.out.2.below hB⟩ : _ ∧ _)
        have hx16 := blk_below hB HX16'.out
        have hx18 := blk_below hB HX18.out
        have HBr := hid (below_then HB5.out hB)
        have hVl2 : V.length ≤ 60 := hVl
        obtain ⟨ad, rfl, hen0⟩ := HRr.out.at_ (show 0 < L.length by omega)
        obtain ⟨jl, hjl⟩ : ∃ j, L.length - 1 = j := ⟨_, rfl⟩
        have hji : (L.length : Int) - 1 = (jl : Int) := by omega
        have hws : IntKind.i64.wrap (jl : Int) = (jl : Int) := by rw [IntKind.wrap_i64]; omega
        have hjn : jl < L.length := by omega
        have hn0 : (0 : Int) < (L.length : Int) := by omega
        have hn0' : 0 < L.length := by omega
        obtain ⟨ad2, hae, hen1⟩ := HRr.out.at_ hjn
        obtain rfl := Option.some.inj hae
        obtain ⟨Bk, mk, dk, _, _, _, b0, _, _, _, _, b5, _, _, _⟩ := hen0
        obtain ⟨Ek, ek, gk, _, _, _, d0, _, _, _, _, d5, _, _, _⟩ := hen1
        rw [Nat.zero_mul, addr_zero'] at b0
        obtain ⟨K0, hK0⟩ : ∃ K, eKey (elt noEnt L 0) = K := ⟨_, rfl⟩
        obtain ⟨K1, hK1⟩ : ∃ K, eKey (elt noEnt L jl) = K := ⟨_, rfl⟩
        rw [hK0] at b5
        rw [hK1] at d5
        have HB05 := hid (⟨b5, d5⟩ : _ ∧ _)
        have HLe := hid (fun (u : World) (hu : Below wr.heap.size wr u) => tleast_row bt L (filtB L) u (HTr.out.below hu) (by omega) HS1.out.2)
        have HMo := hid (fun (u : World) (hu : Below wr.heap.size wr u) => tmost_row bt L (filtB L) u (HTr.out.below hu) (by omega) HS1.out.2)
        rw [hK0] at HLe
        rw [hjl, hK1] at HMo
        have hst0 : ((bstr K0).toList == (bstr K0).toList) = true := by rw [str_dec]; exact decide_eq_true rfl
        have hst1 : ((bstr K1).toList == (bstr K1).toList) = true := by rw [str_dec]; exact decide_eq_true rfl
        have HFlt : Hid (filterB (keysU L L.length) = filtB L) := hid rfl
        obtain ⟨FB, hFB⟩ : ∃ F, filtB L = F := ⟨_, rfl⟩
        rw [hFB] at HFlt HTr
        obtain ⟨HH, hHH⟩ : ∃ T, hasB FB key = T := ⟨_, rfl⟩
        have HHH := hid hHH
        obtain ⟨LR, hLR⟩ : ∃ R, listR frm tk L = R := ⟨_, rfl⟩
        have HLR := hid hLR
        have HLl : Hid (LR.length ≤ L.length) := hid (by rw [← hLR]; exact listR_le _ _ _)
        have HKR := hid (keysU_len L L.length)
        obtain ⟨g0, g1, g2, g3, g4⟩ := box5 hx16
        obtain ⟨e0, e1, e2, e3, e4⟩ := box5 hx18
        have HVL : Hid (V.length ≤ 100000) := hid (by omega)
        have hS60 : L.length ≤ 1000000 := by omega
        clear hos hrd hrw hK0 hK1 hjl hae hFB hHH hLR hx16 hx18 b5 d5 hVl hB hlt HGx
        generalize keysU L L.length = KU at *
        go_wp2
        apply wp_region_gen [none, none, none, none, none, none, none, none, none, none, some 64, none, none, none, none, none, none, none, none, none, none, none, none, none, none, none, none, none, none, none, none, none, none, none, none, none, none, none, none, none, none, none, none, none, none, none, none, none, none, none, none, none, none, none, none, none, none, none, none, none, none, none, none, none, none, none, none, none, none, none, none, none, none, none, none, none, none, none, none, none, none, none, none, none, none, none, none, none, none, none, some 0, some 1, some 2, some 3, some 4, some 5, some 6, some 7, some 8, some 9, some 10, some 11, some 12, some 13, some 14, some 15, some 16, some 17, some 18, some 19, some 20, some 21, some 22, some 23, some 24, some 25, some 26, some 27, some 28, some 29, some 30, some 31, some 32, some 33, some 34, some 35, some 36, some 37, some 38, some 39, some 40, some 41, some 42, some 43, some 44, some 45, some 46, some 47, some 48, some 49, some 50, some 51, some 52, some 53, some 54, some 55, some 56, some 57, some 58, some 59, some 60, some 61, some 62, some 63] [7, 18, 44, 48, 56] [_, _, _, _, _, _, _, undef, _, _, _, _, _, _, _, _, _, _, undef, _, _, _, _, _, _, _, _, _, _, _, _, _, _, _, _, _, _, _, _, _, _, _, _, _, undef, _, _, _, undef, _, _, _, _, _, _, _, undef, _, _, _, _, _, _, _, _] [noP, noP, noP, noP, noP, noP, noP, (PB K0), noP, noP, noP, noP, noP, noP, noP, noP, noP, noP, (PB K1), noP, noP, noP, noP, noP, noP, noP, noP, noP, noP, noP, noP, noP, noP, noP, noP, noP, noP, noP, noP, noP, noP, noP, noP, noP, (PEn LR), noP, noP, noP, (PEn LR), noP, noP, noP, noP, noP, noP, noP, (PB FB), noP, noP, noP, noP, noP, noP, noP, noP]
        case hm => rfl
        case hs => rfl
        case hst => kernel_rfl
        case hq => exact StabL.cons (noP_stab) (StabL.cons (noP_stab) (StabL.cons (noP_stab) (StabL.cons (noP_stab) (StabL.cons (noP_stab) (StabL.cons (noP_stab) (StabL.cons (noP_stab) (StabL.cons (PB_stab _) (StabL.cons (noP_stab) (StabL.cons (noP_stab) (StabL.cons (noP_stab) (StabL.cons (noP_stab) (StabL.cons (noP_stab) (StabL.cons (noP_stab) (StabL.cons (noP_stab) (StabL.cons (noP_stab) (StabL.cons (noP_stab) (StabL.cons (noP_stab) (StabL.cons (PB_stab _) (StabL.cons (noP_stab) (StabL.cons (noP_stab) (StabL.cons (noP_stab) (StabL.cons (noP_stab) (StabL.cons (noP_stab) (StabL.cons (noP_stab) (StabL.cons (noP_stab) (StabL.cons (noP_stab) (StabL.cons (noP_stab) (StabL.cons (noP_stab) (StabL.cons (noP_stab) (StabL.cons (noP_stab) (StabL.cons (noP_stab) (StabL.cons (noP_stab) (StabL.cons (noP_stab) (StabL.cons (noP_stab) (StabL.cons (noP_stab) (StabL.cons (noP_stab) (StabL.cons (noP_stab) (StabL.cons (noP_stab) (StabL.cons (noP_stab) (StabL.cons (noP_stab) (StabL.cons (noP_stab) (StabL.cons (noP_stab) (StabL.cons (noP_stab) (StabL.cons (PEn_stab _) (StabL.cons (noP_stab) (StabL.cons (noP_stab) (StabL.cons (noP_stab) (StabL.cons (PEn_stab _) (StabL.cons (noP_stab) (StabL.cons (noP_stab) (StabL.cons (noP_stab) (StabL.cons (noP_stab) (StabL.cons (noP_stab) (StabL.cons (noP_stab) (StabL.cons (noP_stab) (StabL.cons (PB_stab _) (StabL.cons (noP_stab) (StabL.cons (noP_stab) (StabL.cons (noP_stab) (StabL.cons (noP_stab) (StabL.cons (noP_stab) (StabL.cons (noP_stab) (StabL.cons (noP_stab) (StabL.cons (noP_stab) (StabL.nil)))))))))))))))))))))))))))))))))))))))))))))))))))))))))))))))))
        case hput => exact OpsOK.cons (fun _ _ => rfl) (OpsOK.cons (fun _ _ => rfl) (OpsOK.cons (fun _ _ => rfl) (OpsOK.cons (fun _ _ => rfl) (OpsOK.cons (fun _ _ => rfl) (OpsOK.cons (fun _ _ => rfl) (OpsOK.cons (fun _ _ => rfl) (OpsOK.cons (fun _ _ => rfl) (OpsOK.cons (fun _ _ => rfl) (OpsOK.cons (fun _ _ => rfl) (OpsOK.cons (fun _ _ => rfl) (OpsOK.cons (fun _ _ => rfl) (OpsOK.cons (fun _ _ => rfl) (OpsOK.cons (fun _ _ => rfl) (OpsOK.cons (fun _ _ => rfl) (OpsOK.cons (fun _ _ => rfl) (OpsOK.cons (fun _ _ => rfl) (OpsOK.cons (fun _ _ => rfl) (OpsOK.cons (fun _ _ => rfl) (OpsOK.cons (fun _ _ => rfl) (OpsOK.cons (fun _ _ => rfl) (OpsOK.cons (fun _ _ => rfl) (OpsOK.cons (fun _ _ => rfl) (OpsOK.cons (fun _ _ => rfl) (OpsOK.cons (fun _ _ => rfl) (OpsOK.cons (fun _ _ => rfl) (OpsOK.cons (fun _ _ => rfl) (OpsOK.cons (fun _ _ => rfl) (OpsOK.cons (fun _ _ => rfl) (OpsOK.cons (fun _ _ => rfl) (OpsOK.cons (fun _ _ => rfl) (OpsOK.cons (fun _ _ => rfl) (OpsOK.cons (fun _ _ => rfl) (OpsOK.cons (fun _ _ => rfl) (OpsOK.cons (fun _ _ => rfl) (OpsOK.cons (fun _ _ => rfl) (OpsOK.cons (fun _ _ => rfl) (OpsOK.cons (fun _ _ => rfl) (OpsOK.cons (fun _ _ => rfl) (OpsOK.cons (fun _ _ => rfl) (OpsOK.cons (fun _ _ => rfl) (OpsOK.cons (fun _ _ => rfl) (OpsOK.cons (fun _ _ => rfl) (OpsOK.cons (fun _ _ => rfl) (OpsOK.cons (fun _ _ => rfl) (OpsOK.cons (fun _ _ => rfl) (OpsOK.cons (fun _ _ => rfl) (OpsOK.cons (fun _ _ => rfl) (OpsOK.cons (fun _ _ => rfl) (OpsOK.cons (fun _ _ => rfl) (OpsOK.cons (fun _ _ => rfl) (OpsOK.cons (fun _ _ => rfl) (OpsOK.cons (fun _ _ => rfl) (OpsOK.cons (fun _ _ => rfl) (OpsOK.cons (fun _ _ => rfl) (OpsOK.cons (fun _ _ => rfl) (OpsOK.cons (fun _ _ => rfl) (OpsOK.cons (fun _ _ => rfl) (OpsOK.cons (fun _ _ => rfl) (OpsOK.cons (fun _ _ => rfl) (OpsOK.cons (fun _ _ => rfl) (OpsOK.cons (fun _ _ => rfl) (OpsOK.cons (fun _ _ => rfl) (OpsOK.cons (fun _ _ => rfl) (OpsOK.cons (fun _ _ => rfl) (OpsOK.nil)))))))))))))))))))))))))))))))))))))))))))))))))))))))))))))))))
        case hops =>
          refine OpsOK.cons ?_ ?_
          · intro u W K hB hd hK
            replace hK := hkg_val hK (by decide)
            clear hd
            simp only [lay, Act.put, List.setIfInBounds_toArray, List.set_cons_zero, List.set_cons_succ] at hK ⊢
            go_simp
            exact hK.out _ _ rfl (Below.refl _ _)
          refine OpsOK.cons ?_ ?_
          · intro u W K hB hd hK
            have h0 := factg_v (dep_ofG hd 0 (by kernel_rfl)) (by decide)
            dsimp only [nth] at h0
            replace hK := hkg_val hK (by decide)
            clear hd
            simp only [lay, Act.put, List.setIfInBounds_toArray, List.set_cons_zero, List.set_cons_succ, h0] at hK ⊢
            go_simp
            first
              | (go_at_call 19; (with_reducible refine (tlen_any bt L FB W (HTr.out.below hB)).mono ?_); rintro r w9 ⟨rfl, rfl⟩; exact hK.out _ _ rfl (Below.refl _ _))
              | (go_at_call 25; (with_reducible refine (HLe.out W hB).mono ?_); rintro r w9 ⟨v9, rfl, ho9, hb9⟩; exact hK.out _ _ (PB.of ho9) hb9)
              | (go_at_call 26; (with_reducible refine (HMo.out W hB).mono ?_); rintro r w9 ⟨v9, rfl, ho9, hb9⟩; exact hK.out _ _ (PB.of ho9) hb9)
              | (go_at_call 21; (with_reducible refine (sameentry_any Ag ng cg Avg nvg cvg Ah nh ch Avh nvh cvh (eSeq gx) (eGone gx) (eTil gx) (eKey gx) (eVal gx) W (HGr.out.1.below hB) (HGr.out.2.below hB) (HHr.out.1.below hB) (HHr.out.2.below hB)).mono ?_); rintro r w9 ⟨rfl, hb9⟩; exact hK.out _ _ rfl hb9)
              | (go_at_call 22; (with_reducible refine (tlist_any bt L FB Af nf cf frm At nt ct tk W (HTr.out.below hB) (HFr.out.below hB) (HTk.out.below hB) HS1.out.1 HS1.out.2 hS60).mono ?_); rintro r w9 ⟨v9, rfl, ho9, hb9⟩; rw [HLR.out] at ho9; exact hK.out _ _ (PEn.own ho9) hb9)
              | (go_at_call 27; (with_reducible refine (reflist_any (some ad) L.length c1 L Af nf cf frm At nt ct tk W (HRr.out.below hB) (HFr.out.below hB) (HTk.out.below hB) hS60).mono ?_); intro r w9 hrc; rw [HLR.out] at hrc; obtain ⟨v9, rfl, ho9, hb9⟩ := PEn.row hrc (by have := HLl.out; omega); exact hK.out _ _ ho9 hb9)
              | (go_at_call 17; (with_reducible refine (sameentries_p h44 h48).mono ?_); rintro r w9 ⟨rfl, hb9⟩; exact hK.out _ _ rfl hb9)
              | (go_at_call 28; (with_reducible refine (tmay_any bt L FB Ar nr cr key W (HTr.out.below hB) (HKr.out.below hB)).mono ?_); rintro r w9 ⟨rfl, hb9⟩; rw [HHH.out]; exact hK.out _ _ rfl hb9)
              | (go_at_call 30; (with_reducible refine (filter_any Ak V.length ck KU W (HKs.out.below2 hB) HVL.out).mono ?_); rintro r w9 ⟨v9, rfl, ho9, hb9⟩; rw [HFlt.out] at ho9; exact hK.out _ _ (PB.of ho9) hb9)
              | (go_at_call 29; (with_reducible refine (refhas_p h56 Ar nr cr key (HKr.out.below hB)).mono ?_); rintro r w9 ⟨rfl, hb9⟩; rw [HHH.out]; exact hK.out _ _ rfl hb9)
              | (go_at_call 11; (with_reducible refine (tawake_any _).mono ?_); rintro r w9 ⟨rfl, hb9⟩; exact hK.out _ _ rfl hb9)
              | exact hK.out _ _ rfl (Below.refl _ _)
          refine OpsOK.cons ?_ ?_
          · intro u W K hB hd hK
            replace hK := hkg_val hK (by decide)
            clear hd
            simp only [lay, Act.put, List.setIfInBounds_toArray, List.set_cons_zero, List.set_cons_succ] at hK ⊢
            go_simp
            exact hK.out _ _ rfl (Below.refl _ _)
          refine OpsOK.cons ?_ ?_
          · intro u W K hB hd hK
            have h2 := factg_v (dep_ofG hd 2 (by kernel_rfl)) (by decide)
            dsimp only [nth] at h2
            replace hK := hkg_val hK (by decide)
            clear hd
            simp only [lay, Act.put, List.setIfInBounds_toArray, List.set_cons_zero, List.set_cons_succ, h2] at hK ⊢
            go_simp
            exact hK.out _ _ rfl (Below.refl _ _)
          refine OpsOK.cons ?_ ?_
          · intro u W K hB hd hK
            have h1 := factg_v (dep_ofG hd 1 (by kernel_rfl)) (by decide)
            dsimp only [nth] at h1
            have h3 := factg_v (dep_ofG hd 3 (by kernel_rfl)) (by decide)
            dsimp only [nth] at h3
            replace hK := hkg_val hK (by decide)
            clear hd
            simp only [lay, Act.put, List.setIfInBounds_toArray, List.set_cons_zero, List.set_cons_succ, h1, h3] at hK ⊢
            go_simp
            exact hK.out _ _ rfl (Below.refl _ _)
          refine OpsOK.cons ?_ ?_
          · intro u W K hB hd hK
            have h1 := factg_v (dep_ofG hd 1 (by kernel_rfl)) (by decide)
            dsimp only [nth] at h1
            have h4 := factg_v (dep_ofG hd 4 (by kernel_rfl)) (by decide)
            dsimp only [nth] at h4
            replace hK := hkg_val hK (by decide)
            clear hd
            simp only [lay, Act.put, List.setIfInBounds_toArray, List.set_cons_zero, List.set_cons_succ, h1, h4] at hK ⊢
            go_simp
            exact hK.out _ _ rfl (Below.refl _ _)
          refine OpsOK.cons ?_ ?_
          · intro u W K hB hd hK
            have h5 := factg_v (dep_ofG hd 5 (by kernel_rfl)) (by decide)
            dsimp only [nth] at h5
            replace hK := hkg_val hK (by decide)
            clear hd
            simp only [lay, Act.put, List.setIfInBounds_toArray, List.set_cons_zero, List.set_cons_succ, h5] at hK ⊢
            go_simp
            exact hK.out _ _ rfl (Below.refl _ _)
          refine OpsOK.cons ?_ ?_
          · intro u W K hB hd hK
            have h5 := factg_v (dep_ofG hd 5 (by kernel_rfl)) (by decide)
            dsimp only [nth] at h5
            have h6 := factg_v (dep_ofG hd 6 (by kernel_rfl)) (by decide)
            dsimp only [nth] at h6
            replace hK := hkg_p hK (by decide)
            dsimp only [nth] at hK
            clear hd
            simp only [lay, Act.put, List.setIfInBounds_toArray, List.set_cons_zero, List.set_cons_succ, h5, h6] at hK ⊢
            go_simp
            first
              | (go_at_call 19; (with_reducible refine (tlen_any bt L FB W (HTr.out.below hB)).mono ?_); rintro r w9 ⟨rfl, rfl⟩; exact hK.out _ _ rfl (Below.refl _ _))
              | (go_at_call 25; (with_reducible refine (HLe.out W hB).mono ?_); rintro r w9 ⟨v9, rfl, ho9, hb9⟩; exact hK.out _ _ (PB.of ho9) hb9)
              | (go_at_call 26; (with_reducible refine (HMo.out W hB).mono ?_); rintro r w9 ⟨v9, rfl, ho9, hb9⟩; exact hK.out _ _ (PB.of ho9) hb9)
              | (go_at_call 21; (with_reducible refine (sameentry_any Ag ng cg Avg nvg cvg Ah nh ch Avh nvh cvh (eSeq gx) (eGone gx) (eTil gx) (eKey gx) (eVal gx) W (HGr.out.1.below hB) (HGr.out.2.below hB) (HHr.out.1.below hB) (HHr.out.2.below hB)).mono ?_); rintro r w9 ⟨rfl, hb9⟩; exact hK.out _ _ rfl hb9)
              | (go_at_call 22; (with_reducible refine (tlist_any bt L FB Af nf cf frm At nt ct tk W (HTr.out.below hB) (HFr.out.below hB) (HTk.out.below hB) HS1.out.1 HS1.out.2 hS60).mono ?_); rintro r w9 ⟨v9, rfl, ho9, hb9⟩; rw [HLR.out] at ho9; exact hK.out _ _ (PEn.own ho9) hb9)
              | (go_at_call 27; (with_reducible refine (reflist_any (some ad) L.length c1 L Af nf cf frm At nt ct tk W (HRr.out.below hB) (HFr.out.below hB) (HTk.out.below hB) hS60).mono ?_); intro r w9 hrc; rw [HLR.out] at hrc; obtain ⟨v9, rfl, ho9, hb9⟩ := PEn.row hrc (by have := HLl.out; omega); exact hK.out _ _ ho9 hb9)
              | (go_at_call 17; (with_reducible refine (sameentries_p h44 h48).mono ?_); rintro r w9 ⟨rfl, hb9⟩; exact hK.out _ _ rfl hb9)
              | (go_at_call 28; (with_reducible refine (tmay_any bt L FB Ar nr cr key W (HTr.out.below hB) (HKr.out.below hB)).mono ?_); rintro r w9 ⟨rfl, hb9⟩; rw [HHH.out]; exact hK.out _ _ rfl hb9)
              | (go_at_call 30; (with_reducible refine (filter_any Ak V.length ck KU W (HKs.out.below2 hB) HVL.out).mono ?_); rintro r w9 ⟨v9, rfl, ho9, hb9⟩; rw [HFlt.out] at ho9; exact hK.out _ _ (PB.of ho9) hb9)
              | (go_at_call 29; (with_reducible refine (refhas_p h56 Ar nr cr key (HKr.out.below hB)).mono ?_); rintro r w9 ⟨rfl, hb9⟩; rw [HHH.out]; exact hK.out _ _ rfl hb9)
              | (go_at_call 11; (with_reducible refine (tawake_any _).mono ?_); rintro r w9 ⟨rfl, hb9⟩; exact hK.out _ _ rfl hb9)
              | exact hK.out _ _ rfl (Below.refl _ _)
          refine OpsOK.cons ?_ ?_
          · intro u W K hB hd hK
            have h5 := factg_v (dep_ofG hd 5 (by kernel_rfl)) (by decide)
            dsimp only [nth] at h5
            have h7 := factg_p (dep_ofG hd 7 (by kernel_rfl)) (by decide)
            dsimp only [nth] at h7
            replace hK := hkg_val hK (by decide)
            clear hd
            simp only [lay, Act.put, List.setIfInBounds_toArray, List.set_cons_zero, List.set_cons_succ, h5] at hK ⊢
            have hcv := PB.conv h7
            go_simp
            exact hK.out _ _ rfl (Below.refl _ _)
          refine OpsOK.cons ?_ ?_
          · intro u W K hB hd hK
            have h5 := factg_v (dep_ofG hd 5 (by kernel_rfl)) (by decide)
            dsimp only [nth] at h5
            replace hK := hkg_val hK (by decide)
            clear hd
            simp only [lay, Act.put, List.setIfInBounds_toArray, List.set_cons_zero, List.set_cons_succ, h5] at hK ⊢
            go_simp
            exact hK.out _ _ rfl (Below.refl _ _)
          refine OpsOK.cons ?_ ?_
          · intro u W K hB hd hK
            have h5 := factg_v (dep_ofG hd 5 (by kernel_rfl)) (by decide)
            dsimp only [nth] at h5
            have h9 := factg_v (dep_ofG hd 9 (by kernel_rfl)) (by decide)
            dsimp only [nth] at h9
            replace hK := hkg_val hK (by decide)
            clear hd
            simp only [lay, Act.put, List.setIfInBounds_toArray, List.set_cons_zero, List.set_cons_succ, h5, h9] at hK ⊢
            go_simp
            exact hK.out _ _ rfl (Below.refl _ _)
          refine OpsOK.cons ?_ ?_
          · intro u W K hB hd hK
            have h5 := factg_v (dep_ofG hd 5 (by kernel_rfl)) (by decide)
            dsimp only [nth] at h5
            have h10 := factg_v (dep_ofG hd 10 (by kernel_rfl)) (by decide)
            dsimp only [nth] at h10
            replace hK := hkg_val hK (by decide)
            clear hd
            simp only [lay, Act.put, List.setIfInBounds_toArray, List.set_cons_zero, List.set_cons_succ, h5, h10] at hK ⊢
            go_simp
            exact hK.out _ _ rfl (Below.refl _ _)
          refine OpsOK.cons ?_ ?_
          · intro u W K hB hd hK
            have h5 := factg_v (dep_ofG hd 5 (by kernel_rfl)) (by decide)
            dsimp only [nth] at h5
            have h11 := factg_v (dep_ofG hd 11 (by kernel_rfl)) (by decide)
            dsimp only [nth] at h11
            replace hK := hkg_val hK (by decide)
            clear hd
            simp only [lay, Act.put, List.setIfInBounds_toArray, List.set_cons_zero, List.set_cons_succ, h5, h11] at hK ⊢
            have y0 := below_cell hB b0
            go_simp
            exact hK.out _ _ rfl (Below.refl _ _)
          refine OpsOK.cons ?_ ?_
          · intro u W K hB hd hK
            have h5 := factg_v (dep_ofG hd 5 (by kernel_rfl)) (by decide)
            dsimp only [nth] at h5
            have h12 := factg_v (dep_ofG hd 12 (by kernel_rfl)) (by decide)
            dsimp only [nth] at h12
            replace hK := hkg_val hK (by decide)
            clear hd
            simp only [lay, Act.put, List.setIfInBounds_toArray, List.set_cons_zero, List.set_cons_succ, h5, h12] at hK ⊢
            have hcv := (HB05.out.1.below hB).conv dk
            go_simp
            exact hK.out _ _ rfl (Below.refl _ _)
          refine OpsOK.cons ?_ ?_
          · intro u W K hB hd hK
            have h5 := factg_v (dep_ofG hd 5 (by kernel_rfl)) (by decide)
            dsimp only [nth] at h5
            have h8 := factg_v (dep_ofG hd 8 (by kernel_rfl)) (by decide)
            dsimp only [nth] at h8
            have h13 := factg_v (dep_ofG hd 13 (by kernel_rfl)) (by decide)
            dsimp only [nth] at h13
            replace hK := hkg_val hK (by decide)
            clear hd
            simp only [lay, Act.put, List.setIfInBounds_toArray, List.set_cons_zero, List.set_cons_succ, h5, h8, h13] at hK ⊢
            go_simp
            exact hK.out _ _ rfl (Below.refl _ _)
          refine OpsOK.cons ?_ ?_
          · intro u W K hB hd hK
            have h5 := factg_v (dep_ofG hd 5 (by kernel_rfl)) (by decide)
            dsimp only [nth] at h5
            have h14 := factg_v (dep_ofG hd 14 (by kernel_rfl)) (by decide)
            dsimp only [nth] at h14
            replace hK := hkg_val hK (by decide)
            clear hd
            simp only [lay, Act.put, List.setIfInBounds_toArray, List.set_cons_zero, List.set_cons_succ, h5, h14] at hK ⊢
            go_simp
            exact hK.out _ _ rfl (Below.refl _ _)
          refine OpsOK.cons ?_ ?_
          · intro u W K hB hd hK
            have h7 := factg_p (dep_ofG hd 7 (by kernel_rfl)) (by decide)
            dsimp only [nth] at h7
            have h15 := factg_v (dep_ofG hd 15 (by kernel_rfl)) (by decide)
            dsimp only [nth] at h15
            replace hK := hkg_val hK (by decide)
            clear hd
            simp only [lay, Act.put, List.setIfInBounds_toArray, List.set_cons_zero, List.set_cons_succ, h15] at hK ⊢
            go_simp
            exact hK.out _ _ rfl (Below.refl _ _)
          refine OpsOK.cons ?_ ?_
          · intro u W K hB hd hK
            have h16 := factg_v (dep_ofG hd 16 (by kernel_rfl)) (by decide)
            dsimp only [nth] at h16
            replace hK := hkg_val hK (by decide)
            clear hd
            simp only [lay, Act.put, List.setIfInBounds_toArray, List.set_cons_zero, List.set_cons_succ, h16] at hK ⊢
            go_simp
            exact hK.out _ _ rfl (Below.refl _ _)
          refine OpsOK.cons ?_ ?_
          · intro u W K hB hd hK
            have h16 := factg_v (dep_ofG hd 16 (by kernel_rfl)) (by decide)
            dsimp only [nth] at h16
            have h17 := factg_v (dep_ofG hd 17 (by kernel_rfl)) (by decide)
            dsimp only [nth] at h17
            replace hK := hkg_p hK (by decide)
            dsimp only [nth] at hK
            clear hd
            simp only [lay, Act.put, List.setIfInBounds_toArray, List.set_cons_zero, List.set_cons_succ, h16, h17] at hK ⊢
            go_simp
            first
              | (go_at_call 19; (with_reducible refine (tlen_any bt L FB W (HTr.out.below hB)).mono ?_); rintro r w9 ⟨rfl, rfl⟩; exact hK.out _ _ rfl (Below.refl _ _))
              | (go_at_call 25; (with_reducible refine (HLe.out W hB).mono ?_); rintro r w9 ⟨v9, rfl, ho9, hb9⟩; exact hK.out _ _ (PB.of ho9) hb9)
              | (go_at_call 26; (with_reducible refine (HMo.out W hB).mono ?_); rintro r w9 ⟨v9, rfl, ho9, hb9⟩; exact hK.out _ _ (PB.of ho9) hb9)
              | (go_at_call 21; (with_reducible refine (sameentry_any Ag ng cg Avg nvg cvg Ah nh ch Avh nvh cvh (eSeq gx) (eGone gx) (eTil gx) (eKey gx) (eVal gx) W (HGr.out.1.below hB) (HGr.out.2.below hB) (HHr.out.1.below hB) (HHr.out.2.below hB)).mono ?_); rintro r w9 ⟨rfl, hb9⟩; exact hK.out _ _ rfl hb9)
              | (go_at_call 22; (with_reducible refine (tlist_any bt L FB Af nf cf frm At nt ct tk W (HTr.out.below hB) (HFr.out.below hB) (HTk.out.below hB) HS1.out.1 HS1.out.2 hS60).mono ?_); rintro r w9 ⟨v9, rfl, ho9, hb9⟩; rw [HLR.out] at ho9; exact hK.out _ _ (PEn.own ho9) hb9)
              | (go_at_call 27; (with_reducible refine (reflist_any (some ad) L.length c1 L Af nf cf frm At nt ct tk W (HRr.out.below hB) (HFr.out.below hB) (HTk.out.below hB) hS60).mono ?_); intro r w9 hrc; rw [HLR.out] at hrc; obtain ⟨v9, rfl, ho9, hb9⟩ := PEn.row hrc (by have := HLl.out; omega); exact hK.out _ _ ho9 hb9)
              | (go_at_call 17; (with_reducible refine (sameentries_p h44 h48).mono ?_); rintro r w9 ⟨rfl, hb9⟩; exact hK.out _ _ rfl hb9)
              | (go_at_call 28; (with_reducible refine (tmay_any bt L FB Ar nr cr key W (HTr.out.below hB) (HKr.out.below hB)).mono ?_); rintro r w9 ⟨rfl, hb9⟩; rw [HHH.out]; exact hK.out _ _ rfl hb9)
              | (go_at_call 30; (with_reducible refine (filter_any Ak V.length ck KU W (HKs.out.below2 hB) HVL.out).mono ?_); rintro r w9 ⟨v9, rfl, ho9, hb9⟩; rw [HFlt.out] at ho9; exact hK.out _ _ (PB.of ho9) hb9)
              | (go_at_call 29; (with_reducible refine (refhas_p h56 Ar nr cr key (HKr.out.below hB)).mono ?_); rintro r w9 ⟨rfl, hb9⟩; rw [HHH.out]; exact hK.out _ _ rfl hb9)
              | (go_at_call 11; (with_reducible refine (tawake_any _).mono ?_); rintro r w9 ⟨rfl, hb9⟩; exact hK.out _ _ rfl hb9)
              | exact hK.out _ _ rfl (Below.refl _ _)
          refine OpsOK.cons ?_ ?_
          · intro u W K hB hd hK
            have h16 := factg_v (dep_ofG hd 16 (by kernel_rfl)) (by decide)
            dsimp only [nth] at h16
            have h18 := factg_p (dep_ofG hd 18 (by kernel_rfl)) (by decide)
            dsimp only [nth] at h18
            replace hK := hkg_val hK (by decide)
            clear hd
            simp only [lay, Act.put, List.setIfInBounds_toArray, List.set_cons_zero, List.set_cons_succ, h16] at hK ⊢
            have hcv := PB.conv h18
            go_simp
            exact hK.out _ _ rfl (Below.refl _ _)
          refine OpsOK.cons ?_ ?_
          · intro u W K hB hd hK
            have h16 := factg_v (dep_ofG hd 16 (by kernel_rfl)) (by decide)
            dsimp only [nth] at h16
            replace hK := hkg_val hK (by decide)
            clear hd
            simp only [lay, Act.put, List.setIfInBounds_toArray, List.set_cons_zero, List.set_cons_succ, h16] at hK ⊢
            go_simp
            exact hK.out _ _ rfl (Below.refl _ _)
          refine OpsOK.cons ?_ ?_
          · intro u W K hB hd hK
            have h16 := factg_v (dep_ofG hd 16 (by kernel_rfl)) (by decide)
            dsimp only [nth] at h16
            replace hK := hkg_val hK (by decide)
            clear hd
            simp only [lay, Act.put, List.setIfInBounds_toArray, List.set_cons_zero, List.set_cons_succ, h16] at hK ⊢
            go_simp
            exact hK.out _ _ rfl (Below.refl _ _)
          refine OpsOK.cons ?_ ?_
          · intro u W K hB hd hK
            have h16 := factg_v (dep_ofG hd 16 (by kernel_rfl)) (by decide)
            dsimp only [nth] at h16
            have h21 := factg_v (dep_ofG hd 21 (by kernel_rfl)) (by decide)
            dsimp only [nth] at h21
            replace hK := hkg_val hK (by decide)
            clear hd
            simp only [lay, Act.put, List.setIfInBounds_toArray, List.set_cons_zero, List.set_cons_succ, h16, h21] at hK ⊢
            go_simp
            exact hK.out _ _ rfl (Below.refl _ _)
          refine OpsOK.cons ?_ ?_
          · intro u W K hB hd hK
            have h16 := factg_v (dep_ofG hd 16 (by kernel_rfl)) (by decide)
            dsimp only [nth] at h16
            have h22 := factg_v (dep_ofG hd 22 (by kernel_rfl)) (by decide)
            dsimp only [nth] at h22
            replace hK := hkg_val hK (by decide)
            clear hd
            simp only [lay, Act.put, List.setIfInBounds_toArray, List.set_cons_zero, List.set_cons_succ, h16, h22] at hK ⊢
            go_simp
            exact hK.out _ _ rfl (Below.refl _ _)
          refine OpsOK.cons ?_ ?_
          · intro u W K hB hd hK
            have h16 := factg_v (dep_ofG hd 16 (by kernel_rfl)) (by decide)
            dsimp only [nth] at h16
            have h20 := factg_v (dep_ofG hd 20 (by kernel_rfl)) (by decide)
            dsimp only [nth] at h20
            have h23 := factg_v (dep_ofG hd 23 (by kernel_rfl)) (by decide)
            dsimp only [nth] at h23
            replace hK := hkg_val hK (by decide)
            clear hd
            simp only [lay, Act.put, List.setIfInBounds_toArray, List.set_cons_zero, List.set_cons_succ, h16, h20, h23] at hK ⊢
            go_simp
            exact hK.out _ _ rfl (Below.refl _ _)
          refine OpsOK.cons ?_ ?_
          · intro u W K hB hd hK
            have h16 := factg_v (dep_ofG hd 16 (by kernel_rfl)) (by decide)
            dsimp only [nth] at h16
            have h24 := factg_v (dep_ofG hd 24 (by kernel_rfl)) (by decide)
            dsimp only [nth] at h24
            replace hK := hkg_val hK (by decide)
            clear hd
            simp only [lay, Act.put, List.setIfInBounds_toArray, List.set_cons_zero, List.set_cons_succ, h16, h24] at hK ⊢
            go_simp
            exact hK.out _ _ rfl (Below.refl _ _)
          refine OpsOK.cons ?_ ?_
          · intro u W K hB hd hK
            have h16 := factg_v (dep_ofG hd 16 (by kernel_rfl)) (by decide)
            dsimp only [nth] at h16
            have h25 := factg_v (dep_ofG hd 25 (by kernel_rfl)) (by decide)
            dsimp only [nth] at h25
            replace hK := hkg_val hK (by decide)
            clear hd
            simp only [lay, Act.put, List.setIfInBounds_toArray, List.set_cons_zero, List.set_cons_succ, h16, h25] at hK ⊢
            have y0 := below_cell hB d0
            go_simp
            exact hK.out _ _ rfl (Below.refl _ _)
          refine OpsOK.cons ?_ ?_
          · intro u W K hB hd hK
            have h16 := factg_v (dep_ofG hd 16 (by kernel_rfl)) (by decide)
            dsimp only [nth] at h16
            have h26 := factg_v (dep_ofG hd 26 (by kernel_rfl)) (by decide)
            dsimp only [nth] at h26
            replace hK := hkg_val hK (by decide)
            clear hd
            simp only [lay, Act.put, List.setIfInBounds_toArray, List.set_cons_zero, List.set_cons_succ, h16, h26] at hK ⊢
            have hcv := (HB05.out.2.below hB).conv gk
            go_simp
            exact hK.out _ _ rfl (Below.refl _ _)
          refine OpsOK.cons ?_ ?_
          · intro u W K hB hd hK
            have h16 := factg_v (dep_ofG hd 16 (by kernel_rfl)) (by decide)
            dsimp only [nth] at h16
            have h19 := factg_v (dep_ofG hd 19 (by kernel_rfl)) (by decide)
            dsimp only [nth] at h19
            have h27 := factg_v (dep_ofG hd 27 (by kernel_rfl)) (by decide)
            dsimp only [nth] at h27
            replace hK := hkg_val hK (by decide)
            clear hd
            simp only [lay, Act.put, List.setIfInBounds_toArray, List.set_cons_zero, List.set_cons_succ, h16, h19, h27] at hK ⊢
            go_simp
            exact hK.out _ _ rfl (Below.refl _ _)
          refine OpsOK.cons ?_ ?_
          · intro u W K hB hd hK
            have h16 := factg_v (dep_ofG hd 16 (by kernel_rfl)) (by decide)
            dsimp only [nth] at h16
            have h28 := factg_v (dep_ofG hd 28 (by kernel_rfl)) (by decide)
            dsimp only [nth] at h28
            replace hK := hkg_val hK (by decide)
            clear hd
            simp only [lay, Act.put, List.setIfInBounds_toArray, List.set_cons_zero, List.set_cons_succ, h16, h28] at hK ⊢
            go_simp
            exact hK.out _ _ rfl (Below.refl _ _)
          refine OpsOK.cons ?_ ?_
          · intro u W K hB hd hK
            have h18 := factg_p (dep_ofG hd 18 (by kernel_rfl)) (by decide)
            dsimp only [nth] at h18
            have h29 := factg_v (dep_ofG hd 29 (by kernel_rfl)) (by decide)
            dsimp only [nth] at h29
            replace hK := hkg_val hK (by decide)
            clear hd
            simp only [lay, Act.put, List.setIfInBounds_toArray, List.set_cons_zero, List.set_cons_succ, h29] at hK ⊢
            go_simp
            exact hK.out _ _ rfl (Below.refl _ _)
          refine OpsOK.cons ?_ ?_
          · intro u W K hB hd hK
            have h30 := factg_v (dep_ofG hd 30 (by kernel_rfl)) (by decide)
            dsimp only [nth] at h30
            replace hK := hkg_val hK (by decide)
            clear hd
            simp only [lay, Act.put, List.setIfInBounds_toArray, List.set_cons_zero, List.set_cons_succ, h30] at hK ⊢
            have y0 := below_cell hB g0
            have y1 := below_cell hB g1
            have y2 := below_cell hB g2
            have y3 := below_cell hB g3
            have y4 := below_cell hB g4
            go_simp
            exact hK.out _ _ rfl (Below.refl _ _)
          refine OpsOK.cons ?_ ?_
          · intro u W K hB hd hK
            have h30 := factg_v (dep_ofG hd 30 (by kernel_rfl)) (by decide)
            dsimp only [nth] at h30
            replace hK := hkg_val hK (by decide)
            clear hd
            simp only [lay, Act.put, List.setIfInBounds_toArray, List.set_cons_zero, List.set_cons_succ, h30] at hK ⊢
            have y0 := below_cell hB e0
            have y1 := below_cell hB e1
            have y2 := below_cell hB e2
            have y3 := below_cell hB e3
            have y4 := below_cell hB e4
            go_simp
            exact hK.out _ _ rfl (Below.refl _ _)
          refine OpsOK.cons ?_ ?_
          · intro u W K hB hd hK
            have h30 := factg_v (dep_ofG hd 30 (by kernel_rfl)) (by decide)
            dsimp only [nth] at h30
            have h31 := factg_v (dep_ofG hd 31 (by kernel_rfl)) (by decide)
            dsimp only [nth] at h31
            have h32 := factg_v (dep_ofG hd 32 (by kernel_rfl)) (by decide)
            dsimp only [nth] at h32
            replace hK := hkg_val hK (by decide)
            clear hd
            simp only [lay, Act.put, List.setIfInBounds_toArray, List.set_cons_zero, List.set_cons_succ, h30, h31, h32] at hK ⊢
            go_simp
            first
              | (go_at_call 19; (with_reducible refine (tlen_any bt L FB W (HTr.out.below hB)).mono ?_); rintro r w9 ⟨rfl, rfl⟩; exact hK.out _ _ rfl (Below.refl _ _))
              | (go_at_call 25; (with_reducible refine (HLe.out W hB).mono ?_); rintro r w9 ⟨v9, rfl, ho9, hb9⟩; exact hK.out _ _ (PB.of ho9) hb9)
              | (go_at_call 26; (with_reducible refine (HMo.out W hB).mono ?_); rintro r w9 ⟨v9, rfl, ho9, hb9⟩; exact hK.out _ _ (PB.of ho9) hb9)
              | (go_at_call 21; (with_reducible refine (sameentry_any Ag ng cg Avg nvg cvg Ah nh ch Avh nvh cvh (eSeq gx) (eGone gx) (eTil gx) (eKey gx) (eVal gx) W (HGr.out.1.below hB) (HGr.out.2.below hB) (HHr.out.1.below hB) (HHr.out.2.below hB)).mono ?_); rintro r w9 ⟨rfl, hb9⟩; exact hK.out _ _ rfl hb9)
              | (go_at_call 22; (with_reducible refine (tlist_any bt L FB Af nf cf frm At nt ct tk W (HTr.out.below hB) (HFr.out.below hB) (HTk.out.below hB) HS1.out.1 HS1.out.2 hS60).mono ?_); rintro r w9 ⟨v9, rfl, ho9, hb9⟩; rw [HLR.out] at ho9; exact hK.out _ _ (PEn.own ho9) hb9)
              | (go_at_call 27; (with_reducible refine (reflist_any (some ad) L.length c1 L Af nf cf frm At nt ct tk W (HRr.out.below hB) (HFr.out.below hB) (HTk.out.below hB) hS60).mono ?_); intro r w9 hrc; rw [HLR.out] at hrc; obtain ⟨v9, rfl, ho9, hb9⟩ := PEn.row hrc (by have := HLl.out; omega); exact hK.out _ _ ho9 hb9)
              | (go_at_call 17; (with_reducible refine (sameentries_p h44 h48).mono ?_); rintro r w9 ⟨rfl, hb9⟩; exact hK.out _ _ rfl hb9)
              | (go_at_call 28; (with_reducible refine (tmay_any bt L FB Ar nr cr key W (HTr.out.below hB) (HKr.out.below hB)).mono ?_); rintro r w9 ⟨rfl, hb9⟩; rw [HHH.out]; exact hK.out _ _ rfl hb9)
              | (go_at_call 30; (with_reducible refine (filter_any Ak V.length ck KU W (HKs.out.below2 hB) HVL.out).mono ?_); rintro r w9 ⟨v9, rfl, ho9, hb9⟩; rw [HFlt.out] at ho9; exact hK.out _ _ (PB.of ho9) hb9)
              | (go_at_call 29; (with_reducible refine (refhas_p h56 Ar nr cr key (HKr.out.below hB)).mono ?_); rintro r w9 ⟨rfl, hb9⟩; rw [HHH.out]; exact hK.out _ _ rfl hb9)
              | (go_at_call 11; (with_reducible refine (tawake_any _).mono ?_); rintro r w9 ⟨rfl, hb9⟩; exact hK.out _ _ rfl hb9)
              | exact hK.out _ _ rfl (Below.refl _ _)
          refine OpsOK.cons ?_ ?_
          · intro u W K hB hd hK
            have h30 := factg_v (dep_ofG hd 30 (by kernel_rfl)) (by decide)
            dsimp only [nth] at h30
            have h33 := factg_v (dep_ofG hd 33 (by kernel_rfl)) (by decide)
            dsimp only [nth] at h33
            replace hK := hkg_val hK (by decide)
            clear hd
            simp only [lay, Act.put, List.setIfInBounds_toArray, List.set_cons_zero, List.set_cons_succ, h30, h33] at hK ⊢
            go_simp
            exact hK.out _ _ rfl (Below.refl _ _)
          refine OpsOK.cons ?_ ?_
          · intro u W K hB hd hK
            have h33 := factg_v (dep_ofG hd 33 (by kernel_rfl)) (by decide)
            dsimp only [nth] at h33
            have h34 := factg_v (dep_ofG hd 34 (by kernel_rfl)) (by decide)
            dsimp only [nth] at h34
            replace hK := hkg_val hK (by decide)
            clear hd
            simp only [lay, Act.put, List.setIfInBounds_toArray, List.set_cons_zero, List.set_cons_succ, h33, h34] at hK ⊢
            go_simp
            exact hK.out _ _ rfl (Below.refl _ _)
          refine OpsOK.cons ?_ ?_
          · intro u W K hB hd hK
            have h35 := factg_v (dep_ofG hd 35 (by kernel_rfl)) (by decide)
            dsimp only [nth] at h35
            replace hK := hkg_val hK (by decide)
            clear hd
            simp only [lay, Act.put, List.setIfInBounds_toArray, List.set_cons_zero, List.set_cons_succ, h35] at hK ⊢
            go_simp
            exact hK.out _ _ rfl (Below.refl _ _)
          refine OpsOK.cons ?_ ?_
          · intro u W K hB hd hK
            have h35 := factg_v (dep_ofG hd 35 (by kernel_rfl)) (by decide)
            dsimp only [nth] at h35
            replace hK := hkg_val hK (by decide)
            clear hd
            simp only [lay, Act.put, List.setIfInBounds_toArray, List.set_cons_zero, List.set_cons_succ, h35] at hK ⊢
            go_simp
            exact hK.out _ _ rfl (Below.refl _ _)
          refine OpsOK.cons ?_ ?_
          · intro u W K hB hd hK
            have h35 := factg_v (dep_ofG hd 35 (by kernel_rfl)) (by decide)
            dsimp only [nth] at h35
            have h36 := factg_v (dep_ofG hd 36 (by kernel_rfl)) (by decide)
            dsimp only [nth] at h36
            have h37 := factg_v (dep_ofG hd 37 (by kernel_rfl)) (by decide)
            dsimp only [nth] at h37
            replace hK := hkg_val hK (by decide)
            clear hd
            simp only [lay, Act.put, List.setIfInBounds_toArray, List.set_cons_zero, List.set_cons_succ, h35, h36, h37] at hK ⊢
            go_simp
            exact hK.out _ _ rfl (Below.refl _ _)
          refine OpsOK.cons ?_ ?_
          · intro u W K hB hd hK
            have h35 := factg_v (dep_ofG hd 35 (by kernel_rfl)) (by decide)
            dsimp only [nth] at h35
            have h38 := factg_v (dep_ofG hd 38 (by kernel_rfl)) (by decide)
            dsimp only [nth] at h38
            replace hK := hkg_val hK (by decide)
            clear hd
            simp only [lay, Act.put, List.setIfInBounds_toArray, List.set_cons_zero, List.set_cons_succ, h35, h38] at hK ⊢
            go_simp
            exact hK.out _ _ rfl (Below.refl _ _)
          refine OpsOK.cons ?_ ?_
          · intro u W K hB hd hK
            have h35 := factg_v (dep_ofG hd 35 (by kernel_rfl)) (by decide)
            dsimp only [nth] at h35
            have h39 := factg_v (dep_ofG hd 39 (by kernel_rfl)) (by decide)
            dsimp only [nth] at h39
            replace hK := hkg_val hK (by decide)
            clear hd
            simp only [lay, Act.put, List.setIfInBounds_toArray, List.set_cons_zero, List.set_cons_succ, h35, h39] at hK ⊢
            go_simp
            exact hK.out _ _ rfl (Below.refl _ _)
          refine OpsOK.cons ?_ ?_
          · intro u W K hB hd hK
            have h40 := factg_v (dep_ofG hd 40 (by kernel_rfl)) (by decide)
            dsimp only [nth] at h40
            replace hK := hkg_val hK (by decide)
            clear hd
            simp only [lay, Act.put, List.setIfInBounds_toArray, List.set_cons_zero, List.set_cons_succ, h40] at hK ⊢
            go_simp
            exact hK.out _ _ rfl (Below.refl _ _)
          refine OpsOK.cons ?_ ?_
          · intro u W K hB hd hK
            have h40 := factg_v (dep_ofG hd 40 (by kernel_rfl)) (by decide)
            dsimp only [nth] at h40
            replace hK := hkg_val hK (by decide)
            clear hd
            simp only [lay, Act.put, List.setIfInBounds_toArray, List.set_cons_zero, List.set_cons_succ, h40] at hK ⊢
            go_simp
            exact hK.out _ _ rfl (Below.refl _ _)
          refine OpsOK.cons ?_ ?_
          · intro u W K hB hd hK
            have h40 := factg_v (dep_ofG hd 40 (by kernel_rfl)) (by decide)
            dsimp only [nth] at h40
            replace hK := hkg_val hK (by decide)
            clear hd
            simp only [lay, Act.put, List.setIfInBounds_toArray, List.set_cons_zero, List.set_cons_succ, h40] at hK ⊢
            go_simp
            exact hK.out _ _ rfl (Below.refl _ _)
          refine OpsOK.cons ?_ ?_
          · intro u W K hB hd hK
            have h40 := factg_v (dep_ofG hd 40 (by kernel_rfl)) (by decide)
            dsimp only [nth] at h40
            have h41 := factg_v (dep_ofG hd 41 (by kernel_rfl)) (by decide)
            dsimp only [nth] at h41
            have h42 := factg_v (dep_ofG hd 42 (by kernel_rfl)) (by decide)
            dsimp only [nth] at h42
            have h43 := factg_v (dep_ofG hd 43 (by kernel_rfl)) (by decide)
            dsimp only [nth] at h43
            replace hK := hkg_p hK (by decide)
            dsimp only [nth] at hK
            clear hd
            simp only [lay, Act.put, List.setIfInBounds_toArray, List.set_cons_zero, List.set_cons_succ, h40, h41, h42, h43] at hK ⊢
            go_simp
            first
              | (go_at_call 19; (with_reducible refine (tlen_any bt L FB W (HTr.out.below hB)).mono ?_); rintro r w9 ⟨rfl, rfl⟩; exact hK.out _ _ rfl (Below.refl _ _))
              | (go_at_call 25; (with_reducible refine (HLe.out W hB).mono ?_); rintro r w9 ⟨v9, rfl, ho9, hb9⟩; exact hK.out _ _ (PB.of ho9) hb9)
              | (go_at_call 26; (with_reducible refine (HMo.out W hB).mono ?_); rintro r w9 ⟨v9, rfl, ho9, hb9⟩; exact hK.out _ _ (PB.of ho9) hb9)
              | (go_at_call 21; (with_reducible refine (sameentry_any Ag ng cg Avg nvg cvg Ah nh ch Avh nvh cvh (eSeq gx) (eGone gx) (eTil gx) (eKey gx) (eVal gx) W (HGr.out.1.below hB) (HGr.out.2.below hB) (HHr.out.1.below hB) (HHr.out.2.below hB)).mono ?_); rintro r w9 ⟨rfl, hb9⟩; exact hK.out _ _ rfl hb9)
              | (go_at_call 22; (with_reducible refine (tlist_any bt L FB Af nf cf frm At nt ct tk W (HTr.out.below hB) (HFr.out.below hB) (HTk.out.below hB) HS1.out.1 HS1.out.2 hS60).mono ?_); rintro r w9 ⟨v9, rfl, ho9, hb9⟩; rw [HLR.out] at ho9; exact hK.out _ _ (PEn.own ho9) hb9)
              | (go_at_call 27; (with_reducible refine (reflist_any (some ad) L.length c1 L Af nf cf frm At nt ct tk W (HRr.out.below hB) (HFr.out.below hB) (HTk.out.below hB) hS60).mono ?_); intro r w9 hrc; rw [HLR.out] at hrc; obtain ⟨v9, rfl, ho9, hb9⟩ := PEn.row hrc (by have := HLl.out; omega); exact hK.out _ _ ho9 hb9)
              | (go_at_call 17; (with_reducible refine (sameentries_p h44 h48).mono ?_); rintro r w9 ⟨rfl, hb9⟩; exact hK.out _ _ rfl hb9)
              | (go_at_call 28; (with_reducible refine (tmay_any bt L FB Ar nr cr key W (HTr.out.below hB) (HKr.out.below hB)).mono ?_); rintro r w9 ⟨rfl, hb9⟩; rw [HHH.out]; exact hK.out _ _ rfl hb9)
              | (go_at_call 30; (with_reducible refine (filter_any Ak V.length ck KU W (HKs.out.below2 hB) HVL.out).mono ?_); rintro r w9 ⟨v9, rfl, ho9, hb9⟩; rw [HFlt.out] at ho9; exact hK.out _ _ (PB.of ho9) hb9)
              | (go_at_call 29; (with_reducible refine (refhas_p h56 Ar nr cr key (HKr.out.below hB)).mono ?_); rintro r w9 ⟨rfl, hb9⟩; rw [HHH.out]; exact hK.out _ _ rfl hb9)
              | (go_at_call 11; (with_reducible refine (tawake_any _).mono ?_); rintro r w9 ⟨rfl, hb9⟩; exact hK.out _ _ rfl hb9)
              | exact hK.out _ _ rfl (Below.refl _ _)
          refine OpsOK.cons ?_ ?_
          · intro u W K hB hd hK
            have h40 := factg_v (dep_ofG hd 40 (by kernel_rfl)) (by decide)
            dsimp only [nth] at h40
            replace hK := hkg_val hK (by decide)
            clear hd
            simp only [lay, Act.put, List.setIfInBounds_toArray, List.set_cons_zero, List.set_cons_succ, h40] at hK ⊢
            go_simp
            exact hK.out _ _ rfl (Below.refl _ _)
          refine OpsOK.cons ?_ ?_
          · intro u W K hB hd hK
            have h40 := factg_v (dep_ofG hd 40 (by kernel_rfl)) (by decide)
            dsimp only [nth] at h40
            replace hK := hkg_val hK (by decide)
            clear hd
            simp only [lay, Act.put, List.setIfInBounds_toArray, List.set_cons_zero, List.set_cons_succ, h40] at hK ⊢
            go_simp
            exact hK.out _ _ rfl (Below.refl _ _)
          refine OpsOK.cons ?_ ?_
          · intro u W K hB hd hK
            have h40 := factg_v (dep_ofG hd 40 (by kernel_rfl)) (by decide)
            dsimp only [nth] at h40
            replace hK := hkg_val hK (by decide)
            clear hd
            simp only [lay, Act.put, List.setIfInBounds_toArray, List.set_cons_zero, List.set_cons_succ, h40] at hK ⊢
            go_simp
            exact hK.out _ _ rfl (Below.refl _ _)
          refine OpsOK.cons ?_ ?_
          · intro u W K hB hd hK
            have h40 := factg_v (dep_ofG hd 40 (by kernel_rfl)) (by decide)
            dsimp only [nth] at h40
            have h44 := factg_p (dep_ofG hd 44 (by kernel_rfl)) (by decide)
            dsimp only [nth] at h44
            have h45 := factg_v (dep_ofG hd 45 (by kernel_rfl)) (by decide)
            dsimp only [nth] at h45
            have h46 := factg_v (dep_ofG hd 46 (by kernel_rfl)) (by decide)
            dsimp only [nth] at h46
            have h47 := factg_v (dep_ofG hd 47 (by kernel_rfl)) (by decide)
            dsimp only [nth] at h47
            replace hK := hkg_p hK (by decide)
            dsimp only [nth] at hK
            clear hd
            simp only [lay, Act.put, List.setIfInBounds_toArray, List.set_cons_zero, List.set_cons_succ, h40, h45, h46, h47] at hK ⊢
            go_simp
            first
              | (go_at_call 19; (with_reducible refine (tlen_any bt L FB W (HTr.out.below hB)).mono ?_); rintro r w9 ⟨rfl, rfl⟩; exact hK.out _ _ rfl (Below.refl _ _))
              | (go_at_call 25; (with_reducible refine (HLe.out W hB).mono ?_); rintro r w9 ⟨v9, rfl, ho9, hb9⟩; exact hK.out _ _ (PB.of ho9) hb9)
              | (go_at_call 26; (with_reducible refine (HMo.out W hB).mono ?_); rintro r w9 ⟨v9, rfl, ho9, hb9⟩; exact hK.out _ _ (PB.of ho9) hb9)
              | (go_at_call 21; (with_reducible refine (sameentry_any Ag ng cg Avg nvg cvg Ah nh ch Avh nvh cvh (eSeq gx) (eGone gx) (eTil gx) (eKey gx) (eVal gx) W (HGr.out.1.below hB) (HGr.out.2.below hB) (HHr.out.1.below hB) (HHr.out.2.below hB)).mono ?_); rintro r w9 ⟨rfl, hb9⟩; exact hK.out _ _ rfl hb9)
              | (go_at_call 22; (with_reducible refine (tlist_any bt L FB Af nf cf frm At nt ct tk W (HTr.out.below hB) (HFr.out.below hB) (HTk.out.below hB) HS1.out.1 HS1.out.2 hS60).mono ?_); rintro r w9 ⟨v9, rfl, ho9, hb9⟩; rw [HLR.out] at ho9; exact hK.out _ _ (PEn.own ho9) hb9)
              | (go_at_call 27; (with_reducible refine (reflist_any (some ad) L.length c1 L Af nf cf frm At nt ct tk W (HRr.out.below hB) (HFr.out.below hB) (HTk.out.below hB) hS60).mono ?_); intro r w9 hrc; rw [HLR.out] at hrc; obtain ⟨v9, rfl, ho9, hb9⟩ := PEn.row hrc (by have := HLl.out; omega); exact hK.out _ _ ho9 hb9)
              | (go_at_call 17; (with_reducible refine (sameentries_p h44 h48).mono ?_); rintro r w9 ⟨rfl, hb9⟩; exact hK.out _ _ rfl hb9)
              | (go_at_call 28; (with_reducible refine (tmay_any bt L FB Ar nr cr key W (HTr.out.below hB) (HKr.out.below hB)).mono ?_); rintro r w9 ⟨rfl, hb9⟩; rw [HHH.out]; exact hK.out _ _ rfl hb9)
              | (go_at_call 30; (with_reducible refine (filter_any Ak V.length ck KU W (HKs.out.below2 hB) HVL.out).mono ?_); rintro r w9 ⟨v9, rfl, ho9, hb9⟩; rw [HFlt.out] at ho9; exact hK.out _ _ (PB.of ho9) hb9)
              | (go_at_call 29; (with_reducible refine (refhas_p h56 Ar nr cr key (HKr.out.below hB)).mono ?_); rintro r w9 ⟨rfl, hb9⟩; rw [HHH.out]; exact hK.out _ _ rfl hb9)
              | (go_at_call 11; (with_reducible refine (tawake_any _).mono ?_); rintro r w9 ⟨rfl, hb9⟩; exact hK.out _ _ rfl hb9)
              | exact hK.out _ _ rfl (Below.refl _ _)
          refine OpsOK.cons ?_ ?_
          · intro u W K hB hd hK
            have h40 := factg_v (dep_ofG hd 40 (by kernel_rfl)) (by decide)
            dsimp only [nth] at h40
            have h44 := factg_p (dep_ofG hd 44 (by kernel_rfl)) (by decide)
            dsimp only [nth] at h44
            have h48 := factg_p (dep_ofG hd 48 (by kernel_rfl)) (by decide)
            dsimp only [nth] at h48
            replace hK := hkg_val hK (by decide)
            clear hd
            simp only [lay, Act.put, List.setIfInBounds_toArray, List.set_cons_zero, List.set_cons_succ, h40] at hK ⊢
            go_simp
            first
              | (go_at_call 19; (with_reducible refine (tlen_any bt L FB W (HTr.out.below hB)).mono ?_); rintro r w9 ⟨rfl, rfl⟩; exact hK.out _ _ rfl (Below.refl _ _))
              | (go_at_call 25; (with_reducible refine (HLe.out W hB).mono ?_); rintro r w9 ⟨v9, rfl, ho9, hb9⟩; exact hK.out _ _ (PB.of ho9) hb9)
              | (go_at_call 26; (with_reducible refine (HMo.out W hB).mono ?_); rintro r w9 ⟨v9, rfl, ho9, hb9⟩; exact hK.out _ _ (PB.of ho9) hb9)
              | (go_at_call 21; (with_reducible refine (sameentry_any Ag ng cg Avg nvg cvg Ah nh ch Avh nvh cvh (eSeq gx) (eGone gx) (eTil gx) (eKey gx) (eVal gx) W (HGr.out.1.below hB) (HGr.out.2.below hB) (HHr.out.1.below hB) (HHr.out.2.below hB)).mono ?_); rintro r w9 ⟨rfl, hb9⟩; exact hK.out _ _ rfl hb9)
              | (go_at_call 22; (with_reducible refine (tlist_any bt L FB Af nf cf frm At nt ct tk W (HTr.out.below hB) (HFr.out.below hB) (HTk.out.below hB) HS1.out.1 HS1.out.2 hS60).mono ?_); rintro r w9 ⟨v9, rfl, ho9, hb9⟩; rw [HLR.out] at ho9; exact hK.out _ _ (PEn.own ho9) hb9)
              | (go_at_call 27; (with_reducible refine (reflist_any (some ad) L.length c1 L Af nf cf frm At nt ct tk W (HRr.out.below hB) (HFr.out.below hB) (HTk.out.below hB) hS60).mono ?_); intro r w9 hrc; rw [HLR.out] at hrc; obtain ⟨v9, rfl, ho9, hb9⟩ := PEn.row hrc (by have := HLl.out; omega); exact hK.out _ _ ho9 hb9)
              | (go_at_call 17; (with_reducible refine (sameentries_p h44 h48).mono ?_); rintro r w9 ⟨rfl, hb9⟩; exact hK.out _ _ rfl hb9)
              | (go_at_call 28; (with_reducible refine (tmay_any bt L FB Ar nr cr key W (HTr.out.below hB) (HKr.out.below hB)).mono ?_); rintro r w9 ⟨rfl, hb9⟩; rw [HHH.out]; exact hK.out _ _ rfl hb9)
              | (go_at_call 30; (with_reducible refine (filter_any Ak V.length ck KU W (HKs.out.below2 hB) HVL.out).mono ?_); rintro r w9 ⟨v9, rfl, ho9, hb9⟩; rw [HFlt.out] at ho9; exact hK.out _ _ (PB.of ho9) hb9)
              | (go_at_call 29; (with_reducible refine (refhas_p h56 Ar nr cr key (HKr.out.below hB)).mono ?_); rintro r w9 ⟨rfl, hb9⟩; rw [HHH.out]; exact hK.out _ _ rfl hb9)
              | (go_at_call 11; (with_reducible refine (tawake_any _).mono ?_); rintro r w9 ⟨rfl, hb9⟩; exact hK.out _ _ rfl hb9)
              | exact hK.out _ _ rfl (Below.refl _ _)
          refine OpsOK.cons ?_ ?_
          · intro u W K hB hd hK
            have h40 := factg_v (dep_ofG hd 40 (by kernel_rfl)) (by decide)
            dsimp only [nth] at h40
            have h49 := factg_v (dep_ofG hd 49 (by kernel_rfl)) (by decide)
            dsimp only [nth] at h49
            replace hK := hkg_val hK (by decide)
            clear hd
            simp only [lay, Act.put, List.setIfInBounds_toArray, List.set_cons_zero, List.set_cons_succ, h40, h49] at hK ⊢
            go_simp
            exact hK.out _ _ rfl (Below.refl _ _)
          refine OpsOK.cons ?_ ?_
          · intro u W K hB hd hK
            have h49 := factg_v (dep_ofG hd 49 (by kernel_rfl)) (by decide)
            dsimp only [nth] at h49
            have h50 := factg_v (dep_ofG hd 50 (by kernel_rfl)) (by decide)
            dsimp only [nth] at h50
            replace hK := hkg_val hK (by decide)
            clear hd
            simp only [lay, Act.put, List.setIfInBounds_toArray, List.set_cons_zero, List.set_cons_succ, h49, h50] at hK ⊢
            go_simp
            exact hK.out _ _ rfl (Below.refl _ _)
          refine OpsOK.cons ?_ ?_
          · intro u W K hB hd hK
            have h51 := factg_v (dep_ofG hd 51 (by kernel_rfl)) (by decide)
            dsimp only [nth] at h51
            replace hK := hkg_val hK (by decide)
            clear hd
            simp only [lay, Act.put, List.setIfInBounds_toArray, List.set_cons_zero, List.set_cons_succ, h51] at hK ⊢
            go_simp
            exact hK.out _ _ rfl (Below.refl _ _)
          refine OpsOK.cons ?_ ?_
          · intro u W K hB hd hK
            have h51 := factg_v (dep_ofG hd 51 (by kernel_rfl)) (by decide)
            dsimp only [nth] at h51
            replace hK := hkg_val hK (by decide)
            clear hd
            simp only [lay, Act.put, List.setIfInBounds_toArray, List.set_cons_zero, List.set_cons_succ, h51] at hK ⊢
            go_simp
            exact hK.out _ _ rfl (Below.refl _ _)
          refine OpsOK.cons ?_ ?_
          · intro u W K hB hd hK
            have h51 := factg_v (dep_ofG hd 51 (by kernel_rfl)) (by decide)
            dsimp only [nth] at h51
            have h52 := factg_v (dep_ofG hd 52 (by kernel_rfl)) (by decide)
            dsimp only [nth] at h52
            have h53 := factg_v (dep_ofG hd 53 (by kernel_rfl)) (by decide)
            dsimp only [nth] at h53
            replace hK := hkg_val hK (by decide)
            clear hd
            simp only [lay, Act.put, List.setIfInBounds_toArray, List.set_cons_zero, List.set_cons_succ, h51, h52, h53] at hK ⊢
            go_simp
            first
              | (go_at_call 19; (with_reducible refine (tlen_any bt L FB W (HTr.out.below hB)).mono ?_); rintro r w9 ⟨rfl, rfl⟩; exact hK.out _ _ rfl (Below.refl _ _))
              | (go_at_call 25; (with_reducible refine (HLe.out W hB).mono ?_); rintro r w9 ⟨v9, rfl, ho9, hb9⟩; exact hK.out _ _ (PB.of ho9) hb9)
              | (go_at_call 26; (with_reducible refine (HMo.out W hB).mono ?_); rintro r w9 ⟨v9, rfl, ho9, hb9⟩; exact hK.out _ _ (PB.of ho9) hb9)
              | (go_at_call 21; (with_reducible refine (sameentry_any Ag ng cg Avg nvg cvg Ah nh ch Avh nvh cvh (eSeq gx) (eGone gx) (eTil gx) (eKey gx) (eVal gx) W (HGr.out.1.below hB) (HGr.out.2.below hB) (HHr.out.1.below hB) (HHr.out.2.below hB)).mono ?_); rintro r w9 ⟨rfl, hb9⟩; exact hK.out _ _ rfl hb9)
              | (go_at_call 22; (with_reducible refine (tlist_any bt L FB Af nf cf frm At nt ct tk W (HTr.out.below hB) (HFr.out.below hB) (HTk.out.below hB) HS1.out.1 HS1.out.2 hS60).mono ?_); rintro r w9 ⟨v9, rfl, ho9, hb9⟩; rw [HLR.out] at ho9; exact hK.out _ _ (PEn.own ho9) hb9)
              | (go_at_call 27; (with_reducible refine (reflist_any (some ad) L.length c1 L Af nf cf frm At nt ct tk W (HRr.out.below hB) (HFr.out.below hB) (HTk.out.below hB) hS60).mono ?_); intro r w9 hrc; rw [HLR.out] at hrc; obtain ⟨v9, rfl, ho9, hb9⟩ := PEn.row hrc (by have := HLl.out; omega); exact hK.out _ _ ho9 hb9)
              | (go_at_call 17; (with_reducible refine (sameentries_p h44 h48).mono ?_); rintro r w9 ⟨rfl, hb9⟩; exact hK.out _ _ rfl hb9)
              | (go_at_call 28; (with_reducible refine (tmay_any bt L FB Ar nr cr key W (HTr.out.below hB) (HKr.out.below hB)).mono ?_); rintro r w9 ⟨rfl, hb9⟩; rw [HHH.out]; exact hK.out _ _ rfl hb9)
              | (go_at_call 30; (with_reducible refine (filter_any Ak V.length ck KU W (HKs.out.below2 hB) HVL.out).mono ?_); rintro r w9 ⟨v9, rfl, ho9, hb9⟩; rw [HFlt.out] at ho9; exact hK.out _ _ (PB.of ho9) hb9)
              | (go_at_call 29; (with_reducible refine (refhas_p h56 Ar nr cr key (HKr.out.below hB)).mono ?_); rintro r w9 ⟨rfl, hb9⟩; rw [HHH.out]; exact hK.out _ _ rfl hb9)
              | (go_at_call 11; (with_reducible refine (tawake_any _).mono ?_); rintro r w9 ⟨rfl, hb9⟩; exact hK.out _ _ rfl hb9)
              | exact hK.out _ _ rfl (Below.refl _ _)
          refine OpsOK.cons ?_ ?_
          · intro u W K hB hd hK
            have h51 := factg_v (dep_ofG hd 51 (by kernel_rfl)) (by decide)
            dsimp only [nth] at h51
            replace hK := hkg_val hK (by decide)
            clear hd
            simp only [lay, Act.put, List.setIfInBounds_toArray, List.set_cons_zero, List.set_cons_succ, h51] at hK ⊢
            go_simp
            exact hK.out _ _ rfl (Below.refl _ _)
          refine OpsOK.cons ?_ ?_
          · intro u W K hB hd hK
            have h51 := factg_v (dep_ofG hd 51 (by kernel_rfl)) (by decide)
            dsimp only [nth] at h51
            have h54 := factg_v (dep_ofG hd 54 (by kernel_rfl)) (by decide)
            dsimp only [nth] at h54
            have h55 := factg_v (dep_ofG hd 55 (by kernel_rfl)) (by decide)
            dsimp only [nth] at h55
            replace hK := hkg_p hK (by decide)
            dsimp only [nth] at hK
            clear hd
            simp only [lay, Act.put, List.setIfInBounds_toArray, List.set_cons_zero, List.set_cons_succ, h51, h54, h55] at hK ⊢
            go_simp
            first
              | (go_at_call 19; (with_reducible refine (tlen_any bt L FB W (HTr.out.below hB)).mono ?_); rintro r w9 ⟨rfl, rfl⟩; exact hK.out _ _ rfl (Below.refl _ _))
              | (go_at_call 25; (with_reducible refine (HLe.out W hB).mono ?_); rintro r w9 ⟨v9, rfl, ho9, hb9⟩; exact hK.out _ _ (PB.of ho9) hb9)
              | (go_at_call 26; (with_reducible refine (HMo.out W hB).mono ?_); rintro r w9 ⟨v9, rfl, ho9, hb9⟩; exact hK.out _ _ (PB.of ho9) hb9)
              | (go_at_call 21; (with_reducible refine (sameentry_any Ag ng cg Avg nvg cvg Ah nh ch Avh nvh cvh (eSeq gx) (eGone gx) (eTil gx) (eKey gx) (eVal gx) W (HGr.out.1.below hB) (HGr.out.2.below hB) (HHr.out.1.below hB) (HHr.out.2.below hB)).mono ?_); rintro r w9 ⟨rfl, hb9⟩; exact hK.out _ _ rfl hb9)
              | (go_at_call 22; (with_reducible refine (tlist_any bt L FB Af nf cf frm At nt ct tk W (HTr.out.below hB) (HFr.out.below hB) (HTk.out.below hB) HS1.out.1 HS1.out.2 hS60).mono ?_); rintro r w9 ⟨v9, rfl, ho9, hb9⟩; rw [HLR.out] at ho9; exact hK.out _ _ (PEn.own ho9) hb9)
              | (go_at_call 27; (with_reducible refine (reflist_any (some ad) L.length c1 L Af nf cf frm At nt ct tk W (HRr.out.below hB) (HFr.out.below hB) (HTk.out.below hB) hS60).mono ?_); intro r w9 hrc; rw [HLR.out] at hrc; obtain ⟨v9, rfl, ho9, hb9⟩ := PEn.row hrc (by have := HLl.out; omega); exact hK.out _ _ ho9 hb9)
              | (go_at_call 17; (with_reducible refine (sameentries_p h44 h48).mono ?_); rintro r w9 ⟨rfl, hb9⟩; exact hK.out _ _ rfl hb9)
              | (go_at_call 28; (with_reducible refine (tmay_any bt L FB Ar nr cr key W (HTr.out.below hB) (HKr.out.below hB)).mono ?_); rintro r w9 ⟨rfl, hb9⟩; rw [HHH.out]; exact hK.out _ _ rfl hb9)
              | (go_at_call 30; (with_reducible refine (filter_any Ak V.length ck KU W (HKs.out.below2 hB) HVL.out).mono ?_); rintro r w9 ⟨v9, rfl, ho9, hb9⟩; rw [HFlt.out] at ho9; exact hK.out _ _ (PB.of ho9) hb9)
              | (go_at_call 29; (with_reducible refine (refhas_p h56 Ar nr cr key (HKr.out.below hB)).mono ?_); rintro r w9 ⟨rfl, hb9⟩; rw [HHH.out]; exact hK.out _ _ rfl hb9)
              | (go_at_call 11; (with_reducible refine (tawake_any _).mono ?_); rintro r w9 ⟨rfl, hb9⟩; exact hK.out _ _ rfl hb9)
              | exact hK.out _ _ rfl (Below.refl _ _)
          refine OpsOK.cons ?_ ?_
          · intro u W K hB hd hK
            have h51 := factg_v (dep_ofG hd 51 (by kernel_rfl)) (by decide)
            dsimp only [nth] at h51
            replace hK := hkg_val hK (by decide)
            clear hd
            simp only [lay, Act.put, List.setIfInBounds_toArray, List.set_cons_zero, List.set_cons_succ, h51] at hK ⊢
            go_simp
            exact hK.out _ _ rfl (Below.refl _ _)
          refine OpsOK.cons ?_ ?_
          · intro u W K hB hd hK
            have h51 := factg_v (dep_ofG hd 51 (by kernel_rfl)) (by decide)
            dsimp only [nth] at h51
            have h56 := factg_p (dep_ofG hd 56 (by kernel_rfl)) (by decide)
            dsimp only [nth] at h56
            have h57 := factg_v (dep_ofG hd 57 (by kernel_rfl)) (by decide)
            dsimp only [nth] at h57
            replace hK := hkg_val hK (by decide)
            clear hd
            simp only [lay, Act.put, List.setIfInBounds_toArray, List.set_cons_zero, List.set_cons_succ, h51, h57] at hK ⊢
            go_simp
            first
              | (go_at_call 19; (with_reducible refine (tlen_any bt L FB W (HTr.out.below hB)).mono ?_); rintro r w9 ⟨rfl, rfl⟩; exact hK.out _ _ rfl (Below.refl _ _))
              | (go_at_call 25; (with_reducible refine (HLe.out W hB).mono ?_); rintro r w9 ⟨v9, rfl, ho9, hb9⟩; exact hK.out _ _ (PB.of ho9) hb9)
              | (go_at_call 26; (with_reducible refine (HMo.out W hB).mono ?_); rintro r w9 ⟨v9, rfl, ho9, hb9⟩; exact hK.out _ _ (PB.of ho9) hb9)
              | (go_at_call 21; (with_reducible refine (sameentry_any Ag ng cg Avg nvg cvg Ah nh ch Avh nvh cvh (eSeq gx) (eGone gx) (eTil gx) (eKey gx) (eVal gx) W (HGr.out.1.below hB) (HGr.out.2.below hB) (HHr.out.1.below hB) (HHr.out.2.below hB)).mono ?_); rintro r w9 ⟨rfl, hb9⟩; exact hK.out _ _ rfl hb9)
              | (go_at_call 22; (with_reducible refine (tlist_any bt L FB Af nf cf frm At nt ct tk W (HTr.out.below hB) (HFr.out.below hB) (HTk.out.below hB) HS1.out.1 HS1.out.2 hS60).mono ?_); rintro r w9 ⟨v9, rfl, ho9, hb9⟩; rw [HLR.out] at ho9; exact hK.out _ _ (PEn.own ho9) hb9)
              | (go_at_call 27; (with_reducible refine (reflist_any (some ad) L.length c1 L Af nf cf frm At nt ct tk W (HRr.out.below hB) (HFr.out.below hB) (HTk.out.below hB) hS60).mono ?_); intro r w9 hrc; rw [HLR.out] at hrc; obtain ⟨v9, rfl, ho9, hb9⟩ := PEn.row hrc (by have := HLl.out; omega); exact hK.out _ _ ho9 hb9)
              | (go_at_call 17; (with_reducible refine (sameentries_p h44 h48).mono ?_); rintro r w9 ⟨rfl, hb9⟩; exact hK.out _ _ rfl hb9)
              | (go_at_call 28; (with_reducible refine (tmay_any bt L FB Ar nr cr key W (HTr.out.below hB) (HKr.out.below hB)).mono ?_); rintro r w9 ⟨rfl, hb9⟩; rw [HHH.out]; exact hK.out _ _ rfl hb9)
              | (go_at_call 30; (with_reducible refine (filter_any Ak V.length ck KU W (HKs.out.below2 hB) HVL.out).mono ?_); rintro r w9 ⟨v9, rfl, ho9, hb9⟩; rw [HFlt.out] at ho9; exact hK.out _ _ (PB.of ho9) hb9)
              | (go_at_call 29; (with_reducible refine (refhas_p h56 Ar nr cr key (HKr.out.below hB)).mono ?_); rintro r w9 ⟨rfl, hb9⟩; rw [HHH.out]; exact hK.out _ _ rfl hb9)
              | (go_at_call 11; (with_reducible refine (tawake_any _).mono ?_); rintro r w9 ⟨rfl, hb9⟩; exact hK.out _ _ rfl hb9)
              | exact hK.out _ _ rfl (Below.refl _ _)
          refine OpsOK.cons ?_ ?_
          · intro u W K hB hd hK
            have h51 := factg_v (dep_ofG hd 51 (by kernel_rfl)) (by decide)
            dsimp only [nth] at h51
            have h54 := factg_v (dep_ofG hd 54 (by kernel_rfl)) (by decide)
            dsimp only [nth] at h54
            have h58 := factg_v (dep_ofG hd 58 (by kernel_rfl)) (by decide)
            dsimp only [nth] at h58
            replace hK := hkg_val hK (by decide)
            clear hd
            simp only [lay, Act.put, List.setIfInBounds_toArray, List.set_cons_zero, List.set_cons_succ, h51, h54, h58] at hK ⊢
            go_simp
            exact hK.out _ _ rfl (Below.refl _ _)
          refine OpsOK.cons ?_ ?_
          · intro u W K hB hd hK
            have h51 := factg_v (dep_ofG hd 51 (by kernel_rfl)) (by decide)
            dsimp only [nth] at h51
            have h59 := factg_v (dep_ofG hd 59 (by kernel_rfl)) (by decide)
            dsimp only [nth] at h59
            replace hK := hkg_val hK (by decide)
            clear hd
            simp only [lay, Act.put, List.setIfInBounds_toArray, List.set_cons_zero, List.set_cons_succ, h51, h59] at hK ⊢
            go_simp
            exact hK.out _ _ rfl (Below.refl _ _)
          refine OpsOK.cons ?_ ?_
          · intro u W K hB hd hK
            have h58 := factg_v (dep_ofG hd 58 (by kernel_rfl)) (by decide)
            dsimp only [nth] at h58
            have h60 := factg_v (dep_ofG hd 60 (by kernel_rfl)) (by decide)
            dsimp only [nth] at h60
            replace hK := hkg_val hK (by decide)
            clear hd
            simp only [lay, Act.put, List.setIfInBounds_toArray, List.set_cons_zero, List.set_cons_succ, h58, h60] at hK ⊢
            go_simp
            exact hK.out _ _ rfl (Below.refl _ _)
          refine OpsOK.cons ?_ ?_
          · intro u W K hB hd hK
            have h61 := factg_v (dep_ofG hd 61 (by kernel_rfl)) (by decide)
            dsimp only [nth] at h61
            replace hK := hkg_val hK (by decide)
            clear hd
            simp only [lay, Act.put, List.setIfInBounds_toArray, List.set_cons_zero, List.set_cons_succ, h61] at hK ⊢
            go_simp
            first
              | (go_at_call 19; (with_reducible refine (tlen_any bt L FB W (HTr.out.below hB)).mono ?_); rintro r w9 ⟨rfl, rfl⟩; exact hK.out _ _ rfl (Below.refl _ _))
              | (go_at_call 25; (with_reducible refine (HLe.out W hB).mono ?_); rintro r w9 ⟨v9, rfl, ho9, hb9⟩; exact hK.out _ _ (PB.of ho9) hb9)
              | (go_at_call 26; (with_reducible refine (HMo.out W hB).mono ?_); rintro r w9 ⟨v9, rfl, ho9, hb9⟩; exact hK.out _ _ (PB.of ho9) hb9)
              | (go_at_call 21; (with_reducible refine (sameentry_any Ag ng cg Avg nvg cvg Ah nh ch Avh nvh cvh (eSeq gx) (eGone gx) (eTil gx) (eKey gx) (eVal gx) W (HGr.out.1.below hB) (HGr.out.2.below hB) (HHr.out.1.below hB) (HHr.out.2.below hB)).mono ?_); rintro r w9 ⟨rfl, hb9⟩; exact hK.out _ _ rfl hb9)
              | (go_at_call 22; (with_reducible refine (tlist_any bt L FB Af nf cf frm At nt ct tk W (HTr.out.below hB) (HFr.out.below hB) (HTk.out.below hB) HS1.out.1 HS1.out.2 hS60).mono ?_); rintro r w9 ⟨v9, rfl, ho9, hb9⟩; rw [HLR.out] at ho9; exact hK.out _ _ (PEn.own ho9) hb9)
              | (go_at_call 27; (with_reducible refine (reflist_any (some ad) L.length c1 L Af nf cf frm At nt ct tk W (HRr.out.below hB) (HFr.out.below hB) (HTk.out.below hB) hS60).mono ?_); intro r w9 hrc; rw [HLR.out] at hrc; obtain ⟨v9, rfl, ho9, hb9⟩ := PEn.row hrc (by have := HLl.out; omega); exact hK.out _ _ ho9 hb9)
              | (go_at_call 17; (with_reducible refine (sameentries_p h44 h48).mono ?_); rintro r w9 ⟨rfl, hb9⟩; exact hK.out _ _ rfl hb9)
              | (go_at_call 28; (with_reducible refine (tmay_any bt L FB Ar nr cr key W (HTr.out.below hB) (HKr.out.below hB)).mono ?_); rintro r w9 ⟨rfl, hb9⟩; rw [HHH.out]; exact hK.out _ _ rfl hb9)
              | (go_at_call 30; (with_reducible refine (filter_any Ak V.length ck KU W (HKs.out.below2 hB) HVL.out).mono ?_); rintro r w9 ⟨v9, rfl, ho9, hb9⟩; rw [HFlt.out] at ho9; exact hK.out _ _ (PB.of ho9) hb9)
              | (go_at_call 29; (with_reducible refine (refhas_p h56 Ar nr cr key (HKr.out.below hB)).mono ?_); rintro r w9 ⟨rfl, hb9⟩; rw [HHH.out]; exact hK.out _ _ rfl hb9)
              | (go_at_call 11; (with_reducible refine (tawake_any _).mono ?_); rintro r w9 ⟨rfl, hb9⟩; exact hK.out _ _ rfl hb9)
              | exact hK.out _ _ rfl (Below.refl _ _)
          refine OpsOK.cons ?_ ?_
          · intro u W K hB hd hK
            have h61 := factg_v (dep_ofG hd 61 (by kernel_rfl)) (by decide)
            dsimp only [nth] at h61
            have h62 := factg_v (dep_ofG hd 62 (by kernel_rfl)) (by decide)
            dsimp only [nth] at h62
            replace hK := hkg_val hK (by decide)
            clear hd
            simp only [lay, Act.put, List.setIfInBounds_toArray, List.set_cons_zero, List.set_cons_succ, h61, h62] at hK ⊢
            go_simp
            exact hK.out _ _ rfl (Below.refl _ _)
          refine OpsOK.cons ?_ ?_
          · intro u W K hB hd hK
            have h62 := factg_v (dep_ofG hd 62 (by kernel_rfl)) (by decide)
            dsimp only [nth] at h62
            have h63 := factg_v (dep_ofG hd 63 (by kernel_rfl)) (by decide)
            dsimp only [nth] at h63
            replace hK := hkg_val hK (by decide)
            clear hd
            simp only [lay, Act.put, List.setIfInBounds_toArray, List.set_cons_zero, List.set_cons_succ, h62, h63] at hK ⊢
            go_simp
            exact hK.out _ _ rfl (Below.refl _ _)
          exact OpsOK.nil
        intro u W hB hf
        have h64 := factg_v (hf 64 (by decide)) (by decide)
        dsimp only [nth] at h64
        clear hf
        simp only [lay, h64]
        clear h64
        go_wp2
        go_ret
        exact ⟨by first | rfl | simp, below_then HBr.out hB⟩
end Go.Proofs.Ytkkclkknpjapcaa
/-! ### TbT4 -/
namespace Go.Proofs.Ytkkclkknpjapcaa
open Go.RowKit
set_option linter.unusedVariables false
set_option linter.unusedSimpArgs false

theorem xor_byte (x y : UInt8) : bits .xor .u8 (x.toNat : Int) (y.toNat : Int) = ((x ^^^ y).toNat : Int) := by
  rw [u8_xor_nat _ _ x.toNat_lt y.toNat_lt, UInt8.toNat_xor]
theorem xor_self_iff (b x : UInt8) : (b ^^^ x) = b ↔ x = 0 := by
  constructor
  · intro h
    have h2 : b ^^^ (b ^^^ x) = b ^^^ b := by rw [h]
    rw [← UInt8.xor_assoc, UInt8.xor_self, UInt8.zero_xor] at h2
    exact h2
  · intro h
    rw [h, UInt8.xor_zero]
theorem tab_small {L : List EntR} (h : FitT L) (h60 : L.length ≤ 60) : 40 ≤ (tabB L).length ∧ (tabB L).length ≤ 200000 := by
  obtain ⟨out, idx, FIL, F, hp⟩ := parts_of h.2.1
  have := hp.len
  have := hp.outL
  have := hp.idxL
  have := hp.filL
  omega
theorem u8_of_wf {x : Int} (h : (Lit.int .u8 x).wf = true) : ∃ X : UInt8, x = (X.toNat : Int) := by
  have h2 := wf_u8 h
  exact ⟨UInt8.ofNat x.toNat, by rw [UInt8.toNat_ofNat']; omega⟩
/-- One byte turned: opened to its entries, or to an error. -/
theorem open_xor {L : List EntR} (hf : FitT L) {p : Nat} (hp : p < (tabB L).length) {X : UInt8} (hX : X ≠ 0) : openF ((tabB L).set p ((tabB L).getD p 0 ^^^ X)) = none := by
  cases h : openF ((tabB L).set p ((tabB L).getD p 0 ^^^ X)) with
  | none => rfl
  | some m =>
    have h1 := open_one (openF_tab hf) h hp
    have e : (tabB L).getD p 0 = (tabB L)[p] := by simp [hp]
    rw [e] at h1
    exact absurd ((xor_self_iff _ _).1 h1) hX
theorem set_same {l : List UInt8} {p : Nat} (hp : p < l.length) : l.set p (l.getD p 0 ^^^ 0) = l := by
  rw [UInt8.xor_zero]
  have e : l.getD p 0 = l[p] := by simp [hp]
  rw [e, List.set_getElem_self]
theorem sameentries_x {W : World} {u : Value} {es : List EntR} {A' : Option Addr} {c' : Nat} (h1 : PEn es u W) (h2 : REnts W A' es.length es) : Calls Try.prog 17 #[u, .slice A' es.length c'] W fun e w' => e = .returned (.bool true) ∧ Below W.heap.size W w' := by
  obtain ⟨A, c, rfl, _, h3⟩ := h1
  exact sameentries_any A c A' c' es.length es W h3 h2
theorem build_p {W : World} {u : Value} {es : List EntR} (h1 : PEn es u W) (hf : FitT es) : Calls Try.prog 12 #[u] W fun r w' => BdT W w' es r := by
  obtain ⟨A, c, rfl, hc, h3⟩ := h1
  exact build_tab A _ c es W h3 hc hf
theorem RB.block_lt {w : World} {A : Option Addr} {n : Nat} {xs : List UInt8} (h : RB w A n xs) (hn : 0 < n) {ad : Addr} (e : A = some ad) : ad.block < w.heap.size := by
  obtain ⟨ad', e', hcell⟩ := h.at_ hn
  rw [e] at e'
  obtain rfl := Option.some.inj e'
  have := World.block_lt_of_cell? w _ hcell
  rwa [block_of_add] at this
theorem open_flag {A : Option Addr} {n c : Nat} {xs : List UInt8} {w : World} {B : Bool} (h : RB w A n xs) (hc : n ≤ c) (hsz : n ≤ 100000000) (hno : B = false → openF xs = none) (hyes : B = true → ∃ es, openF xs = some es) :
    Calls Try.prog 15 #[.slice A n c] w fun r w' => ∃ (v : Value) (e : Int), r = .returned (.tuple #[v, .int .i64 e]) ∧ (e == 0) = B ∧ Below w.heap.size w w' := by
  refine (open_any A n c xs w h hc hsz).mono ?_
  intro r w' ho
  unfold OpnC at ho
  cases B
  · rw [hno rfl] at ho
    obtain ⟨e, he, rfl, hb⟩ := ho
    exact ⟨_, e, rfl, by rw [beq_eq_false_iff_ne]; exact he, hb⟩
  · obtain ⟨es, h2⟩ := hyes rfl
    rw [h2] at ho
    obtain ⟨bt, rfl, _, hb⟩ := ho
    exact ⟨_, 0, rfl, rfl, hb⟩
set_option maxHeartbeats 64000000 in
set_option maxRecDepth 100000 in
theorem TableBack_walk (A : Option Addr) (n c : Nat) (es : List EntR) (z : Int) (x : Int) (zc : Int) (w : World) (h : REnts w A n es) (hc : n ≤ c) (hz0 : (Lit.int .i64 z).wf = true) (hx0 : (Lit.int .u8 x).wf = true) (hzc0 : (Lit.int .i64 zc).wf = true) :
    Calls Try.prog 5 #[.slice A n c, .int .i64 z, .int .u8 x, .int .i64 zc] w fun e w' => e = .returned (.bool true) ∧ Below w.heap.size w w' := by
  have hz := wf_i64 hz0
  have hzc := wf_i64 hzc0
  obtain ⟨X, rfl⟩ := u8_of_wf hx0
  have H := hid h
  clear h hz0 hzc0 hx0
  go_enter Try.func5, Try.ntmps5
  go_upto_region 2 with (go_at_call 14; (with_reducible refine (tsorted_any A n c es _ H.out).mono ?_); rintro r w1 ⟨A1, c1, L, rfl, hc1, hr1, hs1, hm1, hl1, hb1⟩; have HR1 := hid hr1; have HS1 := hid (⟨hs1, hm1⟩ : _ ∧ _); have HB1 := hid hb1; clear hr1 hs1 hm1 hb1)
  by_cases hL : L.length = 0
  · have HNo : Hid (∀ E, TbC L E → E = 13) := hid (fun E hE => tb_none hE hL)
    have hzz : ((L.length : Int) == 0) = true := by rw [beq_iff_eq]; omega
    clear hL hz hzc
    go_wp2_with (first
      | (go_at_call 12; (with_reducible refine (tbuild_any A1 L.length c1 L _ HR1.out hc1).mono ?_); rintro r w2 ⟨E2, v2, rfl, hE2, ho2, hb2⟩; obtain rfl := HNo.out E2 hE2; have HB2 := hid (below_then HB1.out hb2); clear hE2 ho2)
      | (go_at_call 11; (with_reducible refine (tawake_any _).mono ?_); rintro e w6 ⟨rfl, hb6⟩; have HB6 := hid (below_then HB2.out hb6)))
    go_ret
    exact ⟨by first | rfl | simp, HB6.out⟩
  · have HFit : Hid (FitT L) := hid (fit_small HS1.out.2 HS1.out.1 (by omega) (by omega))
    obtain ⟨ht1, ht2⟩ := tab_small HFit.out hl1
    obtain ⟨p, hp, hpe⟩ := back_mod z (tabB L).length (by omega) hz
    obtain ⟨q, hq, hqe⟩ := back_mod zc (tabB L).length (by omega) hzc
    have HOT := hid (openF_tab HFit.out)
    have HXn : Hid (X ≠ 0 → openF ((tabB L).set p ((tabB L).getD p 0 ^^^ X)) = none) := hid (fun hX => open_xor HFit.out hp hX)
    have HXs : Hid (X = 0 → (tabB L).set p ((tabB L).getD p 0 ^^^ X) = tabB L) := hid (fun hX => by rw [hX]; exact set_same hp)
    obtain ⟨T, hT⟩ : ∃ T, tabB L = T := ⟨_, rfl⟩
    rw [hT] at ht1 ht2 hp hpe hq hqe HOT HXn HXs
    have HTe := hid hT
    obtain ⟨N, hN⟩ : ∃ N, T.length = N := ⟨_, rfl⟩
    rw [hN] at ht1 ht2 hp hpe hq hqe
    have HNl := hid hN
    have hd32 : decide ((N : Int) < 32) = false := decide_eq_false (by omega)
    have hNz : ¬ (N : Int) = 0 := by omega
    have hpi : (p : Int) < (N : Int) := by omega
    have hqi : (q : Int) < (N : Int) := by omega
    have hL2 : L.length ≤ 1000000 := by omega
    have HX := hid xor_byte
    have HCut : Hid (∀ (B : Option Addr) (d : Nat), N ≤ d → ∃ c2, (∀ w, (Instr.slice 25 (.slice B N d) none (some (.int .i64 (q : Int))) none).run Try.prog w = .ok (.slice B q c2) w) ∧ (∀ w xs, RB w B N xs → RB w B q (xs.take q)) ∧ q ≤ c2) := hid (fun B d hd => cutB_hi (A := B) hd (hi := q) (by omega) (q : Int) rfl)
    clear hT hN hz hzc hL
    go_upto_region 8 with (first
      | (go_at_call 12; (with_reducible refine (build_tab A1 L.length c1 L _ HR1.out hc1 HFit.out).mono ?_); rintro r w2 ⟨A2, n2, c2, rfl, hn2, ho2, hr2, hc2, hb2⟩; rw [HTe.out] at hr2 hn2; rw [HNl.out] at hn2; have hn3 := hn2.symm; subst hn3; have HR2 := hid hr2; have HB2 := hid (below_then HB1.out hb2); have HC2 := hid hb2; clear ho2 hr2 hb2)
      | (go_at_call 15; (with_reducible refine (open_tab A2 N c2 L _ (by rw [HTe.out]; exact HR2.out) hc2 HFit.out).mono ?_); rintro r w3 ⟨bt, rfl, ht3, hb3⟩; have HT3 := hid ht3; have HB3 := hid (below_then HB2.out hb3); have HC3 := hid (below_then HC2.out hb3); have HD3 := hid hb3; clear ht3 hb3)
      | (go_at_call 18; (with_reducible refine (tall_any bt L (filtB L) _ HT3.out HS1.out.1 HS1.out.2 hL2).mono ?_); rintro r w4 ⟨v4, rfl, ho4, hb4⟩; have HO4 := hid (PEn.own ho4); have HB4 := hid (below_then HB3.out hb4); have HC4 := hid (below_then HC3.out hb4); have HD4 := hid (below_then HD3.out hb4); clear ho4 hb4)
      | (go_at_call 17; (with_reducible refine (sameentries_x HO4.out (HR1.out.below HC4.out)).mono ?_); rintro r w5 ⟨rfl, hb5⟩; have HB5 := hid (below_then HB4.out hb5); have HD5 := hid (below_then HD4.out hb5); clear hb5))
    obtain ⟨B, hB⟩ : ∃ B, decide (X = 0) = B := ⟨_, rfl⟩
    have hXB : ((X.toNat : Int) == 0) = B := by
      rw [← hB, Bool.eq_iff_iff, beq_iff_eq, decide_eq_true_iff]
      constructor
      · intro e; exact UInt8.toNat_inj.1 (by simpa using e)
      · intro e; rw [e]; rfl
    have HFl : Hid (∀ (W : World) (D : Option Addr) (d : Nat), RB W D N (T.set p (T.getD p 0 ^^^ X)) → N ≤ d → Calls Try.prog 15 #[.slice D N d] W fun r w' => ∃ (v : Value) (e : Int), r = .returned (.tuple #[v, .int .i64 e]) ∧ (e == 0) = B ∧ Below W.heap.size W w') := hid (fun W D d hr hd => open_flag hr hd (by omega) (fun e => HXn.out (by rw [← hB] at e; simpa using e)) (fun e => ⟨L, by rw [HXs.out (by rw [← hB] at e; simpa using e)]; exact HOT.out⟩))
    have hxor : bits .xor .u8 (bAt T p : Int) (X.toNat : Int) = ((T.getD p 0 ^^^ X).toNat : Int) := HX.out _ _
    have HXo := hid hxor
    clear hB HXn HXs HX
    go_wp2
    go_quiet (fail)
    go_upto_region 10 with (at_builtin; refine wpB_append w5 _ w5.heap.size rfl (.tmp 75) (.tmp 76) rfl _ [] rfl (OB.empty _ _ (below_drewN (Below.refl w5.heap.size w5) _).size) A2 N c2 T rfl (((HR2.out.below HD5.out).drewN _).alloc _) (by have := HNl.out; simp; omega) (below_alloc' (below_drewN (Below.refl w5.heap.size w5) _) _) (below_alloc' (below_drewN (Below.refl w5.heap.size w5) _) _).size ?_; intro v6 w6 hown6 hB6 hg6 _; rw [List.nil_append] at hown6; obtain ⟨g6, c6, rfl, hg60, hg61, hc6⟩ := hown6.formN N HNl.out (by omega); have HO6 := hid hown6; have HD6 := hid hB6; clear hown6 hB6 hg6)
    have k0 := HO6.out.cell (j := p) hp
    have f0 := HO6.out.frozen p
    have hxor := HXo.out
    obtain ⟨Y, hY⟩ : ∃ Y, T.getD p 0 ^^^ X = Y := ⟨_, rfl⟩
    rw [hY] at hxor HFl
    have hzy : (((T[p]?.getD 0).toNat ^^^ X.toNat : Nat) : Int) = (Y.toNat : Int) := by rw [← hY, UInt8.toNat_xor, List.getD_eq_getElem?_getD]
    have HO7 := hid (HO6.out.set p Y hzy)
    have HD7 : Hid (Below w5.heap.size w5 (w6.setCell ⟨g6, p, none⟩ (.int .u8 (((T[p]?.getD 0).toNat ^^^ X.toNat : Nat) : Int)))) := hid (HD6.out.setCell (show w5.heap.size ≤ (⟨g6, p, none⟩ : Addr).block from hg60) _)
    have HR7 : Hid (RB (w6.setCell ⟨g6, p, none⟩ (.int .u8 (((T[p]?.getD 0).toNat ^^^ X.toNat : Nat) : Int))) A2 N T) := hid ((HR2.out.below HD5.out).below HD7.out)
    have HR8 : Hid (RB (w6.setCell ⟨g6, p, none⟩ (.int .u8 (((T[p]?.getD 0).toNat ^^^ X.toNat : Nat) : Int))) (some ⟨g6, 0, none⟩) N (T.set p Y)) := hid HO7.out.rb.1
    have HB7 := hid (below_then HB5.out HD7.out)
    have HR9 := hid (HFl.out _ _ c6 HR8.out hc6)
    clear hY HO6 HO7 HR8 HD6 hzy hxor HXo
    obtain ⟨cq, hcq, hrq, hcq2⟩ := HCut.out A2 c2 hc2
    have HRq := hid hrq
    clear hrq
    cases B
    all_goals
      go_upto_region 14 with (go_at_call 15; refine (HR9.out).mono ?_; rintro r w8 ⟨v8, e8, rfl, he8, hb8⟩; have HB8 := hid (below_then HB7.out hb8); have HT8 := hid (HRq.out _ _ (HR7.out.below hb8)); have HF8 := hid (HR7.out.below hb8); clear hb8)
      cases hof : openF (T.take q) with
      | none =>
        have HOf := hid hof
        clear hof
        have HOp := hid (open_any A2 q cq (T.take q) w8 HT8.out hcq2 (by omega))
        go_wp2_with (first
          | (go_at_call 15; refine (HOp.out).mono ?_; intro r w9 ho9; unfold OpnC at ho9; rw [HOf.out] at ho9; obtain ⟨e9, he9, rfl, hb9⟩ := ho9; have hz9 : (e9 == 0) = false := (by rw [beq_eq_false_iff_ne]; exact he9); have HB9 := hid (below_then HB8.out hb9); clear hb9)
          | (go_at_call 11; (with_reducible refine (tawake_any _).mono ?_); rintro e w6 ⟨rfl, hb6⟩; have HB10 := hid (below_then HB9.out hb6)))
        go_ret
        exact ⟨by first | rfl | simp, HB10.out⟩
      | some m =>
        obtain ⟨_, _, hfm, htm⟩ := openF_some hof
        have HOf := hid hof
        have HFm := hid hfm
        have HFs : Hid (Srt m ∧ AllM m) := hid ⟨hfm.2.2.1, hfm.2.1⟩
        have HTm := hid htm
        have hm6 : m.length ≤ 1000000 := by have := hfm.1.2; omega
        have HQl : Hid ((T.take q).length = q) := hid (by rw [List.length_take, HNl.out]; omega)
        clear hof hfm htm
        have HOp := hid (open_any A2 q cq (T.take q) w8 HT8.out hcq2 (by omega))
        go_upto_region 17 with (first
          | (go_at_call 15; refine (HOp.out).mono ?_; intro r w9 ho9; unfold OpnC at ho9; rw [HOf.out] at ho9; obtain ⟨bt9, rfl, ht9, hb9⟩ := ho9; have HT9 := hid ht9.reads; have HB9 := hid (below_then HB8.out hb9); have HQ9 := hid (HF8.out.below hb9); clear hb9 ht9)
          | (go_at_call 18; (with_reducible refine (tall_any bt9 m (filtB m) _ HT9.out HFs.out.1 HFs.out.2 hm6).mono ?_); rintro r w10 ⟨v10, rfl, ho10, hb10⟩; have HO10 := hid (PEn.own ho10); have HB10 := hid (below_then HB9.out hb10); have HQ10 := hid (HQ9.out.below hb10); clear ho10 hb10)
          | (go_at_call 12; (with_reducible refine (build_p HO10.out HFm.out).mono ?_); rintro r w11 ⟨A11, n11, c11, rfl, hn11, ho11, hr11, hc11, hb11⟩; rw [HTm.out] at hr11 hn11; rw [HQl.out] at hn11; have hn12 := hn11.symm; subst hn12; have HR11 := hid hr11; have HB11 := hid (below_then HB10.out hb11); have HQ11 := hid (HQ10.out.below hb11); clear ho11 hr11 hb11))
        have hcv1 := HR11.out.drew.conv c11
        have hcv2 := (HRq.out _ _ HQ11.out).drew.conv cq
        have hcv3 := hcv1
        have hcv4 := hcv2
        simp only [World.drew] at hcv3 hcv4
        go_still_tail 12, (by kernel_rfl)
        change wpList _ _ _ _ _ w11.drew
        have hBd : Below w.heap.size w w11.drew := below_drew HB11.out
        generalize w11.drew = wz at *
        go_wp2_with (go_at_call 11; (with_reducible refine (tawake_any _).mono ?_); rintro r w12 ⟨rfl, hb12⟩)
        go_ret
        exact ⟨by first | rfl | simp, below_then hBd hb12⟩
end Go.Proofs.Ytkkclkknpjapcaa
