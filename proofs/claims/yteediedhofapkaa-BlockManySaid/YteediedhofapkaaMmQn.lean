/- (MmQ under other names) The document's Put: an entry into a row in order. -/
import Derived.Test.YteediedhofapkaaMmN
import Derived.Deep.RegionHeldLaw
namespace Go.Proofs.Yteediedhofapkaa
open Go.RowKit
set_option linter.unusedVariables false
set_option linter.unusedSimpArgs false

/-- What Put leaves. -/
def PutC (W0 : World) (base : Nat) (w w' : World) (es : List EntR) (e : EntR) (r : Ending) : Prop :=
  ∃ v V, r = .returned (.tuple #[v, .bool (!hasE es e)]) ∧ OV w' base 26 5 v V ∧ RelV noEnt (PER W0) V (putE es e) ∧ Below w.heap.size w w'
theorem below_pre {W0 w wr : World} (h : Below W0.heap.size W0 w) (k : Below w.heap.size w wr) : Below W0.heap.size W0 wr := below_then h k
set_option maxHeartbeats 32000000 in
set_option maxRecDepth 100000 in
theorem refputE_any (W0 : World) (base : Nat) (A : Option Addr) (n c : Nat) (V : List (List Value)) (es : List EntR) (Ak : Option Addr) (nk ck : Nat) (Av : Option Addr) (nv cv : Nat) (e : EntR) (w : World) (hW : Below W0.heap.size W0 w)
    (hown : OV w base 26 5 (.slice A n c) V) (hrel : RelV noEnt (PER W0) V es) (hbase : base ≤ w.heap.size) (hk : RB W0 Ak nk (eKey e)) (hv : RB W0 Av nv (eVal e)) (hck : nk ≤ ck) (hcv : nv ≤ cv) (hl : es.length = n) (hn : n ≤ 1000) :
    Calls Try.prog 29 #[.slice A n c, .agg #[.slice Ak nk ck, .int .i64 (eSeq e), .bool (eGone e), .int .i64 (eTil e), .slice Av nv cv]] w fun r w' => PutC W0 base w w' es e r := by
  obtain ⟨P, hP⟩ : ∃ P, posE es e = P := ⟨_, rfl⟩
  have hPle : P ≤ n := by rw [← hP, ← hl]; exact pos_le es e
  have hVl : V.length = n := by rw [hrel.1, hl]
  have hbx := heap_alloc_new w (.cells #[.slice Ak nk ck, .int .i64 (eSeq e), .bool (eGone e), .int .i64 (eTil e), .slice Av nv cv] 26)
  have hB0 : Below w.heap.size w (w.alloc (.cells #[.slice Ak nk ck, .int .i64 (eSeq e), .bool (eGone e), .int .i64 (eTil e), .slice Av nv cv] 26)) := below_alloc' (Below.refl _ _) _
  have hnc : n ≤ c := own_cap (by have := hown.1; rw [hVl] at this; exact this)
  -- an element, in any later world
  have hel : ∀ k, k < n → ∃ g Ak' nk' ck' Av' nv' cv', A = some ⟨g, 0, none⟩ ∧ (∀ wr, Below w.heap.size w wr → wr.cell? ⟨g, k * 5, none⟩ = some (.slice Ak' nk' ck') ∧ wr.cell? ⟨g, k * 5 + 1, none⟩ = some (.int .i64 (eSeq (elt noEnt es k))) ∧ wr.cell? ⟨g, k * 5 + 2, none⟩ = some (.bool (eGone (elt noEnt es k))) ∧
      wr.cell? ⟨g, k * 5 + 3, none⟩ = some (.int .i64 (eTil (elt noEnt es k))) ∧ wr.cell? ⟨g, k * 5 + 4, none⟩ = some (.slice Av' nv' cv') ∧ RB wr Ak' nk' (eKey (elt noEnt es k))) := by
    intro k hk
    obtain ⟨g, c', hve, _, _, _⟩ := hown.form (by omega)
    injection hve with h1 h2 h3
    subst h1
    have hown' : OV w base 26 5 (.slice (some ⟨g, 0, none⟩) V.length c) V := by rw [hVl]; exact hown
    obtain ⟨Ak', nk', ck', Av', nv', cv', hx, hr1, hr2, _, _⟩ := hrel.2 k (by omega)
    have hc := fun i (hi : i < 5) => hown'.cell (j := k) (i := i) (by omega) hi
    rw [hx] at hc
    refine ⟨g, Ak', nk', ck', Av', nv', cv', rfl, fun wr hb => ⟨below_cell hb (hc 0 (by omega)), below_cell hb (hc 1 (by omega)), below_cell hb (hc 2 (by omega)), below_cell hb (hc 3 (by omega)), below_cell hb (hc 4 (by omega)), hr1.below (below_pre hW hb)⟩⟩
  have HEl := hid hel
  have HOwn := hid hown
  have HRel := hid hrel
  have HW := hid hW
  have HK := hid hk
  have HV := hid hv
  have HVl := hid hVl
  have HP := hid hP
  have HL := hid hl
  have HBb := hid hbase
  have HC := hid (⟨hck, hcv⟩ : _ ∧ _)
  have HLt : Hid (∀ j, j < P → aheadR (elt noEnt es j) e < 0) := fun j hj => aheadR_neg.2 (pos_lt (by rw [hP]; exact hj))
  have HAt : Hid (P < n → ¬ aheadR (elt noEnt es P) e < 0) := fun h => by
    rw [aheadR_neg]
    have := pos_at (es := es) (e := e) (by rw [hP, hl]; exact h)
    rw [hP] at this
    rw [this]
    simp
  have HHas : Hid (∀ b : Bool, (P < n ∧ aheadR (elt noEnt es P) e = 0 ↔ b = true) → hasE es e = b) := fun b hb => by
    have := has_pos (es := es) (e := e)
    rw [hP, hl, hb] at this
    cases h1 : hasE es e <;> cases b <;> simp_all
  clear hel hown hrel hW hk hv hVl hP hl hbase hck hcv
  go_enter Try.func29, Try.ntmps29
  go_wp2
  generalize w.alloc (.cells #[.slice Ak nk ck, .int .i64 (eSeq e), .bool (eGone e), .int .i64 (eTil e), .slice Av nv cv] 26) = W1 at *
  obtain ⟨b, hb⟩ : ∃ b, w.heap.size = b := ⟨_, rfl⟩
  have HbE := hid hb
  rw [hb] at hbx ⊢
  clear hb
  go_loopw [6] (fun i wr => ∃ k : Nat, k ≤ P ∧ i = .int .i64 k ∧ Below W1.heap.size W1 wr) (fun i wr => P - (intOf i).toNat)
  case atStart => exact ⟨0, Nat.zero_le _, rfl, Below.refl _ _⟩
  case round =>
    obtain ⟨k, hk, rfl, hBr⟩ := hrel
    have hbr := below_then hB0 hBr
    have hbxr := blk_below hBr hbx
    have e0 := box_at hbxr 0 _ rfl
    have e1 := box_at hbxr 1 _ rfl
    have e2 := box_at hbxr 2 _ rfl
    have e3 := box_at hbxr 3 _ rfl
    have e4 := box_at hbxr 4 _ rfl
    have HKr := hid (HK.out.below (below_pre HW.out hbr))
    by_cases hlt : k < P
    · have hkn : k < n := by omega
      obtain ⟨g, Ak', nk', ck', Av', nv', cv', rfl, hcells⟩ := HEl.out k hkn
      obtain ⟨a0, a1, a2, a3, a4, ar⟩ := hcells wr hbr
      have hneg := HLt.out k hlt
      generalize elt noEnt es k = x at *
      have HAr := hid ar
      obtain ⟨C, hC⟩ : ∃ C, aheadR x e = C := ⟨_, rfl⟩
      rw [hC] at hneg
      have HCm := hid hC
      have HD := hid (decide_eq_true hneg)
      clear ar hC hneg hcells
      go_wp2
      go_cut [6, 19] (fun x6 v wx => x6 = .int .i64 (k : Int) ∧ v = .bool true ∧ Below W1.heap.size W1 wx)
      case first =>
        go_region_with (go_at_call 34; (with_reducible refine (refahead_any Ak' nk' ck' Av' nv' cv' x Ak nk ck Av nv cv e _ HAr.out.drew HKr.out.drew).mono ?_); rintro r w1 ⟨rfl, hb1⟩; rw [HCm.out])
        all_goals
          go_wp2
          go_meet
          exact ⟨rfl, by rw [HD.out], below_then hBr (below_then (below_drew (Below.refl _ _)) hb1)⟩
      case rest =>
        obtain ⟨rfl, rfl, hB3⟩ := hcut
        go_wp2
        go_roundw
        case rel => exact ⟨k + 1, by omega, by go_num, hB3⟩
        case measure => simp [intOf]; omega
    · obtain rfl : k = P := by omega
      obtain ⟨bb, hbb⟩ : ∃ bb : Bool, (k < n ∧ aheadR (elt noEnt es k) e = 0 ↔ bb = true) := ⟨decide (k < n ∧ aheadR (elt noEnt es k) e = 0), by simp⟩
      have HBB := hid hbb
      have HHs := hid (HHas.out bb hbb)
      have hat := HAt.out
      clear hbb HHas hlt HLt hat
      go_wp2
      go_cut [6, 19] (fun x6 v wx => x6 = .int .i64 (k : Int) ∧ v = .bool false ∧ Below W1.heap.size W1 wx)
      case first =>
        by_cases hkn : k < n
        · obtain ⟨g, Ak', nk', ck', Av', nv', cv', rfl, hcells⟩ := HEl.out k hkn
          obtain ⟨a0, a1, a2, a3, a4, ar⟩ := hcells wr hbr
          have hneg := HAt.out hkn
          clear HAt HBB HEl HP
          generalize elt noEnt es k = x at *
          have HAr := hid ar
          obtain ⟨C, hC⟩ : ∃ C, aheadR x e = C := ⟨_, rfl⟩
          rw [hC] at hneg
          have HCm := hid hC
          have HD : Hid (decide (C < 0) = false) := decide_eq_false (by omega)
          clear ar hC hneg hcells
          go_region_with (go_at_call 34; (with_reducible refine (refahead_any Ak' nk' ck' Av' nv' cv' x Ak nk ck Av nv cv e _ HAr.out.drew HKr.out.drew).mono ?_); rintro r w1 ⟨rfl, hb1⟩; rw [HCm.out])
          all_goals
            go_wp2
            go_meet
            exact ⟨rfl, by rw [HD.out], below_then hBr (below_then (below_drew (Below.refl _ _)) hb1)⟩
        · have hd : decide ((k : Int) < (n : Int)) = false := decide_eq_false (by omega)
          clear HAt HBB HEl HP
          go_quiet (fail)
          go_wp2
          go_meet
          exact ⟨rfl, rfl, below_drewN hBr _⟩
      case rest =>
        obtain ⟨rfl, rfl, hB3⟩ := hcut
        clear hBr hbr hbxr e0 e1 e2 e3 e4 HKr
        have hbr := below_then hB0 hB3
        have hbxr := blk_below hB3 hbx
        have e0 := box_at hbxr 0 _ rfl
        have e1 := box_at hbxr 1 _ rfl
        have e2 := box_at hbxr 2 _ rfl
        have e3 := box_at hbxr 3 _ rfl
        have e4 := box_at hbxr 4 _ rfl
        have HKr := hid (HK.out.below (below_pre HW.out hbr))
        go_wp2
        go_cut [34] (fun v wx => v = .bool bb ∧ Below W1.heap.size W1 wx)
        case first =>
          by_cases hkn : k < n
          · obtain ⟨g, Ak', nk', ck', Av', nv', cv', rfl, hcells⟩ := HEl.out k hkn
            obtain ⟨a0, a1, a2, a3, a4, ar⟩ := hcells _ hbr
            have hz := HBB.out
            clear HAt HBB HEl HP HHs
            generalize elt noEnt es k = x at *
            have HAr := hid ar
            obtain ⟨C, hC⟩ : ∃ C, aheadR x e = C := ⟨_, rfl⟩
            rw [hC] at hz
            have HCm := hid hC
            have HD : Hid ((C == 0) = bb) := by unfold Hid; cases bb <;> simp_all
            clear ar hC hcells hz
            go_region_with (go_at_call 34; (with_reducible refine (refahead_any Ak' nk' ck' Av' nv' cv' x Ak nk ck Av nv cv e _ HAr.out.drew HKr.out.drew).mono ?_); rintro r w1 ⟨rfl, hb1⟩; rw [HCm.out])
            all_goals
              go_wp2
              go_meet
              exact ⟨by rw [HD.out], below_then hB3 (below_then (below_drew (Below.refl _ _)) hb1)⟩
          · have hd : decide ((k : Int) < (n : Int)) = false := decide_eq_false (by omega)
            have hbf : bb = false := by
              cases hq : bb
              · rfl
              · exact absurd (HBB.out.2 hq).1 hkn
            clear HAt HBB HEl HP HHs
            subst hbf
            go_quiet (fail)
            go_wp2
            go_meet
            exact ⟨rfl, below_drewN hB3 _⟩
        case rest =>
          obtain ⟨rfl, hB4⟩ := hcut
          clear hbr hbxr e0 e1 e2 e3 e4 HKr hB3
          have hb4 := below_then hB0 hB4
          cases bb
          · have hp : putE es e = es.take k ++ e :: es.drop k := by
              unfold putE
              rw [HHs.out, ins_pos, HP.out]
              rfl
            have HPut := hid hp
            clear hp HAt HBB HEl HP
            obtain ⟨c2, hs1, hr1, _⟩ := cutE_hi (A := A) hnc hPle (k : Int) rfl
            obtain ⟨A3, c3, hs2, hr2, _⟩ := cutE_lo (A := A) hnc hPle (k : Int) rfl
            have hbx4 := blk_below hB4 hbx
            have hRd := (HOwn.out.below hb4).reads HVl.out
            have hRd1 := hr1 _ _ hRd
            have hRd2 := hr2 _ _ hRd
            rw [← flat_take V k HOwn.out.2] at hRd1
            rw [← flat_drop V k HOwn.out.2] at hRd2
            have h51 : ∀ x ∈ V.take k, x.length = 5 := fun x hx => HOwn.out.2 x (List.mem_of_mem_take hx)
            have h52 : ∀ x ∈ V.drop k, x.length = 5 := fun x hx => HOwn.out.2 x (List.mem_of_mem_drop hx)
            have hm1 : (V.take k).length = k := by rw [List.length_take, HVl.out]; omega
            have hm2 : (V.drop k).length = n - k := by rw [List.length_drop, HVl.out]
            have hu1 : ∀ u ∈ (V.take k).flatten, u.oneCell' = true := (HRel.out.take k).ones
            have hu2 : ∀ u ∈ (V.drop k).flatten, u.oneCell' = true := (HRel.out.drop k).ones
            have HR1 := hid hRd1
            have HR2 := hid hRd2
            have HM := hid (⟨hm1, hm2, h51, h52, hu1, hu2⟩ : _ ∧ _ ∧ _ ∧ _ ∧ _ ∧ _)
            have hBc : Below wc.heap.size wc wc := Below.refl _ _
            have hBd : Below wc.heap.size wc wc.drew := (Below.refl _ _).drew
            have HSG : Hid (∀ w' : World, Below wc.heap.size wc w' → (w'.cell? ⟨b, 0, none⟩ = some (.slice Ak nk ck) ∧ w'.cell? ⟨b, 1, none⟩ = some (.int .i64 (eSeq e)) ∧ w'.cell? ⟨b, 2, none⟩ = some (.bool (eGone e)) ∧ w'.cell? ⟨b, 3, none⟩ = some (.int .i64 (eTil e)) ∧ w'.cell? ⟨b, 4, none⟩ = some (.slice Av nv cv))) := fun w' hw => by
              have h := blk_below hw hbx4
              exact ⟨box_at h 0 _ rfl, box_at h 1 _ rfl, box_at h 2 _ rfl, box_at h 3 _ rfl, box_at h 4 _ rfl⟩
            clear hRd hRd1 hRd2 hr1 hr2 h51 h52 hm1 hm2 hu1 hu2 hbx4
            have HFin : Hid (∀ v3 w3, OV w3 wc.heap.size 26 5 v3 ((([] ++ V.take k) ++ [[.slice Ak nk ck, .int .i64 (eSeq e), .bool (eGone e), .int .i64 (eTil e), .slice Av nv cv]]) ++ V.drop k) → Below wc.heap.size wc w3 → PutC W0 base w w3 es e (.returned (.tuple #[v3, .bool true]))) := by
              intro v3 w3 h1 h2
              refine ⟨v3, _, by rw [HHs.out]; rfl, ⟨own_mono h1.1 (Nat.le_trans HBb.out hb4.size), h1.2⟩, ?_, below_then hb4 h2⟩
              rw [HPut.out, show es.take k ++ e :: es.drop k = (([] ++ es.take k) ++ [e]) ++ es.drop k by simp]
              refine RelV.app (RelV.app (RelV.app RelV.nil (HRel.out.take k)) ?_) (HRel.out.drop k)
              exact RelV.snoc RelV.nil ⟨Ak, nk, ck, Av, nv, cv, rfl, HK.out, HV.out, HC.out.1, HC.out.2⟩
            go_wp2
            go_region_held_law (fun w' => w'.cell? ⟨b, 0, none⟩ = some (.slice Ak nk ck) ∧ w'.cell? ⟨b, 1, none⟩ = some (.int .i64 (eSeq e)) ∧ w'.cell? ⟨b, 2, none⟩ = some (.bool (eGone e)) ∧ w'.cell? ⟨b, 3, none⟩ = some (.int .i64 (eTil e)) ∧ w'.cell? ⟨b, 4, none⟩ = some (.slice Av nv cv))
              (first | exact HSG.out _ (by assumption) | exact HSG.out _ (below_alloc' (by assumption) _))
              (first
                | (refine stepV_append 22 26 _ 5 72 Try.underlying22 eninfo rfl (by omega) wc _ (by rfl) (.const (.slice none 0 0)) (.tmp 38) (by rfl) (.slice none 0 0) [] (by rfl) (OV.nil _ _ _ _) A k c2 (V.take k) (by rfl) (HR1.out.below (by first | assumption | exact below_alloc' (by assumption) _)) HM.out.2.2.1 HM.out.1 HM.out.2.2.2.2.1 (by simp only [maxLen, List.length_nil]; omega) (by simp only [List.length_nil]; omega) (by first | assumption | exact below_alloc' (by assumption) _) ?_; intro v1 w1 hown1 hB1 hg1)
                | (refine stepV_append 22 26 _ 5 72 Try.underlying22 eninfo rfl (by omega) wc _ (by rfl) (.tmp 39) (.tmp 41) (by rfl) v1 ([] ++ V.take k) (by rfl) (hown1.below (below_alloc' (Below.refl _ _) _)) _ 1 1 [[.slice Ak nk ck, .int .i64 (eSeq e), .bool (eGone e), .int .i64 (eTil e), .slice Av nv cv]] (by rfl) (Reads.block (heap_alloc_new w1 _) rfl) (by intro x hx; rw [List.mem_singleton] at hx; subst hx; rfl) rfl (ones5 rfl rfl rfl rfl rfl) (by have := HM.out.1; simp only [maxLen, List.nil_append]; omega) (by have := HM.out.1; simp only [List.nil_append]; omega) (below_alloc' hB1 _) ?_; intro v2 w2 hown2 hB2 hg2)
                | (refine stepV_append 22 26 _ 5 72 Try.underlying22 eninfo rfl (by omega) wc _ (by rfl) (.tmp 39) (.tmp 41) (by rfl) v1 ([] ++ V.take k) (by rfl) hown1 _ 1 1 [[.slice Ak nk ck, .int .i64 (eSeq e), .bool (eGone e), .int .i64 (eTil e), .slice Av nv cv]] (by rfl) (Reads.block (blk_grown' hg1 (heap_alloc_new _ _) (by intro e; cases e)) rfl) (by intro x hx; rw [List.mem_singleton] at hx; subst hx; rfl) rfl (ones5 rfl rfl rfl rfl rfl) (by have := HM.out.1; simp only [maxLen, List.nil_append]; omega) (by have := HM.out.1; simp only [List.nil_append]; omega) hB1 ?_; intro v2 w2 hown2 hB2 hg2)
                | (refine stepV_append 22 26 _ 5 72 Try.underlying22 eninfo rfl (by omega) wc _ (by rfl) (.tmp 42) (.tmp 45) (by rfl) v2 (([] ++ V.take k) ++ [[.slice Ak nk ck, .int .i64 (eSeq e), .bool (eGone e), .int .i64 (eTil e), .slice Av nv cv]]) (by rfl) hown2 A3 (n - k) c3 (V.drop k) (by rfl) (HR2.out.below hB2) HM.out.2.2.2.1 HM.out.2.1 HM.out.2.2.2.2.2 (by have := HM.out.1; simp only [maxLen, List.nil_append, List.length_append, List.length_cons, List.length_nil]; omega) (by have := HM.out.1; simp only [List.nil_append, List.length_append, List.length_cons, List.length_nil]; omega) hB2 ?_; intro v3 w3 hown3 hB3 hg3))
            all_goals
              go_wp2
              go_ret2
              refine (congrArg (PutC W0 base w w3 es e) ?_).mpr (HFin.out _ _ hown3 hB3)
              simp
          · have hp : putE es e = es := by unfold putE; rw [HHs.out]; rfl
            go_wp2
            go_ret2
            exact ⟨_, V, by rw [HHs.out]; rfl, HOwn.out.below hb4, by rw [hp]; exact HRel.out, by have := HbE.out; subst this; exact hb4⟩
end Go.Proofs.Yteediedhofapkaa
