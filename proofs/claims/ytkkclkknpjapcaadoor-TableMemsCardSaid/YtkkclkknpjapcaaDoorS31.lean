/- Shared texts, part S31: MmQn, BkL, ER, BkB, BkS2, BlU. -/
import Derived.Deep.RegionHeldLaw
import Derived.StillTailTactics
import Derived.Deep.Cut
import Derived.Test.YtkkclkknpjapcaaDoorS06
import Derived.Test.YtkkclkknpjapcaaDoorS18
import Derived.Test.YtkkclkknpjapcaaDoorS03
import Derived.Test.YtkkclkknpjapcaaDoorS24
import Derived.Test.YtkkclkknpjapcaaDoorS30
import Derived.Test.YtkkclkknpjapcaaDoorS05
import Derived.Test.YtkkclkknpjapcaaDoorS19
/-! ### MmQn -/
namespace Go.Proofs.YtkkclkknpjapcaaDoor
open Go.RowKit
set_option linter.unusedVariables false
set_option linter.unusedSimpArgs false

/-- What Put leaves. -/
def PutC (W0 : World) (base : Nat) (w w' : World) (es : List EntR) (e : EntR) (r : Ending) : Prop :=
  ∃ v V, r = .returned (.tuple #[v, .bool (!hasE es e)]) ∧ OV w' base 29 5 v V ∧ RelV noEnt (PER W0) V (putE es e) ∧ Below w.heap.size w w'
theorem below_pre {W0 w wr : World} (h : Below W0.heap.size W0 w) (k : Below w.heap.size w wr) : Below W0.heap.size W0 wr := below_then h k
set_option maxHeartbeats 32000000 in
set_option maxRecDepth 100000 in
theorem refputE_any (W0 : World) (base : Nat) (A : Option Addr) (n c : Nat) (V : List (List Value)) (es : List EntR) (Ak : Option Addr) (nk ck : Nat) (Av : Option Addr) (nv cv : Nat) (e : EntR) (w : World) (hW : Below W0.heap.size W0 w)
    (hown : OV w base 29 5 (.slice A n c) V) (hrel : RelV noEnt (PER W0) V es) (hbase : base ≤ w.heap.size) (hk : RB W0 Ak nk (eKey e)) (hv : RB W0 Av nv (eVal e)) (hck : nk ≤ ck) (hcv : nv ≤ cv) (hl : es.length = n) (hn : n ≤ 1000) :
    Calls Tryd.prog 19 #[.slice A n c, .agg #[.slice Ak nk ck, .int .i64 (eSeq e), .bool (eGone e), .int .i64 (eTil e), .slice Av nv cv]] w fun r w' => PutC W0 base w w' es e r := by
  obtain ⟨P, hP⟩ : ∃ P, posE es e = P := ⟨_, rfl⟩
  have hPle : P ≤ n := by rw [← hP, ← hl]; exact pos_le es e
  have hVl : V.length = n := by rw [hrel.1, hl]
  have hbx := heap_alloc_new w (.cells #[.slice Ak nk ck, .int .i64 (eSeq e), .bool (eGone e), .int .i64 (eTil e), .slice Av nv cv] 29)
  have hB0 : Below w.heap.size w (w.alloc (.cells #[.slice Ak nk ck, .int .i64 (eSeq e), .bool (eGone e), .int .i64 (eTil e), .slice Av nv cv] 29)) := below_alloc' (Below.refl _ _) _
  have hnc : n ≤ c := own_cap (by have := hown.1; rw [hVl] at this; exact this)
  -- an element, in any later world
  have hel : ∀ k, k < n → ∃ g Ak' nk' ck' Av' nv' cv', A = some ⟨g, 0, none⟩ ∧ (∀ wr, Below w.heap.size w wr → wr.cell? ⟨g, k * 5, none⟩ = some (.slice Ak' nk' ck') ∧ wr.cell? ⟨g, k * 5 + 1, none⟩ = some (.int .i64 (eSeq (elt noEnt es k))) ∧ wr.cell? ⟨g, k * 5 + 2, none⟩ = some (.bool (eGone (elt noEnt es k))) ∧
      wr.cell? ⟨g, k * 5 + 3, none⟩ = some (.int .i64 (eTil (elt noEnt es k))) ∧ wr.cell? ⟨g, k * 5 + 4, none⟩ = some (.slice Av' nv' cv') ∧ RB wr Ak' nk' (eKey (elt noEnt es k))) := by
    intro k hk
    obtain ⟨g, c', hve, _, _, _⟩ := hown.form (by omega)
    injection hve with h1 h2 h3
    subst h1
    have hown' : OV w base 29 5 (.slice (some ⟨g, 0, none⟩) V.length c) V := by rw [hVl]; exact hown
    obtain ⟨Ak', nk', ck', Av', nv', cv', hx, hr1, hr2, _, _⟩ := hrel.2 k (by omega)
    have hc := fun i (hi : i < 5) => hown'.cell (j := k) (i := i) (by omega) hi
    rw [hx] at hc
    refine ⟨g, Ak', nk', ck', Av', nv', cv', rfl, fun wr hb => ⟨below_cell hb (hc 0 (by omega)), below_cell hb (hc 1 (by omega)), below_cell hb (hc 2 (by omega)), below_cell hb (hc 3 (by omega)), below_cell hb (hc 4 (by omega)), hr1.below (below_pre hW hb)⟩⟩
  have HEl := hid hel
  have HOwn := hid hown
  have HRel := hid hrel
  have HW := hid hW
  have HK := hid hk
  have HV := hid hv
  have HVl := hid hVl
  have HP := hid hP
  have HL := hid hl
  have HBb := hid hbase
  have HC := hid (⟨hck, hcv⟩ : _ ∧ _)
  have HLt : Hid (∀ j, j < P → aheadR (elt noEnt es j) e < 0) := fun j hj => aheadR_neg.2 (pos_lt (by rw [hP]; exact hj))
  have HAt : Hid (P < n → ¬ aheadR (elt noEnt es P) e < 0) := fun h => by
    rw [aheadR_neg]
    have := pos_at (es := es) (e := e) (by rw [hP, hl]; exact h)
    rw [hP] at this
    rw [this]
    simp
  have HHas : Hid (∀ b : Bool, (P < n ∧ aheadR (elt noEnt es P) e = 0 ↔ b = true) → hasE es e = b) := fun b hb => by
    have := has_pos (es := es) (e := e)
    rw [hP, hl, hb] at this
    cases h1 : hasE es e <;> cases b <;> simp_all
  clear hel hown hrel hW hk hv hVl hP hl hbase hck hcv
  go_enter Tryd.func19, Tryd.ntmps19
  go_wp2
  generalize w.alloc (.cells #[.slice Ak nk ck, .int .i64 (eSeq e), .bool (eGone e), .int .i64 (eTil e), .slice Av nv cv] 29) = W1 at *
  obtain ⟨b, hb⟩ : ∃ b, w.heap.size = b := ⟨_, rfl⟩
  have HbE := hid hb
  rw [hb] at hbx ⊢
  clear hb
  go_loopw [6] (fun i wr => ∃ k : Nat, k ≤ P ∧ i = .int .i64 k ∧ Below W1.heap.size W1 wr) (fun i wr => P - (intOf i).toNat)
  case atStart => exact ⟨0, Nat.zero_le _, rfl, Below.refl _ _⟩
  case round =>
    obtain ⟨k, hk, rfl, hBr⟩ := hrel
    have hbr := below_then hB0 hBr
    have hbxr := blk_below hBr hbx
    have e0 := box_at hbxr 0 _ rfl
    have e1 := box_at hbxr 1 _ rfl
    have e2 := box_at hbxr 2 _ rfl
    have e3 := box_at hbxr 3 _ rfl
    have e4 := box_at hbxr 4 _ rfl
    have HKr := hid (HK.out.below (below_pre HW.out hbr))
    by_cases hlt : k < P
    · have hkn : k < n := by omega
      obtain ⟨g, Ak', nk', ck', Av', nv', cv', rfl, hcells⟩ := HEl.out k hkn
      obtain ⟨a0, a1, a2, a3, a4, ar⟩ := hcells wr hbr
      have hneg := HLt.out k hlt
      generalize elt noEnt es k = x at *
      have HAr := hid ar
      obtain ⟨C, hC⟩ : ∃ C, aheadR x e = C := ⟨_, rfl⟩
      rw [hC] at hneg
      have HCm := hid hC
      have HD := hid (decide_eq_true hneg)
      clear ar hC hneg hcells
      go_wp2
      go_cut [6, 19] (fun x6 v wx => x6 = .int .i64 (k : Int) ∧ v = .bool true ∧ Below W1.heap.size W1 wx)
      case first =>
        go_region_with (go_at_call 45; (with_reducible refine (refahead_any Ak' nk' ck' Av' nv' cv' x Ak nk ck Av nv cv e _ HAr.out.drew HKr.out.drew).mono ?_); rintro r w1 ⟨rfl, hb1⟩; rw [HCm.out])
        all_goals
          go_wp2
          go_meet
          exact ⟨rfl, by rw [HD.out], below_then hBr (below_then (below_drew (Below.refl _ _)) hb1)⟩
      case rest =>
        obtain ⟨rfl, rfl, hB3⟩ := hcut
        go_wp2
        go_roundw
        case rel => exact ⟨k + 1, by omega, by go_num, hB3⟩
        case measure => simp [intOf]; omega
    · obtain rfl : k = P := by omega
      obtain ⟨bb, hbb⟩ : ∃ bb : Bool, (k < n ∧ aheadR (elt noEnt es k) e = 0 ↔ bb = true) := ⟨decide (k < n ∧ aheadR (elt noEnt es k) e = 0), by simp⟩
      have HBB := hid hbb
      have HHs := hid (HHas.out bb hbb)
      have hat := HAt.out
      clear hbb HHas hlt HLt hat
      go_wp2
      go_cut [6, 19] (fun x6 v wx => x6 = .int .i64 (k : Int) ∧ v = .bool false ∧ Below W1.heap.size W1 wx)
      case first =>
        by_cases hkn : k < n
        · obtain ⟨g, Ak', nk', ck', Av', nv', cv', rfl, hcells⟩ := HEl.out k hkn
          obtain ⟨a0, a1, a2, a3, a4, ar⟩ := hcells wr hbr
          have hneg := HAt.out hkn
          clear HAt HBB HEl HP
          generalize elt noEnt es k = x at *
          have HAr := hid ar
          obtain ⟨C, hC⟩ : ∃ C, aheadR x e = C := ⟨_, rfl⟩
          rw [hC] at hneg
          have HCm := hid hC
          have HD : Hid (decide (C < 0) = false) := decide_eq_false (by omega)
          clear ar hC hneg hcells
          go_region_with (go_at_call 45; (with_reducible refine (refahead_any Ak' nk' ck' Av' nv' cv' x Ak nk ck Av nv cv e _ HAr.out.drew HKr.out.drew).mono ?_); rintro r w1 ⟨rfl, hb1⟩; rw [HCm.out])
          all_goals
            go_wp2
            go_meet
            exact ⟨rfl, by rw [HD.out], below_then hBr (below_then (below_drew (Below.refl _ _)) hb1)⟩
        · have hd : decide ((k : Int) < (n : Int)) = false := decide_eq_false (by omega)
          clear HAt HBB HEl HP
          go_quiet (fail)
          go_wp2
          go_meet
          exact ⟨rfl, rfl, below_drewN hBr _⟩
      case rest =>
        obtain ⟨rfl, rfl, hB3⟩ := hcut
        clear hBr hbr hbxr e0 e1 e2 e3 e4 HKr
        have hbr := below_then hB0 hB3
        have hbxr := blk_below hB3 hbx
        have e0 := box_at hbxr 0 _ rfl
        have e1 := box_at hbxr 1 _ rfl
        have e2 := box_at hbxr 2 _ rfl
        have e3 := box_at hbxr 3 _ rfl
        have e4 := box_at hbxr 4 _ rfl
        have HKr := hid (HK.out.below (below_pre HW.out hbr))
        go_wp2
        go_cut [34] (fun v wx => v = .bool bb ∧ Below W1.heap.size W1 wx)
        case first =>
          by_cases hkn : k < n
          · obtain ⟨g, Ak', nk', ck', Av', nv', cv', rfl, hcells⟩ := HEl.out k hkn
            obtain ⟨a0, a1, a2, a3, a4, ar⟩ := hcells _ hbr
            have hz := HBB.out
            clear HAt HBB HEl HP HHs
            generalize elt noEnt es k = x at *
            have HAr := hid ar
            obtain ⟨C, hC⟩ : ∃ C, aheadR x e = C := ⟨_, rfl⟩
            rw [hC] at hz
            have HCm := hid hC
            have HD : Hid ((C == 0) = bb) := by unfold Hid; cases bb <;> simp_all
            clear ar hC hcells hz
            go_region_with (go_at_call 45; (with_reducible refine (refahead_any Ak' nk' ck' Av' nv' cv' x Ak nk ck Av nv cv e _ HAr.out.drew HKr.out.drew).mono ?_); rintro r w1 ⟨rfl, hb1⟩; rw [HCm.out])
            all_goals
              go_wp2
              go_meet
              exact ⟨by rw [HD.out], below_then hB3 (below_then (below_drew (Below.refl _ _)) hb1)⟩
          · have hd : decide ((k : Int) < (n : Int)) = false := decide_eq_false (by omega)
            have hbf : bb = false := by
              cases hq : bb
              · rfl
              · exact absurd (HBB.out.2 hq).1 hkn
            clear HAt HBB HEl HP HHs
            subst hbf
            go_quiet (fail)
            go_wp2
            go_meet
            exact ⟨rfl, below_drewN hB3 _⟩
        case rest =>
          obtain ⟨rfl, hB4⟩ := hcut
          clear hbr hbxr e0 e1 e2 e3 e4 HKr hB3
          have hb4 := below_then hB0 hB4
          cases bb
          · have hp : putE es e = es.take k ++ e :: es.drop k := by
              unfold putE
              rw [HHs.out, ins_pos, HP.out]
              rfl
            have HPut := hid hp
            clear hp HAt HBB HEl HP
            obtain ⟨c2, hs1, hr1, _⟩ := cutE_hi (A := A) hnc hPle (k : Int) rfl
            obtain ⟨A3, c3, hs2, hr2, _⟩ := cutE_lo (A := A) hnc hPle (k : Int) rfl
            have hbx4 := blk_below hB4 hbx
            have hRd := (HOwn.out.below hb4).reads HVl.out
            have hRd1 := hr1 _ _ hRd
            have hRd2 := hr2 _ _ hRd
            rw [← flat_take V k HOwn.out.2] at hRd1
            rw [← flat_drop V k HOwn.out.2] at hRd2
            have h51 : ∀ x ∈ V.take k, x.length = 5 := fun x hx => HOwn.out.2 x (List.mem_of_mem_take hx)
            have h52 : ∀ x ∈ V.drop k, x.length = 5 := fun x hx => HOwn.out.2 x (List.mem_of_mem_drop hx)
            have hm1 : (V.take k).length = k := by rw [List.length_take, HVl.out]; omega
            have hm2 : (V.drop k).length = n - k := by rw [List.length_drop, HVl.out]
            have hu1 : ∀ u ∈ (V.take k).flatten, u.oneCell' = true := (HRel.out.take k).ones
            have hu2 : ∀ u ∈ (V.drop k).flatten, u.oneCell' = true := (HRel.out.drop k).ones
            have HR1 := hid hRd1
            have HR2 := hid hRd2
            have HM := hid (⟨hm1, hm2, h51, h52, hu1, hu2⟩ : _ ∧ _ ∧ _ ∧ _ ∧ _ ∧ _)
            have hBc : Below wc.heap.size wc wc := Below.refl _ _
            have hBd : Below wc.heap.size wc wc.drew := (Below.refl _ _).drew
            have HSG : Hid (∀ w' : World, Below wc.heap.size wc w' → (w'.cell? ⟨b, 0, none⟩ = some (.slice Ak nk ck) ∧ w'.cell? ⟨b, 1, none⟩ = some (.int .i64 (eSeq e)) ∧ w'.cell? ⟨b, 2, none⟩ = some (.bool (eGone e)) ∧ w'.cell? ⟨b, 3, none⟩ = some (.int .i64 (eTil e)) ∧ w'.cell? ⟨b, 4, none⟩ = some (.slice Av nv cv))) := fun w' hw => by
              have h := blk_below hw hbx4
              exact ⟨box_at h 0 _ rfl, box_at h 1 _ rfl, box_at h 2 _ rfl, box_at h 3 _ rfl, box_at h 4 _ rfl⟩
            clear hRd hRd1 hRd2 hr1 hr2 h51 h52 hm1 hm2 hu1 hu2 hbx4
            have HFin : Hid (∀ v3 w3, OV w3 wc.heap.size 29 5 v3 ((([] ++ V.take k) ++ [[.slice Ak nk ck, .int .i64 (eSeq e), .bool (eGone e), .int .i64 (eTil e), .slice Av nv cv]]) ++ V.drop k) → Below wc.heap.size wc w3 → PutC W0 base w w3 es e (.returned (.tuple #[v3, .bool true]))) := by
              intro v3 w3 h1 h2
              refine ⟨v3, _, by rw [HHs.out]; rfl, ⟨own_mono h1.1 (Nat.le_trans HBb.out hb4.size), h1.2⟩, ?_, below_then hb4 h2⟩
              rw [HPut.out, show es.take k ++ e :: es.drop k = (([] ++ es.take k) ++ [e]) ++ es.drop k by simp]
              refine RelV.app (RelV.app (RelV.app RelV.nil (HRel.out.take k)) ?_) (HRel.out.drop k)
              exact RelV.snoc RelV.nil ⟨Ak, nk, ck, Av, nv, cv, rfl, HK.out, HV.out, HC.out.1, HC.out.2⟩
            go_wp2
            go_region_held_law (fun w' => w'.cell? ⟨b, 0, none⟩ = some (.slice Ak nk ck) ∧ w'.cell? ⟨b, 1, none⟩ = some (.int .i64 (eSeq e)) ∧ w'.cell? ⟨b, 2, none⟩ = some (.bool (eGone e)) ∧ w'.cell? ⟨b, 3, none⟩ = some (.int .i64 (eTil e)) ∧ w'.cell? ⟨b, 4, none⟩ = some (.slice Av nv cv))
              (first | exact HSG.out _ (by assumption) | exact HSG.out _ (below_alloc' (by assumption) _))
              (first
                | (refine stepV_append 22 29 _ 5 72 Tryd.underlying22 eninfo rfl (by omega) wc _ (by rfl) (.const (.slice none 0 0)) (.tmp 38) (by rfl) (.slice none 0 0) [] (by rfl) (OV.nil _ _ _ _) A k c2 (V.take k) (by rfl) (HR1.out.below (by first | assumption | exact below_alloc' (by assumption) _)) HM.out.2.2.1 HM.out.1 HM.out.2.2.2.2.1 (by simp only [maxLen, List.length_nil]; omega) (by simp only [List.length_nil]; omega) (by first | assumption | exact below_alloc' (by assumption) _) ?_; intro v1 w1 hown1 hB1 hg1)
                | (refine stepV_append 22 29 _ 5 72 Tryd.underlying22 eninfo rfl (by omega) wc _ (by rfl) (.tmp 39) (.tmp 41) (by rfl) v1 ([] ++ V.take k) (by rfl) (hown1.below (below_alloc' (Below.refl _ _) _)) _ 1 1 [[.slice Ak nk ck, .int .i64 (eSeq e), .bool (eGone e), .int .i64 (eTil e), .slice Av nv cv]] (by rfl) (Reads.block (heap_alloc_new w1 _) rfl) (by intro x hx; rw [List.mem_singleton] at hx; subst hx; rfl) rfl (ones5 rfl rfl rfl rfl rfl) (by have := HM.out.1; simp only [maxLen, List.nil_append]; omega) (by have := HM.out.1; simp only [List.nil_append]; omega) (below_alloc' hB1 _) ?_; intro v2 w2 hown2 hB2 hg2)
                | (refine stepV_append 22 29 _ 5 72 Tryd.underlying22 eninfo rfl (by omega) wc _ (by rfl) (.tmp 39) (.tmp 41) (by rfl) v1 ([] ++ V.take k) (by rfl) hown1 _ 1 1 [[.slice Ak nk ck, .int .i64 (eSeq e), .bool (eGone e), .int .i64 (eTil e), .slice Av nv cv]] (by rfl) (Reads.block (blk_grown' hg1 (heap_alloc_new _ _) (by intro e; cases e)) rfl) (by intro x hx; rw [List.mem_singleton] at hx; subst hx; rfl) rfl (ones5 rfl rfl rfl rfl rfl) (by have := HM.out.1; simp only [maxLen, List.nil_append]; omega) (by have := HM.out.1; simp only [List.nil_append]; omega) hB1 ?_; intro v2 w2 hown2 hB2 hg2)
                | (refine stepV_append 22 29 _ 5 72 Tryd.underlying22 eninfo rfl (by omega) wc _ (by rfl) (.tmp 42) (.tmp 45) (by rfl) v2 (([] ++ V.take k) ++ [[.slice Ak nk ck, .int .i64 (eSeq e), .bool (eGone e), .int .i64 (eTil e), .slice Av nv cv]]) (by rfl) hown2 A3 (n - k) c3 (V.drop k) (by rfl) (HR2.out.below hB2) HM.out.2.2.2.1 HM.out.2.1 HM.out.2.2.2.2.2 (by have := HM.out.1; simp only [maxLen, List.nil_append, List.length_append, List.length_cons, List.length_nil]; omega) (by have := HM.out.1; simp only [List.nil_append, List.length_append, List.length_cons, List.length_nil]; omega) hB2 ?_; intro v3 w3 hown3 hB3 hg3))
            all_goals
              go_wp2
              go_ret2
              refine (congrArg (PutC W0 base w w3 es e) ?_).mpr (HFin.out _ _ hown3 hB3)
              simp
          · have hp : putE es e = es := by unfold putE; rw [HHs.out]; rfl
            go_wp2
            go_ret2
            exact ⟨_, V, by rw [HHs.out]; rfl, HOwn.out.below hb4, by rw [hp]; exact HRel.out, by have := HbE.out; subst this; exact hb4⟩
end Go.Proofs.YtkkclkknpjapcaaDoor
/-! ### BkL -/
namespace Go.Proofs.YtkkclkknpjapcaaDoor
open Go.RowKit
set_option linter.unusedVariables false
set_option linter.unusedSimpArgs false

theorem put_mem' {l : List EntR} {e x : EntR} (h : x ∈ putE l e) : x ∈ l ∨ x = e := by
  unfold putE at h
  split at h
  · exact .inl h
  · unfold insE at h
    rw [← pre_suf (eKey e) (eSeq e) l]
    simp only [List.mem_append, List.mem_cons] at h ⊢
    rcases h with h | h | h
    · exact .inl (.inl h)
    · exact .inr h
    · exact .inl (.inr h)
theorem put_len' (l : List EntR) (e : EntR) : (putE l e).length ≤ l.length + 1 := by
  unfold putE
  split
  · omega
  · have := congrArg List.length (pre_suf (eKey e) (eSeq e) l)
    rw [List.length_append] at this
    simp only [insE, List.length_append, List.length_cons]
    omega
theorem box5 {w : World} {b : Nat} {c0 c1 c2 c3 c4 : Value} {T : TypeId} {fr : Nat × Nat} (h : w.heap[b]? = some (.cells #[c0, c1, c2, c3, c4] T fr)) : w.cell? ⟨b, 0, none⟩ = some c0 ∧ w.cell? ⟨b, 1, none⟩ = some c1 ∧ w.cell? ⟨b, 2, none⟩ = some c2 ∧ w.cell? ⟨b, 3, none⟩ = some c3 ∧ w.cell? ⟨b, 4, none⟩ = some c4 :=
  ⟨box_at h 0 _ rfl, box_at h 1 _ rfl, box_at h 2 _ rfl, box_at h 3 _ rfl, box_at h 4 _ rfl⟩
/-- A sorted row so far. -/
def SoB (w wr : World) (v : Value) (j : Nat) : Prop := ∃ (es : List EntR) (U : List (List Value)), OV wr w.heap.size 29 5 v U ∧ RelV noEnt (PER w) U es ∧ Srt es ∧ es.length ≤ j ∧ es.length ≤ 60 ∧ (∀ e ∈ es, mayE e = true) ∧ Below w.heap.size w wr
theorem SoB.below {w wr w' : World} {v : Value} {j : Nat} (h : SoB w wr v j) (hb : Below wr.heap.size wr w') : SoB w w' v j := by
  obtain ⟨es, U, h1, h2, h3, h4, h5, h6, h7⟩ := h
  exact ⟨es, U, h1.below hb, h2, h3, h4, h5, h6, below_then h7 hb⟩
theorem SoB.more {w wr : World} {v : Value} {j : Nat} (h : SoB w wr v j) : SoB w wr v (j + 1) := by
  obtain ⟨es, U, h1, h2, h3, h4, h5, h6, h7⟩ := h
  exact ⟨es, U, h1, h2, h3, by omega, h5, h6, h7⟩
/-- What sorted leaves. -/
def SrtdB (w w' : World) (r : Ending) : Prop := ∃ A c L, r = .returned (.slice A L.length c) ∧ L.length ≤ c ∧ REnts w' A L.length L ∧ Srt L ∧ AllM L ∧ L.length ≤ 60 ∧ Below w.heap.size w w'
end Go.Proofs.YtkkclkknpjapcaaDoor
/-! ### ER -/
namespace Go.Proofs.YtkkclkknpjapcaaDoor
open Go.RowKit Go.WideShapes
set_option linter.unusedVariables false
set_option linter.unusedSimpArgs false

section
variable {H : Type} {enc : TypeId × Value → H} {W : World} {base : Nat} {spare : Nat → Bool} {held : Bool}
theorem bytes_of_trod {fuel : Nat} {c : Value} {x : DataW H × List MemPlace} (h : DataW.trod enc Tryd.prog W base spare held fuel 23 [c] = some x) : ∃ A n cp xs, c = .slice A n cp ∧ RB W A n xs ∧ n ≤ cp := by
  have hform : ∃ A n cp, c = .slice A n cp := by
    rcases DataW.trod_slice Tryd.underlying23 h with ⟨h0, _⟩ | ⟨_, _, _, _, _, _, _, h0, _⟩
    · exact ⟨none, 0, 0, by simpa using h0⟩
    · exact ⟨_, _, _, by simpa using h0⟩
  obtain ⟨A, n, cp, rfl⟩ := hform
  obtain ⟨xs, h1, h2⟩ := RB_of_trod (d := x.1) (ps := x.2) Tryd.underlying23 Tryd.underlying5 (by kernel_rfl) ⟨fuel, by simpa [Value.cells] using h⟩
  exact ⟨A, n, cp, xs, rfl, h1, h2⟩
theorem cellsEn : Tryd.prog.cellsOf 29 = 5 := by kernel_rfl
theorem cellsB : Tryd.prog.cellsOf 23 = 1 := by kernel_rfl
theorem cellsL : Tryd.prog.cellsOf 4 = 1 := by kernel_rfl
theorem cellsI : Tryd.prog.cellsOf 2 = 1 := by kernel_rfl
set_option maxRecDepth 100000 in
theorem ent_of_trod {fuel : Nat} {cs : List Value} {x : DataW H × List MemPlace} (h : DataW.trod enc Tryd.prog W base spare held fuel 29 cs = some x) :
    ∃ Ak nk ck s g u Av nv cv key val, cs = [.slice Ak nk ck, .int .i64 s, .bool g, .int .i64 u, .slice Av nv cv] ∧ RB W Ak nk key ∧ nk ≤ ck ∧ RB W Av nv val ∧ nv ≤ cv := by
  obtain ⟨xs, n, _, rfl, hl, hlen, hf⟩ := DataW.trod_struct Tryd.underlying29 h
  rw [cellsEn] at hl
  match cs, hl with
  | [c0, c1, c2, c3, c4], _ =>
    match xs, hlen with
    | [y0, y1, y2, y3, y4], _ =>
      have f0 := hf 0 _ rfl
      have f1 := hf 1 _ rfl
      have f2 := hf 2 _ rfl
      have f3 := hf 3 _ rfl
      have f4 := hf 4 _ rfl
      simp only [cellsB, cellsL, cellsI, List.drop_zero, List.drop_succ_cons, List.take_succ_cons, List.take_zero, List.getElem?_cons_zero, List.getElem?_cons_succ] at f0 f1 f2 f3 f4
      obtain ⟨Ak, nk, ck, key, rfl, k1, k2⟩ := bytes_of_trod f0
      obtain ⟨s, e1, _, _⟩ := DataW.trod_int Tryd.underlying2 f1
      obtain ⟨g, e2, _⟩ := DataW.trod_bool Tryd.underlying4 f2
      obtain ⟨u, e3, _, _⟩ := DataW.trod_int Tryd.underlying2 f3
      obtain ⟨Av, nv, cv, val, rfl, v1, v2⟩ := bytes_of_trod f4
      cases e1
      cases e2
      cases e3
      exact ⟨Ak, nk, ck, s, g, u, Av, nv, cv, key, val, rfl, k1, k2, v1, v2⟩
set_option maxRecDepth 100000 in
theorem REnts_of_trod {A : Option Addr} {len cap : Nat} {d : DataW H} {ps : List MemPlace} (h : DataW.Trod enc Tryd.prog W base spare held 22 (.slice A len cap) d ps) : ∃ es, REnts W A len es ∧ len ≤ cap := by
  obtain ⟨fuel, h⟩ := h
  rcases Go.Deep.open_slice Tryd.underlying22 h with ⟨hcs, _⟩ | ⟨a, l, cp, m, n, D, Pl, hcs, _, hl, hm, hmm, _, hcell⟩
  · simp only [Value.cells, List.cons.injEq, and_true, Value.slice.injEq] at hcs
    obtain ⟨rfl, rfl, rfl⟩ := hcs
    exact ⟨[], REnts.nil _, Nat.le_refl _⟩
  · simp only [Value.cells, List.cons.injEq, and_true, Value.slice.injEq] at hcs
    obtain ⟨rfl, rfl, rfl⟩ := hcs
    have hl2 : len ≤ m := by
      rw [hmm]
      split
      · exact hl
      · exact Nat.le_refl _
    have each : ∀ j, ∃ o : EntR, j < len → EnC W (a.add (j * 5)) o := by
      intro j
      by_cases hj : j < len
      · obtain ⟨cs', h1, h2⟩ := hcell j (by omega)
        rw [cellsEn] at h1
        obtain ⟨_, _, hc⟩ := World.cells?_some h1
        obtain ⟨Ak, nk, ck, s, g, u, Av, nv, cv, key, val, rfl, k1, k2, v1, v2⟩ := ent_of_trod h2
        have c0 := hc 0 (by omega)
        have c1 := hc 1 (by omega)
        have c2 := hc 2 (by omega)
        have c3 := hc 3 (by omega)
        have c4 := hc 4 (by omega)
        have hsp := spot_of c0
        generalize a.add (j * 5) = ad at *
        obtain ⟨b, o, sp⟩ := ad
        simp only at hsp
        subst hsp
        rw [add_plain] at c0 c1 c2 c3 c4
        exact ⟨mkEnt key s g u val, fun _ => ⟨Ak, nk, ck, Av, nv, cv, c0, c1, c2, c3, c4, k1, v1, k2, v2⟩⟩
      · exact ⟨noEnt, fun h => absurd h hj⟩
    obtain ⟨F, hF⟩ := Classical.axiomOfChoice each
    refine ⟨(List.range len).map F, ⟨by simp, by simp only [maxLen] at hm; omega, fun _ => ⟨_, rfl, fun j hj => ?_⟩⟩, hl⟩
    have e : elt noEnt ((List.range len).map F) j = F j := by simp [elt, hj]
    rw [e]
    exact hF j hj
end
end Go.Proofs.YtkkclkknpjapcaaDoor
/-! ### BkB -/
namespace Go.Proofs.YtkkclkknpjapcaaDoor
open Go.RowKit
set_option linter.unusedVariables false
set_option linter.unusedSimpArgs false

theorem back_mod (z : Int) (m : Nat) (hm : 1 ≤ m ∧ m ≤ 4000000) (hz : -9223372036854775808 ≤ z ∧ z ≤ 9223372036854775807) : ∃ p : Nat, p < m ∧ (wrap64 (z.tmod m + m)).tmod m = (p : Int) := by
  have h1 := Int.tmod_lt_of_pos z (show (0 : Int) < m by omega)
  have h2 := Int.lt_tmod_of_pos z (show (0 : Int) < m by omega)
  generalize z.tmod m = t at *
  have e1 : wrap64 (t + m) = t + m := by unfold wrap64; omega
  have h3 : (t + m).tmod m = (t + m) % m := Int.tmod_eq_emod_of_nonneg (by omega)
  have h4 := Int.emod_nonneg (t + m) (show (m : Int) ≠ 0 by omega)
  have h5 := Int.emod_lt_of_pos (t + m) (show (0 : Int) < m by omega)
  rw [e1, h3]
  exact ⟨((t + m) % m).toNat, by omega, by omega⟩
theorem enc_size {es : List EntR} (h : FitK es) (h60 : es.length ≤ 60) : 8 ≤ (encK es).length ∧ (encK es).length ≤ 1000000 := by
  have hl := accK_len h.2.2.1 es.length (Nat.le_refl _)
  have hs := stK_len es es.length
  have h1 := h.1
  unfold encK
  rw [List.length_append, fix4_len, fixK_len, hs]
  have h2 : es.length * 2700 ≤ 162000 := Nat.mul_le_mul_right 2700 h60
  omega
/-- Decode of what Encode leaves. -/
theorem decode_enc (A : Option Addr) (n c : Nat) (es : List EntR) (w : World) (h : RB w A n (encK es)) (hc : n ≤ c) (hsz : n ≤ 100000000000) (hf : FitK es) :
    Calls Tryd.prog 56 #[.slice A n c] w fun r w' => ∃ A2 c2, r = .returned (.tuple #[.slice A2 es.length c2, .int .i64 0]) ∧ REnts w' A2 es.length es ∧ es.length ≤ c2 ∧ Below w.heap.size w w' := by
  refine (decode_any A n c (encK es) w h hc hsz).mono ?_
  intro r w' hd
  unfold DecC at hd
  rw [decF_enc hf] at hd
  obtain ⟨v, rfl, hr, hb⟩ := hd
  obtain ⟨A2, c2, rfl, hc2, hr2⟩ := hr.len (by have := hf.2.1; omega)
  exact ⟨A2, c2, rfl, hr2, hc2, hb⟩
/-- Decode of any bytes: what it tells is what was encoded to them. -/
def DecB (w w' : World) (xs : List UInt8) (r : Ending) : Prop := (∃ v, ∃ e : Int, e ≠ 0 ∧ r = .returned (.tuple #[v, .int .i64 e]) ∧ Below w.heap.size w w') ∨ (∃ A c es, r = .returned (.tuple #[.slice A es.length c, .int .i64 0]) ∧ REnts w' A es.length es ∧ FitK es ∧ encK es = xs ∧ Below w.heap.size w w')
theorem decode_back (A : Option Addr) (n c : Nat) (xs : List UInt8) (w : World) (h : RB w A n xs) (hc : n ≤ c) (hsz : n ≤ 100000000000) :
    Calls Tryd.prog 56 #[.slice A n c] w fun r w' => DecB w w' xs r := by
  refine (decode_any A n c xs w h hc hsz).mono ?_
  intro r w' hd
  unfold DecC at hd
  cases hx : decF xs with
  | none =>
    rw [hx] at hd
    obtain ⟨⟨e, he, rfl⟩, hb⟩ := hd
    exact .inl ⟨_, e, he, rfl, hb⟩
  | some es =>
    rw [hx] at hd
    obtain ⟨v, rfl, hr, hb⟩ := hd
    obtain ⟨hf, he⟩ := decF_some hx
    obtain ⟨A2, c2, rfl, hc2, hr2⟩ := hr.len (by have := hf.2.1; omega)
    exact .inr ⟨A2, c2, es, rfl, hr2, hf, he, hb⟩
end Go.Proofs.YtkkclkknpjapcaaDoor
/-! ### BkS2 -/
namespace Go.Proofs.YtkkclkknpjapcaaDoor
open Go.RowKit
set_option linter.unusedVariables false
set_option linter.unusedSimpArgs false

theorem addr_zero' (a : Addr) : a.add 0 = a := by simp [Addr.add]
theorem u8_not5 {w : World} {b : Nat} (hz : w.heap[b]? = some (.cells #[.slice none 0 0, .int .i64 0, .bool false, .int .i64 0, .slice none 0 0] 29 (0, 0))) {q : Addr} {x : Int} (hc : w.cell? q = some (.int .u8 x)) : q.block ≠ b := by
  intro e
  obtain ⟨bl, of, sp⟩ := q
  have hsp : sp = none := spot_of (ad := ⟨bl, of, sp⟩) (by rw [addr_zero']; exact hc)
  subst hsp
  change bl = b at e
  subst e
  rw [cell_of_row _ _ _ _ _ _ hz] at hc
  match of, hc with
  | 0, hc => cases hc
  | 1, hc => cases hc
  | 2, hc => cases hc
  | 3, hc => cases hc
  | 4, hc => cases hc
  | of + 5, hc => simp at hc
theorem RB.other5 {w w' : World} {A : Option Addr} {n b : Nat} {xs : List UInt8} (h : RB w A n xs) (hg : w.grownBy w' (some b)) (hz : w.heap[b]? = some (.cells #[.slice none 0 0, .int .i64 0, .bool false, .int .i64 0, .slice none 0 0] 29 (0, 0))) : RB w' A n xs := by
  refine h.keep fun ad _ j _ hc => ?_
  refine hg.cell hc ?_
  intro e
  exact u8_not5 hz hc (Option.some.inj e)
/-- The first place that is not ahead of a key and a number. -/
def PosA (L : List EntR) (key : List UInt8) (s : Int) (m : Nat) : Prop := m ≤ L.length ∧ (∀ t, t < m → aheadK (elt noEnt L t) key s = true) ∧ (∀ t, m ≤ t → t < L.length → aheadK (elt noEnt L t) key s = false)
theorem PosA.unique {L : List EntR} {key : List UInt8} {s : Int} {m k : Nat} (h : PosA L key s m) (hk : k ≤ L.length) (h1 : ∀ t, t < k → aheadK (elt noEnt L t) key s = true) (h2 : k < L.length → aheadK (elt noEnt L k) key s = false) : m = k := by
  rcases Nat.lt_trichotomy k m with h3 | h3 | h3
  · have a := h.2.1 k h3
    have b := h2 (by have := h.1; omega)
    rw [a] at b; cases b
  · exact h3.symm
  · have a := h1 m h3
    have b := h.2.2 m (Nat.le_refl _) (by omega)
    rw [a] at b; cases b
theorem ahead_mono {L : List EntR} (hs : Srt L) {key : List UInt8} {s : Int} {a b : Nat} (h1 : a ≤ b) (h2 : b < L.length) (h : (!aheadK (elt noEnt L a) key s) = true) : (!aheadK (elt noEnt L b) key s) = true := by
  rcases Nat.eq_or_lt_of_le h1 with h3 | h3
  · rw [← h3]; exact h
  · cases hq : aheadK (elt noEnt L b) key s
    · rfl
    · rw [ahead_trans (hs.at_ a b h3 h2) hq] at h
      cases h
def BkSeekC (w w' : World) (L : List EntR) (key : List UInt8) (s : Int) (r : Ending) : Prop := ∃ m, PosA L key s m ∧ Below w.heap.size w w' ∧
  ((m < L.length ∧ ∃ Ak nk ck Av nv cv, r = .returned (.tuple #[.agg #[.slice Ak nk ck, .int .i64 (eSeq (elt noEnt L m)), .bool (eGone (elt noEnt L m)), .int .i64 (eTil (elt noEnt L m)), .slice Av nv cv], .bool true]) ∧ RB w' Ak nk (eKey (elt noEnt L m)) ∧ RB w' Av nv (eVal (elt noEnt L m))) ∨
   (m = L.length ∧ r = .returned (.tuple #[.agg #[.slice none 0 0, .int .i64 0, .bool false, .int .i64 0, .slice none 0 0], .bool false])))
end Go.Proofs.YtkkclkknpjapcaaDoor
/-! ### BlU -/
namespace Go.Proofs.YtkkclkknpjapcaaDoor
open Go.RowKit
set_option linter.unusedVariables false
set_option linter.unusedSimpArgs false

theorem probesL_nat {xs : List UInt8} {M : Nat} (hM : 0 < M) : probesL xs (M : Int) = probesI (hashN xs) M 6 := by
  unfold probesL
  rw [if_neg (by omega)]
  rfl
end Go.Proofs.YtkkclkknpjapcaaDoor
