/- Layer 16's laws: sorted: the walk. -/
import Derived.Test.YtnjhiiakpndnnaaMgP
namespace Go.Proofs.Ytnjhiiakpndnnaa
open Go.RowKit
set_option linter.unusedVariables false
set_option linter.unusedSimpArgs false

theorem box5 {w : World} {b : Nat} {c0 c1 c2 c3 c4 : Value} {T : TypeId} {fr : Nat × Nat} (h : w.heap[b]? = some (.cells #[c0, c1, c2, c3, c4] T fr)) : w.cell? ⟨b, 0, none⟩ = some c0 ∧ w.cell? ⟨b, 1, none⟩ = some c1 ∧ w.cell? ⟨b, 2, none⟩ = some c2 ∧ w.cell? ⟨b, 3, none⟩ = some c3 ∧ w.cell? ⟨b, 4, none⟩ = some c4 :=
  ⟨box_at h 0 _ rfl, box_at h 1 _ rfl, box_at h 2 _ rfl, box_at h 3 _ rfl, box_at h 4 _ rfl⟩
set_option maxHeartbeats 32000000 in
set_option maxRecDepth 100000 in
theorem sorted_any (A : Option Addr) (n c : Nat) (ess : List (List EntR)) (w : World) (h : REnss w A n ess) (hlt : LtK ess n) : Calls Try.prog 11 #[.slice A n c] w fun r w' => SortedC w w' n (totR ess) r := by
  have hl := h.1
  have hmax := h.2.1
  have H := hid h
  have HL := hid hlt
  have HTs : Hid (∀ k, k < n → totR (ess.take (k + 1)) = totR (ess.take k) + (er ess k).length) := fun k hk => tot_take (by rw [hl]; exact hk)
  have HTe : Hid (totR (ess.take n) = totR ess) := by unfold Hid; rw [List.take_of_length_le (by rw [hl]; exact Nat.le_refl _)]
  have HK0 : Hid (SoK w w (.slice none 0 0) 0 0) := hid ⟨[], RRowR.nil _ _ _, rfl, fun es h => (by cases h), by simp [totR], Below.refl _ _⟩
  clear h hl hlt
  go_enter Try.func11, Try.ntmps11
  go_wp2
  go_loopw [3, 11] (fun v i wr => ∃ k : Nat, k ≤ n ∧ i = .int .i64 k ∧ SoK w wr v k (totR (ess.take k))) (fun v i wr => n - (intOf i).toNat)
  case atStart => exact ⟨0, Nat.zero_le _, rfl, HK0.out⟩
  case round =>
    clear HK0
    obtain ⟨k, hk, rfl, hK⟩ := hrel
    by_cases hlt : k < n
    · obtain ⟨wo, rfl⟩ : ∃ wo, wo = wr := ⟨_, rfl⟩
      have hBo : Below w.heap.size w wo := by obtain ⟨R, h1, h2, h3, h4, h5⟩ := hK; exact h5
      obtain ⟨ad, rfl, Aj, nj, cj, hcj, hrj, hnc⟩ := H.out.at_ hlt
      have hcj := below_cell hBo hcj
      have hjm := hrj.2.1
      have hj3 : nj ≤ 300 := by have := (HL.out.2.2 k hlt).1; rw [hrj.1] at this; exact this
      have HE : Hid (LtE (er ess k) nj) := by have := (HL.out.2.2 k hlt).2; rw [hrj.1] at this; exact this
      have HRj := hid hrj
      have HK := hid hK
      have HTs2 : Hid (totR (ess.take (k + 1)) = totR (ess.take k) + nj) := by unfold Hid; rw [HTs.out k hlt, hrj.1]
      have HR0 : Hid (SoR w wo (.slice none 0 0) 0) := hid ⟨[], ⟨[], OV.nil _ _ _ _, RelV.nil⟩, trivial, by simp, fun e h => (by cases h), hBo⟩
      have HBo := hid hBo
      clear hrj hK
      go_wp2
      go_loopw [6, 18] (fun v i wx => ∃ j : Nat, j ≤ nj ∧ i = .int .i64 j ∧ SoR w wx v j ∧ Below wo.heap.size wo wx) (fun v i wx => nj - (intOf i).toNat)
      case atStart => exact ⟨0, Nat.zero_le _, rfl, HR0.out, Below.refl _ _⟩
      case round =>
        clear HR0
        obtain ⟨j, hj, rfl, hS, hBi⟩ := hrel
        have hBw := below_then HBo.out hBi
        by_cases hjl : j < nj
        · obtain ⟨ae, rfl, hc1⟩ := HRj.out.at_ hjl
          obtain ⟨Ak, nk, ck, Av, nv, cv, a0, a1, a2, a3, a4, a5, a6, a7, a8⟩ := hc1
          have a0 := below_cell hBw a0
          have a1 := below_cell hBw a1
          have a2 := below_cell hBw a2
          have a3 := below_cell hBw a3
          have a4 := below_cell hBw a4
          have hsm := HE.out j hjl
          generalize elt noEnt (er ess k) j = x at *
          have HSm : Hid (SmE x) := hid ⟨by omega, by omega⟩
          have HKV := hid (⟨a5, a6, a7, a8⟩ : _ ∧ _ ∧ _ ∧ _)
          have hba := below_alloc' (Below.refl wr.heap.size wr) (.cells #[.slice Ak nk ck, .int .i64 (eSeq x), .bool (eGone x), .int .i64 (eTil x), .slice Av nv cv] 35)
          have hbn := heap_alloc_new wr (.cells #[.slice Ak nk ck, .int .i64 (eSeq x), .bool (eGone x), .int .i64 (eTil x), .slice Av nv cv] 35)
          obtain ⟨x0, x1, x2, x3, x4⟩ := box5 hbn
          have HBa := hid hba
          have HSn := hid (hS.below hba).more
          have HS := hid hS
          clear a5 a6 a7 a8 hsm hS hba hbn
          by_cases hp : k < 20 ∧ j < 30
          · have hd1 : decide ((k : Int) < 20) = true := decide_eq_true (by omega)
            have hd2 : decide ((j : Int) < 30) = true := decide_eq_true (by omega)
            obtain ⟨es, ⟨U, hU, hUr⟩, hs1, hs2, hs3, hs4⟩ := HS.out
            obtain ⟨Ao, co, hve, _⟩ := hU.openN es.length hUr.1
            subst hve
            have HU := hid hU
            have HUr := hid hUr
            have HQ := hid (⟨hs1, hs2, hs3⟩ : _ ∧ _ ∧ _)
            have hB2 := hid (below_then hBw HBa.out)
            clear hU hUr hs1 hs2 hs3 hs4 hp
            go_wp2_with (go_at_call 24; (with_reducible refine (refput_any w w.heap.size Ao es.length co U es Ak nk ck Av nv cv x _ hB2.out (HU.out.below HBa.out) HUr.out hB2.out.size HKV.out.1 HKV.out.2.1 HKV.out.2.2.1 HKV.out.2.2.2 rfl (by have := HQ.out.2.1; omega)).mono ?_); rintro r w5 ⟨v5, V5, rfl, hv5, hr5, hb5⟩)
            have HN := hid (SoR.put HQ.out.1 HQ.out.2.1 HQ.out.2.2 HSm.out hv5 hr5 (below_then hB2.out hb5))
            have HB5 := hid (below_then (below_then hBi HBa.out) hb5)
            clear hv5 hr5
            go_roundw
            case rel => exact ⟨j + 1, by omega, by go_num, HN.out, HB5.out⟩
            case measure => simp [intOf]; omega
          · by_cases hk2 : k < 20
            · have hd1 : decide ((k : Int) < 20) = true := decide_eq_true (by omega)
              have hd2 : decide ((j : Int) < 30) = false := decide_eq_false (by omega)
              clear hp
              go_wp2
              go_roundw
              case rel => exact ⟨j + 1, by omega, by go_num, HSn.out, below_then hBi HBa.out⟩
              case measure => simp [intOf]; omega
            · have hd1 : decide ((k : Int) < 20) = false := decide_eq_false (by omega)
              clear hp
              go_wp2
              go_roundw
              case rel => exact ⟨j + 1, by omega, by go_num, HSn.out, below_then hBi HBa.out⟩
              case measure => simp [intOf]; omega
        · obtain rfl : j = nj := by omega
          obtain ⟨es, hes, hs1, hs2, hs3, hs4⟩ := hS
          obtain ⟨R, ⟨V, hV, hVr⟩, hR2, hR3, hR4, hR5⟩ := HK.out.below hBi
          have hVl : V.length = k := by rw [hVr.1, hR2]
          have hk70 := HL.out.1
          have hes2 := hes
          obtain ⟨U, hU, hUr⟩ := hes2
          obtain ⟨Ao, co, hve, _⟩ := hU.openN es.length hUr.1
          subst hve
          have HV := hid hV
          have HVr := hid hVr
          have Hes := hid hes
          have HQ := hid (⟨hs1, hs2, hs3⟩ : _ ∧ _ ∧ _)
          have HR := hid (⟨hR2, hR3, hR4⟩ : _ ∧ _ ∧ _)
          clear hV hVr hes hs1 hs2 hs3 hs4 hR2 hR3 hR4 hR5 hU hUr
          go_wp2_with (at_builtin; go_loud (refine wpV_append1 22 27 _ 1 24 Try.underlying22 rowinfo rfl (by omega) w wr w.heap.size rfl (.tmp 36) (.tmp 38) rfl u3 V rfl HV.out #[.slice Ao es.length co] rfl (by intro u hu; simp only [List.mem_cons, List.not_mem_nil, or_false] at hu; subst hu; rfl) 1 _ (by first | rfl | simp) rfl (by simp only [maxLen]; omega) (by omega) hBw hBw.size ?_); intro v' w' hown' hB' hg' _)
          have HN : Hid (SoK w w' v' (k + 1) (totR (ess.take (k + 1)))) := by
            unfold Hid
            refine ⟨R ++ [es], RRowR.step HV.out HVr.out Hes.out hg' hown', by simp [HR.out.1], fun l hl => ?_, ?_, hB'⟩
            · rcases List.mem_append.1 hl with hl | hl
              · exact HR.out.2.1 l hl
              · rw [List.mem_singleton] at hl; rw [hl]; exact ⟨HQ.out.1, HQ.out.2.2⟩
            · rw [totR_app, HTs2.out]
              have h1 := HR.out.2.2
              have h2 := HQ.out.2.1
              simp [totR]
              omega
          go_roundw
          case rel => exact ⟨k + 1, by omega, by go_num, HN.out⟩
          case measure => simp [intOf]; omega
    · obtain rfl : k = n := by omega
      have hk70 := HL.out.1
      have hD := hK.done hmax (by have := HL.out.2.1; omega)
      rw [HTe.out] at hD
      have HD := hid hD
      obtain ⟨Ao, co, R, hve, _⟩ := hD
      have HV := hid hve
      clear hK
      go_wp2
      go_ret
      exact HD.out
end Go.Proofs.Ytnjhiiakpndnnaa
