/- Layer 11's laws: sorted. -/
import Derived.Test.YteediedhofapkaaBkF
import Derived.Test.YteediedhofapkaaMmQn
namespace Go.Proofs.Yteediedhofapkaa
open Go.RowKit
set_option linter.unusedVariables false
set_option linter.unusedSimpArgs false

theorem put_mem' {l : List EntR} {e x : EntR} (h : x ∈ putE l e) : x ∈ l ∨ x = e := by
  unfold putE at h
  split at h
  · exact .inl h
  · unfold insE at h
    rw [← pre_suf (eKey e) (eSeq e) l]
    simp only [List.mem_append, List.mem_cons] at h ⊢
    rcases h with h | h | h
    · exact .inl (.inl h)
    · exact .inr h
    · exact .inl (.inr h)
theorem put_len' (l : List EntR) (e : EntR) : (putE l e).length ≤ l.length + 1 := by
  unfold putE
  split
  · omega
  · have := congrArg List.length (pre_suf (eKey e) (eSeq e) l)
    rw [List.length_append] at this
    simp only [insE, List.length_append, List.length_cons]
    omega
theorem box5 {w : World} {b : Nat} {c0 c1 c2 c3 c4 : Value} {T : TypeId} {fr : Nat × Nat} (h : w.heap[b]? = some (.cells #[c0, c1, c2, c3, c4] T fr)) : w.cell? ⟨b, 0, none⟩ = some c0 ∧ w.cell? ⟨b, 1, none⟩ = some c1 ∧ w.cell? ⟨b, 2, none⟩ = some c2 ∧ w.cell? ⟨b, 3, none⟩ = some c3 ∧ w.cell? ⟨b, 4, none⟩ = some c4 :=
  ⟨box_at h 0 _ rfl, box_at h 1 _ rfl, box_at h 2 _ rfl, box_at h 3 _ rfl, box_at h 4 _ rfl⟩
/-- A sorted row so far. -/
def SoB (w wr : World) (v : Value) (j : Nat) : Prop := ∃ (es : List EntR) (U : List (List Value)), OV wr w.heap.size 26 5 v U ∧ RelV noEnt (PER w) U es ∧ Srt es ∧ es.length ≤ j ∧ es.length ≤ 60 ∧ (∀ e ∈ es, mayE e = true) ∧ Below w.heap.size w wr
theorem SoB.below {w wr w' : World} {v : Value} {j : Nat} (h : SoB w wr v j) (hb : Below wr.heap.size wr w') : SoB w w' v j := by
  obtain ⟨es, U, h1, h2, h3, h4, h5, h6, h7⟩ := h
  exact ⟨es, U, h1.below hb, h2, h3, h4, h5, h6, below_then h7 hb⟩
theorem SoB.more {w wr : World} {v : Value} {j : Nat} (h : SoB w wr v j) : SoB w wr v (j + 1) := by
  obtain ⟨es, U, h1, h2, h3, h4, h5, h6, h7⟩ := h
  exact ⟨es, U, h1, h2, h3, by omega, h5, h6, h7⟩
/-- What sorted leaves. -/
def SrtdB (w w' : World) (r : Ending) : Prop := ∃ A c L, r = .returned (.slice A L.length c) ∧ L.length ≤ c ∧ REnts w' A L.length L ∧ Srt L ∧ AllM L ∧ L.length ≤ 60 ∧ Below w.heap.size w w'
set_option maxHeartbeats 16000000 in
set_option maxRecDepth 100000 in
theorem sorted_any (A : Option Addr) (n c : Nat) (es : List EntR) (w : World) (h : REnts w A n es) : Calls Try.prog 11 #[.slice A n c] w fun r w' => SrtdB w w' r := by
  have hmax := h.2.1
  have H := hid h
  clear h
  go_enter Try.func11, Try.ntmps11
  go_wp2
  go_loopw [3, 8] (fun v i wr => ∃ j : Nat, j ≤ n ∧ i = .int .i64 j ∧ SoB w wr v j) (fun v i wr => n - (intOf i).toNat)
  case atStart => exact ⟨0, Nat.zero_le _, rfl, [], [], OV.nil _ _ _ _, RelV.nil, trivial, Nat.le_refl _, Nat.zero_le _, fun e he => (by cases he), Below.refl _ _⟩
  case round =>
    obtain ⟨j, hj, rfl, hS⟩ := hrel
    have HS := hid hS
    obtain ⟨es0, U, hU, hUr, hs1, hs2, hs3, hs4, hBw⟩ := hS
    by_cases hjl : j < n
    · obtain ⟨ae, rfl, hc1⟩ := H.out.at_ hjl
      obtain ⟨Ak, nk, ck, Av, nv, cv, a0, a1, a2, a3, a4, a5, a6, a7, a8⟩ := hc1
      have a0 := below_cell hBw a0
      have a1 := below_cell hBw a1
      have a2 := below_cell hBw a2
      have a3 := below_cell hBw a3
      have a4 := below_cell hBw a4
      have hkl := a5.max
      have hvl := a6.max
      have e5 := a5.1
      have e6 := a6.1
      generalize elt noEnt es j = x at *
      obtain ⟨M, hM⟩ : ∃ M, mayE x = M := ⟨_, rfl⟩
      have hmN : mayN nk (eSeq x) (eGone x) (eTil x) nv = M := by rw [← e5, ← e6]; exact hM
      have HmN := hid hmN
      have HM := hid hM
      have HKV := hid (⟨a5, a6, a7, a8⟩ : _ ∧ _ ∧ _ ∧ _)
      have hba := below_alloc' (Below.refl wr.heap.size wr) (.cells #[.slice Ak nk ck, .int .i64 (eSeq x), .bool (eGone x), .int .i64 (eTil x), .slice Av nv cv] 26)
      have HSn := hid ((HS.out.below hba).more)
      have hB2 := hid (below_then hBw hba)
      obtain ⟨Ao, co, hve, _⟩ := hU.openN es0.length hUr.1
      subst hve
      have HU := hid (hU.below hba)
      have HUr := hid hUr
      have HQ := hid (⟨hs1, hs2, hs3, hs4⟩ : _ ∧ _ ∧ _ ∧ _)
      clear a5 a6 a7 a8 hM hmN e5 e6 hU hUr hs1 hs2 hs3 hs4 HS hBw hba
      by_cases hp : j < 60
      · have hd1 : decide ((j : Int) < 60) = true := decide_eq_true (by omega)
        cases M
        · go_wp2_with (go_at_call 21; (with_reducible refine (refmay_any Ak nk ck (eSeq x) (eGone x) (eTil x) Av nv cv _ hkl hvl).mono ?_); rintro r w4 ⟨rfl, hb4⟩; rw [HmN.out])
          go_roundw
          case rel => exact ⟨j + 1, by omega, by go_num, HSn.out.below hb4⟩
          case measure => simp [intOf]; omega
        · go_wp2_with (first
            | (go_at_call 21; (with_reducible refine (refmay_any Ak nk ck (eSeq x) (eGone x) (eTil x) Av nv cv _ hkl hvl).mono ?_); rintro r w4 ⟨rfl, hb4⟩; rw [HmN.out]; have HB4 := hid hb4; have hbx := heap_alloc_new wr (.cells #[.slice Ak nk ck, .int .i64 (eSeq x), .bool (eGone x), .int .i64 (eTil x), .slice Av nv cv] 26); obtain ⟨y0, y1, y2, y3, y4⟩ := box5 (blk_below hb4 hbx); clear hb4 hbx)
            | (go_at_call 29; (with_reducible refine (refputE_any w w.heap.size Ao es0.length co U es0 Ak nk ck Av nv cv x _ (below_then hB2.out HB4.out) (HU.out.below HB4.out) HUr.out (below_then hB2.out HB4.out).size HKV.out.1 HKV.out.2.1 HKV.out.2.2.1 HKV.out.2.2.2 rfl (by have := HQ.out.2.2.1; omega)).mono ?_); rintro r w5 ⟨v5, V5, rfl, hv5, hr5, hb5⟩))
          have HN : Hid (SoB w w5 v5 (j + 1)) := hid ⟨putE es0 x, V5, hv5, hr5, put_srt HQ.out.1, by have := put_len' es0 x; have := HQ.out.2.1; omega, by have := put_len' es0 x; have := HQ.out.2.1; omega, fun y hy => (put_mem' hy).elim (HQ.out.2.2.2 y) (fun h => by rw [h]; exact HM.out), below_then (below_then hB2.out HB4.out) hb5⟩
          clear hv5 hr5
          go_roundw
          case rel => exact ⟨j + 1, by omega, by go_num, HN.out⟩
          case measure => simp [intOf]; omega
      · have hd1 : decide ((j : Int) < 60) = false := decide_eq_false (by omega)
        go_wp2
        go_roundw
        case rel => exact ⟨j + 1, by omega, by go_num, HSn.out⟩
        case measure => simp [intOf]; omega
    · obtain rfl : j = n := by omega
      obtain ⟨A2, c2, hv2, hc2, hr2⟩ := REnts_of hU (hUr.mono fun x a hx => hx.below hBw) (by omega)
      subst hv2
      have HR := hid hr2
      have HAll : Hid (AllM es0) := hid (fun i hi => hs4 _ (elt_mem hi))
      have HSr := hid hs1
      clear hr2 hU hUr hs1 hs4 HS
      go_wp2
      go_ret
      exact ⟨A2, c2, es0, rfl, hc2, HR.out, HSr.out, HAll.out, hs3, hBw⟩
end Go.Proofs.Yteediedhofapkaa
