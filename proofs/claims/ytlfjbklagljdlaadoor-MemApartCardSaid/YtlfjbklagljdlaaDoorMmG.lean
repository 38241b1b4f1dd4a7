/- Layer 9: Latest. -/
import Derived.Test.YtlfjbklagljdlaaDoorMmF
namespace Go.Proofs.YtlfjbklagljdlaaDoor
open Go.RowKit
set_option linter.unusedVariables false
set_option linter.unusedSimpArgs false

theorem latest_none (Ak : Option Addr) (nk ck : Nat) (Ar : Option Addr) (nr cr : Nat) (s : Int) (w : World) : Calls Tryd.prog 27 #[.pointer none, .slice Ak nk ck, .slice Ar nr cr, .int .i64 s] w fun r w' => r = .returned (.slice none 0 0) ∧ w = w' := by
  go_enter Tryd.func27, Tryd.ntmps27
  go_wp2_with (go_at_call 19; (with_reducible refine (list_none Ak nk ck Ar nr cr _).mono ?_); rintro r w2 ⟨rfl, rfl⟩)
  go_loopg [9, 10, 18] 0 (fun g v lv i wr => v = .slice none 0 0 ∧ i = .int .i64 0 ∧ wr = w)
  case atStart => exact ⟨rfl, rfl, rfl⟩
  case round =>
    obtain ⟨rfl, rfl, rfl⟩ := hrel
    go_wp2
    go_ret
    exact ⟨rfl, rfl⟩
/-- What Latest's loop holds of the key that was there last. -/
def LastV (w : World) (base : Nat) (v : Value) (last : List UInt8) : Prop := (last = [] ∧ v = .slice none 0 0) ∨ (last ≠ [] ∧ OB w base v last)
theorem LastV.below {w w' : World} {base : Nat} {v : Value} {last : List UInt8} (h : LastV w base v last) (hb : Below w.heap.size w w') : LastV w' base v last := by
  rcases h with h | ⟨h1, h2⟩
  · exact .inl h
  · exact .inr ⟨h1, h2.below hb⟩
/-- Where Latest's loop stands: w1 is the world behind List. -/
def LatJ (w w1 wr : World) (L : List EntR) (s : Int) (v lv : Value) (k : Nat) (last : List UInt8) : Prop :=
  ∃ V os, latF s [] L = os ++ latF s last (L.drop k) ∧ V.length ≤ k ∧ OV wr w1.heap.size 28 5 v V ∧ RelV noEnt (PEo w1 w.heap.size) V os ∧ LastV wr w1.heap.size lv last ∧ Below w1.heap.size w1 wr
section
variable {w w1 wr w3 w4 : World} {L os : List EntR} {V : List (List Value)} {s : Int} {v v' lv lv' : Value} {k : Nat} {last : List UInt8} {cs : List Value} {x : EntR}
theorem LatJ.skip (hx : elt noEnt L k = x) (hk : k < L.length) (hlat : latF s [] L = os ++ latF s last (L.drop k)) (hV : V.length ≤ k) (hown : OV wr w1.heap.size 28 5 v V) (hrel : RelV noEnt (PEo w1 w.heap.size) V os) (hl : LastV wr w1.heap.size lv last)
    (hs : s < eSeq x ∨ (last ≠ [] ∧ last = eKey x)) (hb : Below wr.heap.size wr w3) (hB : Below w1.heap.size w1 w3) : LatJ w w1 w3 L s v lv (k + 1) last := by
  subst hx
  rw [drop_elt hk, latF_skip hs] at hlat
  exact ⟨V, os, hlat, by omega, hown.below hb, hrel, hl.below hb, hB⟩
theorem LatJ.gone (hx : elt noEnt L k = x) (hk : k < L.length) (hlat : latF s [] L = os ++ latF s last (L.drop k)) (hV : V.length ≤ k) (hown : OV wr w1.heap.size 28 5 v V) (hrel : RelV noEnt (PEo w1 w.heap.size) V os)
    (hs : ¬ (s < eSeq x ∨ (last ≠ [] ∧ last = eKey x))) (hg : eGone x = true) (hne : eKey x ≠ []) (hb : Below wr.heap.size wr w3) (hlv : OB w3 w1.heap.size lv' (eKey x)) (hB : Below w1.heap.size w1 w3) : LatJ w w1 w3 L s v lv' (k + 1) (eKey x) := by
  subst hx
  rw [drop_elt hk, latF_gone hs hg] at hlat
  exact ⟨V, os, hlat, by omega, hown.below hb, hrel, .inr ⟨hne, hlv⟩, hB⟩
theorem LatJ.take (hx : elt noEnt L k = x) (hk : k < L.length) (hlat : latF s [] L = os ++ latF s last (L.drop k)) (hV : V.length ≤ k) (hrel : RelV noEnt (PEo w1 w.heap.size) V os) (hp : PEo w1 w.heap.size cs x)
    (hs : ¬ (s < eSeq x ∨ (last ≠ [] ∧ last = eKey x))) (hg : eGone x = false) (hne : eKey x ≠ []) (hown4 : OV w4 w1.heap.size 28 5 v' (V ++ [cs])) (hg4 : w3.grownBy w4 v.ownBlock) (hv3 : OV w3 w1.heap.size 28 5 v V) (hlv : OB w3 w1.heap.size lv' (eKey x)) (hB : Below w1.heap.size w1 w4) : LatJ w w1 w4 L s v' lv' (k + 1) (eKey x) := by
  subst hx
  rw [drop_elt hk, latF_take hs hg] at hlat
  exact ⟨V ++ [cs], os ++ [elt noEnt L k], by rw [hlat]; simp, by simp; omega, hown4, hrel.snoc hp, .inr ⟨hne, hlv.other hg4 (hlv.apart_row hv3 (by decide))⟩, hB⟩
end
set_option maxHeartbeats 32000000 in
set_option maxRecDepth 100000 in
theorem latest_any (base bm : Nat) (l : List NodeR) (Ak : Option Addr) (nk ck : Nat) (key : List UInt8) (Ar : Option Addr) (nr cr : Nat) (tk : List UInt8) (s : Int) (w : World) (h : MemL w base bm l) (hk : RB w Ak nk key) (hr : RB w Ar nr tk) (hl : l.length ≤ 1000) :
    Calls Tryd.prog 27 #[.pointer (some ⟨bm, 0, none⟩), .slice Ak nk ck, .slice Ar nr cr, .int .i64 s] w fun r w' => ListC w w' (latestE (l.map nEnt) key tk s) r := by
  have HL := hid (list_any base bm l Ak nk ck key Ar nr cr tk w h hk hr hl)
  have hm := fun x hx => mayE_cases (h.mayE x (listE_sub (frm := key) (tk := tk) x hx))
  have hlen : (listE (l.map nEnt) key tk).length ≤ 1000 := Nat.le_trans (listE_len _ _ _) (by rw [List.length_map]; exact hl)
  have HE : Hid (latestE (l.map nEnt) key tk s = latF s [] (listE (l.map nEnt) key tk)) := rfl
  have HM := hid hm
  clear h hk hr hl hm
  generalize listE (l.map nEnt) key tk = L at *
  obtain ⟨n, hn⟩ : ∃ n, L.length = n := ⟨_, rfl⟩
  rw [hn] at hlen
  have HN := hid hn
  clear hn
  go_enter Tryd.func27, Tryd.ntmps27
  go_wp2_with (go_at_call 19; (with_reducible refine HL.out.mono ?_); rintro r w1 ⟨v1, rfl, ⟨V1, hv1, hr1⟩, hb1⟩; obtain ⟨A1, c1, hve, _⟩ := hv1.openN n (by rw [hr1.1]; exact HN.out); subst hve)
  have HJ0 : Hid (LatJ w w1 w1 L s (.slice none 0 0) (.slice none 0 0) 0 []) := ⟨[], [], rfl, Nat.le_refl _, OV.nil _ _ _ _, RelV.nil, .inl ⟨rfl, rfl⟩, Below.refl _ _⟩
  have HV1 := hid hv1
  have HR1 := hid hr1
  clear hv1 hr1 HL
  go_loopw [9, 10, 18] (fun v lv i wr => ∃ (k : Nat) (last : List UInt8), k ≤ n ∧ i = .int .i64 k ∧ LatJ w w1 wr L s v lv k last) (fun v lv i wr => n - (intOf i).toNat)
  case atStart => exact ⟨0, [], Nat.zero_le _, rfl, HJ0.out⟩
  case round =>
    clear HJ0
    obtain ⟨k, last, hk, rfl, V, os, hlat, hVl, hown, hrelv, hlast, hBw⟩ := hrel
    by_cases hlt : k < n
    · have hlt' : k < L.length := by rw [HN.out]; exact hlt
      have hVn : V1.length = n := by rw [HR1.out.1]; exact HN.out
      obtain ⟨g1, d1, hve, _, _, _⟩ := HV1.out.form (by omega)
      injection hve with hve1 hve2 hve3
      subst hve1
      have hv1' : OV w1 w.heap.size 28 5 (.slice (some ⟨g1, 0, none⟩) V1.length c1) V1 := by rw [hVn]; exact HV1.out
      have hcell := fun i (hi : i < 5) => hv1'.cell (j := k) (i := i) (by omega) hi
      have hmk := HM.out _ (elt_mem hlt')
      have hPx := HR1.out.2 k (by omega)
      obtain ⟨Ak', nk', ck', Av', nv', cv', hxe, hrk, hrv, _, _⟩ := hPx.reads
      rw [hxe] at hPx hcell
      have c0 := below_cell hBw (hcell 0 (by omega))
      have c1' := below_cell hBw (hcell 1 (by omega))
      have c2 := below_cell hBw (hcell 2 (by omega))
      have c3 := below_cell hBw (hcell 3 (by omega))
      have c4 := below_cell hBw (hcell 4 (by omega))
      simp only [List.getElem?_cons_zero, List.getElem?_cons_succ, Nat.add_zero] at c0 c1' c2 c3 c4
      have hne : eKey (elt noEnt L k) ≠ [] := by
        intro e
        have := hmk.1
        rw [e] at this
        simp at this
      have hkl := hrk.1
      have HKl : Hid (nk' ≤ 512) := by have := hmk.2.1; unfold Hid; omega
      have HPx := hid hPx
      have HLat := hid hlat
      have HV := hid hVl
      have HRel := hid hrelv
      have HLast := hid hlast
      have HKB := hid ((hrk.below hBw).alloc (.cells #[.slice Ak' nk' ck', .int .i64 (eSeq (elt noEnt L k)), .bool (eGone (elt noEnt L k)), .int .i64 (eTil (elt noEnt L k)), .slice Av' nv' cv'] 28))
      have hbx := heap_alloc_new wr (.cells #[.slice Ak' nk' ck', .int .i64 (eSeq (elt noEnt L k)), .bool (eGone (elt noEnt L k)), .int .i64 (eTil (elt noEnt L k)), .slice Av' nv' cv'] 28)
      have hbb : Below wr.heap.size wr (wr.alloc (.cells #[.slice Ak' nk' ck', .int .i64 (eSeq (elt noEnt L k)), .bool (eGone (elt noEnt L k)), .int .i64 (eTil (elt noEnt L k)), .slice Av' nv' cv'] 28)) := below_alloc' (Below.refl _ _) _
      have hBb := below_then hBw hbb
      clear hlat hVl hrelv hPx hcell hmk hxe hrk hrv hv1' hve2 hve3 hkl
      obtain ⟨x, hx⟩ : ∃ x, elt noEnt L k = x := ⟨_, rfl⟩
      rw [hx] at hne HPx HKB hbx hbb hBb c1' c2 c3
      have HX := hid hx
      clear hx
      rcases hlast with ⟨hl0, rfl⟩ | ⟨hl0, hlo⟩
      · have hq : ∀ u, (binOp .neq 23 (.slice none 0 0) (.slice none 0 0)).run Tryd.prog u = .ok (.bool false) u := fun u => by simp [binOp]; rfl
        by_cases hsq : s < eSeq x
        · have hskip : s < eSeq x ∨ (last ≠ [] ∧ last = eKey x) := .inl hsq
          have HNext := hid (LatJ.skip HX.out hlt' HLat.out HV.out hown HRel.out HLast.out hskip hbb hBb)
          clear hskip hl0
          go_wp2
          go_roundw
          case rel => exact ⟨k + 1, last, by omega, by go_num, HNext.out⟩
          case measure => simp [intOf]; omega
        · have hskip : ¬ (s < eSeq x ∨ (last ≠ [] ∧ last = eKey x)) := fun h => h.elim hsq fun h2 => h2.1 hl0
          cases hgn : eGone x
          · have HNext := hid (fun v4 lv' w3 w4 hv3 h1 h2 h3 h4 => LatJ.take (v := u9) (lv' := lv') (w3 := w3) (w4 := w4) (v' := v4) HX.out hlt' HLat.out HV.out HRel.out HPx.out hskip hgn hne h1 h2 hv3 h3 h4)
            clear hskip hne
            rw [hgn] at hbx hbb hBb HKB c2
            go_wp2_with (first | (at_builtin; go_loud (refine wpB_append w1 _ w1.heap.size rfl _ (.tmp 37) rfl (.slice none 0 0) [] rfl (OB.nil _ _) Ak' nk' ck' (eKey x) rfl HKB.out (by have := HKl.out; have := HKB.out.1; simp; omega) hBb hBb.size ?_); intro v3 w3 hown3 hB3 hg3 _; rw [List.nil_append] at hown3; have hg3 := below_of_none hg3; have hbx3 := blk_below hg3 hbx; have b2 := box_at hbx3 2 (.bool false) rfl; have b0 := box_at hbx3 0 (.slice Ak' nk' ck') rfl; have b1 := box_at hbx3 1 (.int .i64 (eSeq x)) rfl; have b3 := box_at hbx3 3 (.int .i64 (eTil x)) rfl; have b4 := box_at hbx3 4 (.slice Av' nv' cv') rfl; have hv3 := OV.below (OV.below hown hbb) hg3; have hBr3 := below_then hbb hg3) | (at_builtin; refine wpV_append1 22 28 _ 5 72 Tryd.underlying22 eninfo rfl (by omega) w1 w3 w1.heap.size rfl (.tmp 42) (.tmp 44) rfl u9 V rfl hv3 #[.slice Ak' nk' ck', .int .i64 (eSeq x), .bool false, .int .i64 (eTil x), .slice Av' nv' cv'] rfl (ones5 rfl rfl rfl rfl rfl) 1 _ rfl rfl (by have := HV.out; simp only [maxLen]; omega) (by have := HV.out; omega) hB3 hB3.size ?_; intro v4 w4 hown4 hB4 hg4 _))
            go_roundw
            case rel => exact ⟨k + 1, eKey x, by omega, by go_num, HNext.out _ _ w3 _ hv3 (by rw [hgn]; exact hown4) hg4 hown3 hB4⟩
            case measure => simp [intOf]; omega
          · have HNext := hid (fun lv' w3 h1 h2 h3 => LatJ.gone (lv' := lv') (w3 := w3) HX.out hlt' HLat.out HV.out hown HRel.out hskip hgn hne h1 h2 h3)
            clear hskip hne
            rw [hgn] at hbx hbb hBb HKB c2
            go_wp2_with (first | (at_builtin; go_loud (refine wpB_append w1 _ w1.heap.size rfl _ (.tmp 37) rfl (.slice none 0 0) [] rfl (OB.nil _ _) Ak' nk' ck' (eKey x) rfl HKB.out (by have := HKl.out; have := HKB.out.1; simp; omega) hBb hBb.size ?_); intro v3 w3 hown3 hB3 hg3 _; rw [List.nil_append] at hown3; have hg3 := below_of_none hg3; have hbx3 := blk_below hg3 hbx; have b2 := box_at hbx3 2 (.bool true) rfl))
            go_roundw
            case rel => exact ⟨k + 1, eKey x, by omega, by go_num, HNext.out _ _ (below_then hbb hg3) hown3 hB3⟩
            case measure => simp [intOf]; omega
      · obtain ⟨gl, cl, rfl, _, _, _⟩ := hlo.form (List.length_pos_iff.2 hl0)
        have HLB := hid ((hlo.rb.1.below hbb))
        have hq : ∀ u, (binOp .neq 23 (.slice (some ⟨gl, 0, none⟩) last.length cl) (.slice none 0 0)).run Tryd.prog u = .ok (.bool true) u := fun u => by simp [binOp]; rfl
        by_cases hsq : s < eSeq x
        · have hskip : s < eSeq x ∨ (last ≠ [] ∧ last = eKey x) := .inl hsq
          have HNext := hid (LatJ.skip HX.out hlt' HLat.out HV.out hown HRel.out HLast.out hskip hbb hBb)
          clear hskip hl0
          go_wp2
          go_roundw
          case rel => exact ⟨k + 1, last, by omega, by go_num, HNext.out⟩
          case measure => simp [intOf]; omega
        · by_cases heq : last = eKey x
          · have hskip : s < eSeq x ∨ (last ≠ [] ∧ last = eKey x) := .inr ⟨hl0, heq⟩
            have HEq := hid (decide_eq_true heq)
            clear heq
            have HNext := hid (LatJ.skip HX.out hlt' HLat.out HV.out hown HRel.out HLast.out hskip hbb hBb)
            clear hskip
            go_wp2_with (first | (go_at_call 33; (with_reducible refine (equal_any (some ⟨gl, 0, none⟩) last.length cl last Ak' nk' ck' (eKey x) _ HLB.out HKB.out).mono ?_); rintro r w5 ⟨rfl, rfl⟩; rw [HEq.out]))
            go_roundw
            case rel => exact ⟨k + 1, last, by omega, by go_num, HNext.out⟩
            case measure => simp [intOf]; omega
          · have hskip : ¬ (s < eSeq x ∨ (last ≠ [] ∧ last = eKey x)) := fun h => h.elim hsq fun h2 => heq h2.2
            have HEq := hid (decide_eq_false heq)
            clear heq
            cases hgn : eGone x
            · have HNext := hid (fun v4 lv' w3 w4 hv3 h1 h2 h3 h4 => LatJ.take (v := u9) (lv' := lv') (w3 := w3) (w4 := w4) (v' := v4) HX.out hlt' HLat.out HV.out HRel.out HPx.out hskip hgn hne h1 h2 hv3 h3 h4)
              clear hskip hne
              rw [hgn] at hbx hbb hBb HKB HLB c2
              go_wp2_with (first | (go_at_call 33; (with_reducible refine (equal_any (some ⟨gl, 0, none⟩) last.length cl last Ak' nk' ck' (eKey x) _ HLB.out HKB.out).mono ?_); rintro r w5 ⟨rfl, rfl⟩; rw [HEq.out]) | (at_builtin; go_loud (refine wpB_append w1 _ w1.heap.size rfl _ (.tmp 37) rfl (.slice none 0 0) [] rfl (OB.nil _ _) Ak' nk' ck' (eKey x) rfl HKB.out (by have := HKl.out; have := HKB.out.1; simp; omega) hBb hBb.size ?_); intro v3 w3 hown3 hB3 hg3 _; rw [List.nil_append] at hown3; have hg3 := below_of_none hg3; have hbx3 := blk_below hg3 hbx; have b2 := box_at hbx3 2 (.bool false) rfl; have b0 := box_at hbx3 0 (.slice Ak' nk' ck') rfl; have b1 := box_at hbx3 1 (.int .i64 (eSeq x)) rfl; have b3 := box_at hbx3 3 (.int .i64 (eTil x)) rfl; have b4 := box_at hbx3 4 (.slice Av' nv' cv') rfl; have hv3 := OV.below (OV.below hown hbb) hg3; have hBr3 := below_then hbb hg3) | (at_builtin; refine wpV_append1 22 28 _ 5 72 Tryd.underlying22 eninfo rfl (by omega) w1 w3 w1.heap.size rfl (.tmp 42) (.tmp 44) rfl u9 V rfl hv3 #[.slice Ak' nk' ck', .int .i64 (eSeq x), .bool false, .int .i64 (eTil x), .slice Av' nv' cv'] rfl (ones5 rfl rfl rfl rfl rfl) 1 _ rfl rfl (by have := HV.out; simp only [maxLen]; omega) (by have := HV.out; omega) hB3 hB3.size ?_; intro v4 w4 hown4 hB4 hg4 _))
              go_roundw
              case rel => exact ⟨k + 1, eKey x, by omega, by go_num, HNext.out _ _ w3 _ hv3 (by rw [hgn]; exact hown4) hg4 hown3 hB4⟩
              case measure => simp [intOf]; omega
            · have HNext := hid (fun lv' w3 h1 h2 h3 => LatJ.gone (lv' := lv') (w3 := w3) HX.out hlt' HLat.out HV.out hown HRel.out hskip hgn hne h1 h2 h3)
              clear hskip hne
              rw [hgn] at hbx hbb hBb HKB HLB c2
              go_wp2_with (first | (go_at_call 33; (with_reducible refine (equal_any (some ⟨gl, 0, none⟩) last.length cl last Ak' nk' ck' (eKey x) _ HLB.out HKB.out).mono ?_); rintro r w5 ⟨rfl, rfl⟩; rw [HEq.out]) | (at_builtin; go_loud (refine wpB_append w1 _ w1.heap.size rfl _ (.tmp 37) rfl (.slice none 0 0) [] rfl (OB.nil _ _) Ak' nk' ck' (eKey x) rfl HKB.out (by have := HKl.out; have := HKB.out.1; simp; omega) hBb hBb.size ?_); intro v3 w3 hown3 hB3 hg3 _; rw [List.nil_append] at hown3; have hg3 := below_of_none hg3; have hbx3 := blk_below hg3 hbx; have b2 := box_at hbx3 2 (.bool true) rfl))
              go_roundw
              case rel => exact ⟨k + 1, eKey x, by omega, by go_num, HNext.out _ _ (below_then hbb hg3) hown3 hB3⟩
              case measure => simp [intOf]; omega
    · obtain rfl : k = n := by omega
      go_wp2
      go_ret
      have e0 : L.drop k = [] := List.drop_eq_nil_of_le (by rw [HN.out]; exact Nat.le_refl _)
      rw [e0] at hlat
      exact ⟨_, rfl, ⟨V, ⟨own_mono hown.1 hb1.size, hown.2⟩, by rw [HE.out, hlat]; simp only [latF, List.append_nil]; exact hrelv.mono fun x a hx => hx.below hBw⟩, below_then hb1 hBw⟩
end Go.Proofs.YtlfjbklagljdlaaDoor
