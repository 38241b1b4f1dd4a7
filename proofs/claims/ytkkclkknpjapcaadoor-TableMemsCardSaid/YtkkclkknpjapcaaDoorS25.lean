/- Shared texts, part S25: TbI. -/
import Derived.Test.YtkkclkknpjapcaaDoorS21
import Derived.Test.YtkkclkknpjapcaaDoorS13
import Derived.Test.YtkkclkknpjapcaaDoorS24
/-! ### TbI -/
namespace Go.Proofs.YtkkclkknpjapcaaDoor
open Go.RowKit
set_option linter.unusedVariables false
set_option linter.unusedSimpArgs false

theorem plinfo : (Tryd.prog.info? 99).map (fun i => (i.zero, i.size, i.bytes)) = some (some (.agg #[.int .u64 0, .int .u64 0]), 2, 16) := by kernel_rfl
def PlV (p : Nat × Nat) : List Value := [.int .u64 (p.1 : Int), .int .u64 (p.2 : Int)]
def OPl (w : World) (base : Nat) (v : Value) (ps : List (Nat × Nat)) : Prop := OV w base 99 2 v (ps.map PlV)
theorem ones2 {a b : Value} (ha : a.oneCell' = true) (hb : b.oneCell' = true) : ∀ u ∈ (#[a, b] : Array Value).toList, u.oneCell' = true := by
  intro u hu
  simp only [List.mem_cons, List.not_mem_nil, or_false] at hu
  rcases hu with rfl | rfl <;> assumption
theorem OV.lt {w : World} {base : Nat} {e : TypeId} {size : Nat} {v : Value} {V : List (List Value)} (h : OV w base e size v V) (k : Nat) (hk : v.ownBlock = some k) : k < w.heap.size := (World.ownsRow.lt h.1 k hk).2
theorem OV.past {w w1 w2 : World} {base : Nat} {e : TypeId} {size : Nat} {v : Value} {V : List (List Value)} {b : Nat} (h : OV w1 base e size v V) (h0 : OV w base e size v V) (hb : w.heap.size ≤ b) (hg : w1.grownBy w2 (some b)) : OV w2 base e size v V := by
  refine h.other hg ?_
  cases hv : v.ownBlock with
  | none => exact .inl rfl
  | some k =>
    right
    have := h0.lt k hv
    intro e
    have := Option.some.inj e
    omega
theorem plcL_done {f size : Nat} : plcL (f + 1) [] size = some [] := by rw [plcL, if_pos rfl]
theorem plcL_bad {f size : Nat} {xs : List UInt8} (hne : xs ≠ []) (h : (takeB xs 512).2.2 ≠ 0) : plcL (f + 1) xs size = none := by rw [plcL, if_neg hne, if_pos h]
theorem plcL_step {f size : Nat} {xs y : List UInt8} (hne : xs ≠ []) (h : (takeB xs 512).2.2 = 0) (hy : xs.drop (takeB xs 512).2.1 = y) :
    plcL (f + 1) xs size = if (takeU y).2.2 ≠ 0 then none else if (takeU (y.drop (takeU y).2.1)).2.2 ≠ 0 then none else if withinB size (takeU y).1 (takeU (y.drop (takeU y).2.1)).1 = false then none
      else (plcL f ((y.drop (takeU y).2.1).drop (takeU (y.drop (takeU y).2.1)).2.1) size).map (((takeU y).1, (takeU (y.drop (takeU y).2.1)).1) :: ·) := by
  rw [plcL, if_neg hne, if_neg (by rw [h]; simp), hy]
theorem takeB_used {xs : List UInt8} {most : Int} : (takeB xs most).2.1 ≤ xs.length ∧ ((takeB xs most).2.2 = 0 → 1 ≤ (takeB xs most).2.1) := by
  have h1 := takeU_lt xs
  unfold takeB
  split
  · rename_i h; exact ⟨Nat.zero_le _, fun e => absurd e h⟩
  · rename_i h
    have h2 := takeU_used (xs := xs) (by simpa using h)
    split
    · exact ⟨Nat.zero_le _, fun e => by cases e⟩
    · split
      · exact ⟨Nat.zero_le _, fun e => by cases e⟩
      · exact ⟨by simp only; omega, fun _ => by simp only; omega⟩
/-- Which of the two numbers are read. -/
def InC (i : Value) (y rest : List UInt8) (a m : Nat) : Prop :=
  (i = .int .i64 0 ∧ rest = y ∧ a = 0 ∧ m = 0) ∨ (i = .int .i64 1 ∧ (takeU y).2.2 = 0 ∧ rest = y.drop (takeU y).2.1 ∧ a = (takeU y).1 ∧ m = 0) ∨
  (i = .int .i64 2 ∧ (takeU y).2.2 = 0 ∧ (takeU (y.drop (takeU y).2.1)).2.2 = 0 ∧ rest = (y.drop (takeU y).2.1).drop (takeU (y.drop (takeU y).2.1)).2.1 ∧ a = (takeU y).1 ∧ m = (takeU (y.drop (takeU y).2.1)).1)
/-- What the inner loop holds. -/
def InJ (w wr : World) (b : Nat) (v : Value) (V : List (List Value)) (sv i : Value) (y : List UInt8) : Prop :=
  ∃ A n c rest, ∃ a m : Nat, sv = .slice A n c ∧ n ≤ c ∧ RB w A n rest ∧ n ≤ y.length ∧ wr.heap[b]? = some (.cells #[.int .u64 (a : Int), .int .u64 (m : Int)] 99 (0, 0)) ∧ OV wr w.heap.size 99 2 v V ∧ Below w.heap.size w wr ∧ InC i y rest a m
/-- What places answers. -/
def PlcC (w w' : World) (xs : List UInt8) (size : Nat) (r : Ending) : Prop :=
  match plcL (xs.length + 1) xs size with
  | none => r = .returned (.tuple #[.slice none 0 0, .int .i64 3]) ∧ Below w.heap.size w w'
  | some ps => ∃ v, r = .returned (.tuple #[v, .int .i64 0]) ∧ OPl w' w.heap.size v ps ∧ Below w.heap.size w w'
theorem PlcC.no {w w' : World} {xs : List UInt8} {size : Nat} (h : plcL (xs.length + 1) xs size = none) (hb : Below w.heap.size w w') : PlcC w w' xs size (.returned (.tuple #[.slice none 0 0, .int .i64 3])) := by
  unfold PlcC
  rw [h]
  exact ⟨rfl, hb⟩
theorem PlcC.yes {w w' : World} {xs : List UInt8} {size : Nat} {ps : List (Nat × Nat)} {v : Value} (h : plcL (xs.length + 1) xs size = some ps) (ho : OPl w' w.heap.size v ps) (hb : Below w.heap.size w w') : PlcC w w' xs size (.returned (.tuple #[v, .int .i64 0])) := by
  unfold PlcC
  rw [h]
  exact ⟨v, rfl, ho, hb⟩
theorem set2_0 {wr : World} {b : Nat} {a0 a1 : Value} {T : TypeId} (c0 : Value) (h : wr.heap[b]? = some (.cells #[a0, a1] T (0, 0))) : (wr.setCell ⟨b, 0, none⟩ c0).heap[b]? = some (.cells #[c0, a1] T (0, 0)) := by
  rw [heap_setCell_same _ _ _ _ _ _ h]
  rfl
theorem set2_1 {wr : World} {b : Nat} {a0 a1 : Value} {T : TypeId} (c1 : Value) (h : wr.heap[b]? = some (.cells #[a0, a1] T (0, 0))) : (wr.setCell ⟨b, 1, none⟩ c1).heap[b]? = some (.cells #[a0, c1] T (0, 0)) := by
  rw [heap_setCell_same _ _ _ _ _ _ h]
  rfl
theorem run_index2 (p q : Value) (w : World) : (Instr.index 101 (.agg #[p, q]) (.int .i64 0)).run Tryd.prog w = .ok p w ∧ (Instr.index 101 (.agg #[p, q]) (.int .i64 1)).run Tryd.prog w = .ok q w := ⟨by kernel_rfl, by kernel_rfl⟩
set_option maxHeartbeats 32000000 in
set_option maxRecDepth 200000 in
theorem places_any' (A : Option Addr) (n c : Nat) (xs : List UInt8) (B : Option Addr) (m d : Nat) (w : World) (h : RB w A n xs) (hc : n ≤ c) (hsz : n ≤ 100000000) (hm : m ≤ 9223372036854775807) :
    Calls Tryd.prog 38 #[.slice A n c, .slice B m d] w fun r w' => PlcC w w' xs m r := by
  have hl := h.1
  have H := hid h
  have HL := hid hl
  clear h hl
  go_enter Tryd.func38, Tryd.ntmps38
  go_wp2
  go_loopw [0, 6] (fun sv v wr => ∃ (A2 : Option Addr) (n2 c2 : Nat) (rest : List UInt8) (ps : List (Nat × Nat)) (f : Nat), sv = .slice A2 n2 c2 ∧ n2 ≤ c2 ∧ RB w A2 n2 rest ∧ OPl wr w.heap.size v ps ∧ plcL (xs.length + 1) xs m = (plcL f rest m).map (ps ++ ·) ∧ n2 < f ∧ ps.length + n2 ≤ n ∧ Below w.heap.size w wr) (fun sv _ _ => lenV sv)
  case atStart => exact ⟨A, n, c, xs, [], xs.length + 1, rfl, hc, H.out, OV.nil _ _ _ _, by simp, by rw [HL.out]; omega, by simp, Below.refl _ _⟩
  case round =>
    obtain ⟨A2, n2, c2, rest, ps, f, rfl, hc2, hr, hov, hpl, hf, hpn, hB⟩ := hrel
    obtain ⟨f, rfl⟩ : ∃ f', f = f' + 1 := ⟨f - 1, by omega⟩
    have hrl := hr.1
    by_cases h0 : n2 = 0
    · obtain rfl : rest = [] := List.eq_nil_of_length_eq_zero (by omega)
      rw [plcL_done] at hpl
      have HP : Hid (plcL (xs.length + 1) xs m = some ps) := hid (by rw [hpl]; simp)
      have HO := hid hov
      have hd : decide ((0 : Int) < (n2 : Int)) = false := decide_eq_false (by omega)
      clear hpl hov hr
      go_wp2
      go_ret2
      exact PlcC.yes HP.out HO.out hB
    · have hne : rest ≠ [] := by intro e; rw [e] at hrl; simp at hrl; omega
      have hd : decide ((0 : Int) < (n2 : Int)) = true := decide_eq_true (by omega)
      have HR := hid hr
      have HO := hid hov
      have htb := takeB_used (xs := rest) (most := 512)
      have HT := hid (takebytes_any A2 n2 c2 rest 512 wr (hr.below hB) hc2 (by omega) (by omega))
      obtain ⟨K, hK⟩ : ∃ K, (takeB rest 512).2.1 = K := ⟨_, rfl⟩
      obtain ⟨E, hE⟩ : ∃ E, (takeB rest 512).2.2 = E := ⟨_, rfl⟩
      rw [hK, hE] at htb HT
      by_cases hE0 : E = 0
      · subst hE0
        have hst := plcL_step (f := f) (size := m) hne hE rfl
        rw [hK] at hst
        obtain ⟨A3, c3, hcut3, hrb3, hc3⟩ := cutB_lo (A := A2) hc2 (lo := K) (by omega) (K : Int) rfl
        have hr3 := hrb3 _ _ hr
        have hyl : (rest.drop K).length = n2 - K := hr3.1
        obtain ⟨y, hy⟩ : ∃ y, rest.drop K = y := ⟨_, rfl⟩
        rw [hy] at hst hr3 hyl
        have HR3 := hid hr3
        have hK1 := htb.2 rfl
        have HPs : Hid (plcL (xs.length + 1) xs m = (if (takeU y).2.2 ≠ 0 then none else if (takeU (y.drop (takeU y).2.1)).2.2 ≠ 0 then none else if withinB m (takeU y).1 (takeU (y.drop (takeU y).2.1)).1 = false then none
      else (plcL f ((y.drop (takeU y).2.1).drop (takeU (y.drop (takeU y).2.1)).2.1) m).map (((takeU y).1, (takeU (y.drop (takeU y).2.1)).1) :: ·)).map (ps ++ ·)) := hid (by rw [hpl, hst])
        have HYl := hid hyl
        clear hpl hst hr hov hrb3 hr3 hyl hne hE hK
        go_wp2_with (go_at_call 54; refine (HT.out).mono ?_; rintro e w1 ⟨v1, rfl, ho1, hb1⟩; have hB1 := below_then hB hb1; have HO1 := hid (HO.out.below hb1); clear ho1)
        have hbx1 := heap_alloc_new w1 (.cells #[.int .u64 0, .int .u64 0] 99)
        have hJ0 : InJ w (w1.alloc (.cells #[.int .u64 0, .int .u64 0] 99)) w1.heap.size u6 (ps.map PlV) (.slice A3 (n2 - K) c3) (.int .i64 0) y := ⟨A3, n2 - K, c3, y, 0, 0, rfl, hc3, HR3.out, by rw [HYl.out]; exact Nat.le_refl _, hbx1, HO1.out.below (below_alloc' (Below.refl _ _) _), below_alloc' hB1 _, .inl ⟨rfl, rfl, rfl, rfl⟩⟩
        have HJ0 := hid hJ0
        have HBs := hid hb1.size
        clear hJ0 hbx1 HO1 hb1 HT HR3
        generalize w1.alloc (.cells #[.int .u64 0, .int .u64 0] 99) = W1 at *
        generalize w1.heap.size = b at *
        have hbw : w.heap.size ≤ b := Nat.le_trans hB.size HBs.out
        have HBw := hid hbw
        obtain ⟨wo, hwo⟩ : ∃ wo, wo = wr := ⟨_, rfl⟩
        rw [← hwo] at HO HBs
        clear hwo hB hB1
        go_loopw [0, 33] (fun sv i wr2 => InJ w wr2 b u6 (ps.map PlV) sv i y) (fun _ i _ => 2 - (intOf i).toNat)
        case atStart => exact HJ0.out
        case round =>
          clear HJ0
          obtain ⟨A4, n4, c4, rest4, a, mm, rfl, hc4, hr4, hny, hbx, hov, hB4, hcase⟩ := hrel
          have HO4 := hid hov
          have HB4 := hid hB4
          obtain ⟨hx0, hx1⟩ := run_index2 (.pointer (some ⟨b, 0, none⟩)) (.pointer (some ⟨b, 1, none⟩)) wr
          have hfz := fun i => frozen_of_row wr b i _ _ hbx
          have hq0 := box_at hbx 0 _ rfl
          have hq1 := box_at hbx 1 _ rfl
          rcases hcase with ⟨rfl, hr1, ha, hm1⟩ | ⟨rfl, hu1, hr1, ha, hm1⟩ | ⟨rfl, hu1, hu2, hr1, ha, hm1⟩
          · have HTk := hid (take_any A4 n4 c4 rest4 wr (hr4.below hB4))
            have htl := takeU_lt rest4
            have hn4 := hr4.1
            have HR4 := hid hr4
            have HBx := hid hbx
            rw [ha] at hq0
            obtain ⟨U, hU⟩ : ∃ U, (takeU rest4).1 = U := ⟨_, rfl⟩
            obtain ⟨K2, hK2⟩ : ∃ K, (takeU rest4).2.1 = K := ⟨_, rfl⟩
            obtain ⟨E2, hE2⟩ : ∃ E, (takeU rest4).2.2 = E := ⟨_, rfl⟩
            rw [hU, hK2, hE2] at HTk
            rw [hU, hK2] at htl
            by_cases hE : E2 = 0
            · subst hE
              obtain ⟨A5, c5, hcut5, hrb5, hc5⟩ := cutB_lo (A := A4) hc4 (lo := K2) (by omega) (K2 : Int) rfl
              have HN : Hid (InJ w (wr.setCell ⟨b, 0, none⟩ (.int .u64 (U : Int))) b u6 (ps.map PlV) (.slice A5 (n4 - K2) c5) (.int .i64 1) y) := hid ⟨A5, n4 - K2, c5, rest4.drop K2, U, 0, rfl, hc5, hrb5 _ _ hr4, by omega, by rw [hm1] at hbx; exact set2_0 _ hbx, OV.past HO4.out HO.out HBs.out (grown_set wr b 0 _), hB4.setCell (show w.heap.size ≤ (⟨b, 0, none⟩ : Addr).block from hbw) _, .inr (.inl ⟨rfl, by rw [← hr1]; exact hE2, by rw [← hr1, hK2], by rw [← hr1, hU], rfl⟩)⟩
              clear hU hK2 hE2 hr1 ha hm1 hr4 hbx hov hrb5
              go_wp2_with (go_at_call 55; refine (HTk.out).mono ?_; rintro e w6 ⟨rfl, rfl⟩)
              go_roundw
              case rel => exact HN.out
              case measure => simp [intOf]
            · have HNo : Hid (plcL (xs.length + 1) xs m = none) := hid (by rw [HPs.out, ← hr1, if_pos (by rw [hE2]; exact hE)]; rfl)
              have hEz : ((E2 : Int) != 0) = true := by simpa using hE
              clear hU hK2 hE2 hr1 ha hm1 hr4 hbx hov hE
              go_wp2_with (go_at_call 55; refine (HTk.out).mono ?_; rintro e w6 ⟨rfl, rfl⟩)
              go_ret2
              exact PlcC.no HNo.out HB4.out
          · have HTk := hid (take_any A4 n4 c4 rest4 wr (hr4.below hB4))
            have htl := takeU_lt rest4
            have hn4 := hr4.1
            have HR4 := hid hr4
            obtain ⟨U, hU⟩ : ∃ U, (takeU rest4).1 = U := ⟨_, rfl⟩
            obtain ⟨K2, hK2⟩ : ∃ K, (takeU rest4).2.1 = K := ⟨_, rfl⟩
            obtain ⟨E2, hE2⟩ : ∃ E, (takeU rest4).2.2 = E := ⟨_, rfl⟩
            rw [hU, hK2, hE2] at HTk
            rw [hU, hK2] at htl
            by_cases hE : E2 = 0
            · subst hE
              obtain ⟨A5, c5, hcut5, hrb5, hc5⟩ := cutB_lo (A := A4) hc4 (lo := K2) (by omega) (K2 : Int) rfl
              have HN : Hid (InJ w (wr.setCell ⟨b, 1, none⟩ (.int .u64 (U : Int))) b u6 (ps.map PlV) (.slice A5 (n4 - K2) c5) (.int .i64 2) y) := hid ⟨A5, n4 - K2, c5, rest4.drop K2, a, U, rfl, hc5, hrb5 _ _ hr4, by omega, set2_1 _ hbx, OV.past HO4.out HO.out HBs.out (grown_set wr b 1 _), hB4.setCell (show w.heap.size ≤ (⟨b, 1, none⟩ : Addr).block from hbw) _, .inr (.inr ⟨rfl, hu1, by rw [← hr1]; exact hE2, by rw [← hr1, hK2], ha, by rw [← hr1, hU]⟩)⟩
              clear hU hK2 hE2 hr1 ha hm1 hr4 hbx hov hrb5
              go_wp2_with (go_at_call 55; refine (HTk.out).mono ?_; rintro e w6 ⟨rfl, rfl⟩)
              go_roundw
              case rel => exact HN.out
              case measure => simp [intOf]
            · have HNo : Hid (plcL (xs.length + 1) xs m = none) := hid (by rw [HPs.out, if_neg (by rw [hu1]; simp), ← hr1, if_pos (by rw [hE2]; exact hE)]; rfl)
              have hEz : ((E2 : Int) != 0) = true := by simpa using hE
              clear hU hK2 hE2 hr1 ha hm1 hr4 hbx hov hE
              go_wp2_with (go_at_call 55; refine (HTk.out).mono ?_; rintro e w6 ⟨rfl, rfl⟩)
              go_ret2
              exact PlcC.no HNo.out HB4.out
          · have h64 : a < 18446744073709551616 ∧ mm < 18446744073709551616 := ⟨by rw [ha]; exact (takeU_lt _).1, by rw [hm1]; exact (takeU_lt _).1⟩
            have HPs2 : Hid (plcL (xs.length + 1) xs m = (if withinB m a mm = false then none else (plcL f rest4 m).map ((a, mm) :: ·)).map (ps ++ ·)) := hid (by rw [HPs.out, if_neg (by rw [hu1]; simp), if_neg (by rw [hu2]; simp), ← ha, ← hm1, ← hr1])
            have HWi := hid (within_any B m d a mm wr hm h64.1 h64.2)
            have HR4 := hid hr4
            have hyl := HYl.out
            clear HPs hu1 hu2 hr1 ha hm1 hr4 hbx hov HYl
            cases hwb : withinB m a mm
            · have HNo : Hid (plcL (xs.length + 1) xs m = none) := hid (by rw [HPs2.out, if_pos hwb]; rfl)
              rw [hwb] at HWi
              clear hwb
              go_wp2_with (go_at_call 37; refine (HWi.out).mono ?_; rintro e w6 ⟨rfl, rfl⟩)
              go_ret2
              exact PlcC.no HNo.out HB4.out
            · have HY : Hid (plcL (xs.length + 1) xs m = (plcL f rest4 m).map ((ps ++ [(a, mm)]) ++ ·)) := hid (by
                rw [HPs2.out, if_neg (by rw [hwb]; simp), Option.map_map]
                congr 1
                funext l
                simp)
              rw [hwb] at HWi
              clear hwb
              go_wp2_with (first
                | (go_at_call 37; refine (HWi.out).mono ?_; rintro e w6 ⟨rfl, rfl⟩)
                | (at_builtin; refine wpV_append1 77 99 _ 2 16 Tryd.underlying77 plinfo rfl (by omega) w wr w.heap.size rfl (.tmp 58) (.tmp 60) rfl u6 (ps.map PlV) rfl HO4.out #[.int .u64 (a : Int), .int .u64 (mm : Int)] rfl (ones2 rfl rfl) 1 _ (by first | rfl | simp) rfl (by rw [List.length_map]; simp only [maxLen]; omega) (by rw [List.length_map]; omega) hB4 hB4.size ?_; intro v7 w7 hown7 hB7 hg7 _))
              go_roundw
              case rel => exact ⟨A4, n4, c4, rest4, ps ++ [(a, mm)], f, rfl, hc4, HR4.out, by unfold OPl; rw [List.map_append]; exact hown7, HY.out, by omega, by rw [List.length_append, List.length_singleton]; omega, hB7⟩
              case measure => simp [lenV]; omega
      · have HNo : Hid (plcL (xs.length + 1) xs m = none) := hid (by rw [hpl, plcL_bad hne (by rw [hE]; exact hE0)]; rfl)
        have hEz : ((E : Int) != 0) = true := by simpa using hE0
        clear hpl hr hov hne hE hK hE0
        go_wp2_with (go_at_call 54; refine (HT.out).mono ?_; rintro e w1 ⟨v1, rfl, ho1, hb1⟩; have hB1 := below_then hB hb1; clear ho1)
        go_ret2
        exact PlcC.no HNo.out hB1
end Go.Proofs.YtkkclkknpjapcaaDoor
