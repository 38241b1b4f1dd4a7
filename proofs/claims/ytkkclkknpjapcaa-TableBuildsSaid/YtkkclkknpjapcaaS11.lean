/- Shared texts, part S11: TbI, TbJ, TbG. -/
import Derived.Test.YtkkclkknpjapcaaS09
import Derived.Test.YtkkclkknpjapcaaS02
import Derived.Test.YtkkclkknpjapcaaS10
import Derived.Test.YtkkclkknpjapcaaS08
/-! ### TbI -/
namespace Go.Proofs.Ytkkclkknpjapcaa
open Go.RowKit
set_option linter.unusedVariables false
set_option linter.unusedSimpArgs false

theorem plinfo : (Try.prog.info? 105).map (fun i => (i.zero, i.size, i.bytes)) = some (some (.agg #[.int .u64 0, .int .u64 0]), 2, 16) := by kernel_rfl
def PlV (p : Nat × Nat) : List Value := [.int .u64 (p.1 : Int), .int .u64 (p.2 : Int)]
def OPl (w : World) (base : Nat) (v : Value) (ps : List (Nat × Nat)) : Prop := OV w base 105 2 v (ps.map PlV)
theorem ones2 {a b : Value} (ha : a.oneCell' = true) (hb : b.oneCell' = true) : ∀ u ∈ (#[a, b] : Array Value).toList, u.oneCell' = true := by
  intro u hu
  simp only [List.mem_cons, List.not_mem_nil, or_false] at hu
  rcases hu with rfl | rfl <;> assumption
theorem OV.lt {w : World} {base : Nat} {e : TypeId} {size : Nat} {v : Value} {V : List (List Value)} (h : OV w base e size v V) (k : Nat) (hk : v.ownBlock = some k) : k < w.heap.size := (World.ownsRow.lt h.1 k hk).2
theorem OV.past {w w1 w2 : World} {base : Nat} {e : TypeId} {size : Nat} {v : Value} {V : List (List Value)} {b : Nat} (h : OV w1 base e size v V) (h0 : OV w base e size v V) (hb : w.heap.size ≤ b) (hg : w1.grownBy w2 (some b)) : OV w2 base e size v V := by
  refine h.other hg ?_
  cases hv : v.ownBlock with
  | none => exact .inl rfl
  | some k =>
    right
    have := h0.lt k hv
    intro e
    have := Option.some.inj e
    omega
theorem plcL_done {f size : Nat} : plcL (f + 1) [] size = some [] := by rw [plcL, if_pos rfl]
theorem plcL_bad {f size : Nat} {xs : List UInt8} (hne : xs ≠ []) (h : (takeB xs 512).2.2 ≠ 0) : plcL (f + 1) xs size = none := by rw [plcL, if_neg hne, if_pos h]
theorem plcL_step {f size : Nat} {xs y : List UInt8} (hne : xs ≠ []) (h : (takeB xs 512).2.2 = 0) (hy : xs.drop (takeB xs 512).2.1 = y) :
    plcL (f + 1) xs size = if (takeU y).2.2 ≠ 0 then none else if (takeU (y.drop (takeU y).2.1)).2.2 ≠ 0 then none else if withinB size (takeU y).1 (takeU (y.drop (takeU y).2.1)).1 = false then none
      else (plcL f ((y.drop (takeU y).2.1).drop (takeU (y.drop (takeU y).2.1)).2.1) size).map (((takeU y).1, (takeU (y.drop (takeU y).2.1)).1) :: ·) := by
  rw [plcL, if_neg hne, if_neg (by rw [h]; simp), hy]
theorem takeB_used {xs : List UInt8} {most : Int} : (takeB xs most).2.1 ≤ xs.length ∧ ((takeB xs most).2.2 = 0 → 1 ≤ (takeB xs most).2.1) := by
  have h1 := takeU_lt xs
  unfold takeB
  split
  · rename_i h; exact ⟨Nat.zero_le _, fun e => absurd e h⟩
  · rename_i h
    have h2 := takeU_used (xs := xs) (by simpa using h)
    split
    · exact ⟨Nat.zero_le _, fun e => by cases e⟩
    · split
      · exact ⟨Nat.zero_le _, fun e => by cases e⟩
      · exact ⟨by simp only; omega, fun _ => by simp only; omega⟩
/-- Which of the two numbers are read. -/
def InC (i : Value) (y rest : List UInt8) (a m : Nat) : Prop :=
  (i = .int .i64 0 ∧ rest = y ∧ a = 0 ∧ m = 0) ∨ (i = .int .i64 1 ∧ (takeU y).2.2 = 0 ∧ rest = y.drop (takeU y).2.1 ∧ a = (takeU y).1 ∧ m = 0) ∨
  (i = .int .i64 2 ∧ (takeU y).2.2 = 0 ∧ (takeU (y.drop (takeU y).2.1)).2.2 = 0 ∧ rest = (y.drop (takeU y).2.1).drop (takeU (y.drop (takeU y).2.1)).2.1 ∧ a = (takeU y).1 ∧ m = (takeU (y.drop (takeU y).2.1)).1)
/-- What the inner loop holds. -/
def InJ (w wr : World) (b : Nat) (v : Value) (V : List (List Value)) (sv i : Value) (y : List UInt8) : Prop :=
  ∃ A n c rest, ∃ a m : Nat, sv = .slice A n c ∧ n ≤ c ∧ RB w A n rest ∧ n ≤ y.length ∧ wr.heap[b]? = some (.cells #[.int .u64 (a : Int), .int .u64 (m : Int)] 105 (0, 0)) ∧ OV wr w.heap.size 105 2 v V ∧ Below w.heap.size w wr ∧ InC i y rest a m
/-- What places answers. -/
def PlcC (w w' : World) (xs : List UInt8) (size : Nat) (r : Ending) : Prop :=
  match plcL (xs.length + 1) xs size with
  | none => r = .returned (.tuple #[.slice none 0 0, .int .i64 3]) ∧ Below w.heap.size w w'
  | some ps => ∃ v, r = .returned (.tuple #[v, .int .i64 0]) ∧ OPl w' w.heap.size v ps ∧ Below w.heap.size w w'
theorem PlcC.no {w w' : World} {xs : List UInt8} {size : Nat} (h : plcL (xs.length + 1) xs size = none) (hb : Below w.heap.size w w') : PlcC w w' xs size (.returned (.tuple #[.slice none 0 0, .int .i64 3])) := by
  unfold PlcC
  rw [h]
  exact ⟨rfl, hb⟩
theorem PlcC.yes {w w' : World} {xs : List UInt8} {size : Nat} {ps : List (Nat × Nat)} {v : Value} (h : plcL (xs.length + 1) xs size = some ps) (ho : OPl w' w.heap.size v ps) (hb : Below w.heap.size w w') : PlcC w w' xs size (.returned (.tuple #[v, .int .i64 0])) := by
  unfold PlcC
  rw [h]
  exact ⟨v, rfl, ho, hb⟩
theorem set2_0 {wr : World} {b : Nat} {a0 a1 : Value} {T : TypeId} (c0 : Value) (h : wr.heap[b]? = some (.cells #[a0, a1] T (0, 0))) : (wr.setCell ⟨b, 0, none⟩ c0).heap[b]? = some (.cells #[c0, a1] T (0, 0)) := by
  rw [heap_setCell_same _ _ _ _ _ _ h]
  rfl
theorem set2_1 {wr : World} {b : Nat} {a0 a1 : Value} {T : TypeId} (c1 : Value) (h : wr.heap[b]? = some (.cells #[a0, a1] T (0, 0))) : (wr.setCell ⟨b, 1, none⟩ c1).heap[b]? = some (.cells #[a0, c1] T (0, 0)) := by
  rw [heap_setCell_same _ _ _ _ _ _ h]
  rfl
theorem run_index2 (p q : Value) (w : World) : (Instr.index 107 (.agg #[p, q]) (.int .i64 0)).run Try.prog w = .ok p w ∧ (Instr.index 107 (.agg #[p, q]) (.int .i64 1)).run Try.prog w = .ok q w := ⟨by kernel_rfl, by kernel_rfl⟩
set_option maxHeartbeats 32000000 in
set_option maxRecDepth 200000 in
theorem places_any' (A : Option Addr) (n c : Nat) (xs : List UInt8) (B : Option Addr) (m d : Nat) (w : World) (h : RB w A n xs) (hc : n ≤ c) (hsz : n ≤ 100000000) (hm : m ≤ 9223372036854775807) :
    Calls Try.prog 52 #[.slice A n c, .slice B m d] w fun r w' => PlcC w w' xs m r := by
  have hl := h.1
  have H := hid h
  have HL := hid hl
  clear h hl
  go_enter Try.func52, Try.ntmps52
  go_wp2
  go_loopw [0, 6] (fun sv v wr => ∃ (A2 : Option Addr) (n2 c2 : Nat) (rest : List UInt8) (ps : List (Nat × Nat)) (f : Nat), sv = .slice A2 n2 c2 ∧ n2 ≤ c2 ∧ RB w A2 n2 rest ∧ OPl wr w.heap.size v ps ∧ plcL (xs.length + 1) xs m = (plcL f rest m).map (ps ++ ·) ∧ n2 < f ∧ ps.length + n2 ≤ n ∧ Below w.heap.size w wr) (fun sv _ _ => lenV sv)
  case atStart => exact ⟨A, n, c, xs, [], xs.length + 1, rfl, hc, H.out, OV.nil _ _ _ _, by simp, by rw [HL.out]; omega, by simp, Below.refl _ _⟩
  case round =>
    obtain ⟨A2, n2, c2, rest, ps, f, rfl, hc2, hr, hov, hpl, hf, hpn, hB⟩ := hrel
    obtain ⟨f, rfl⟩ : ∃ f', f = f' + 1 := ⟨f - 1, by omega⟩
    have hrl := hr.1
    by_cases h0 : n2 = 0
    · obtain rfl : rest = [] := List.eq_nil_of_length_eq_zero (by omega)
      rw [plcL_done] at hpl
      have HP : Hid (plcL (xs.length + 1) xs m = some ps) := hid (by rw [hpl]; simp)
      have HO := hid hov
      have hd : decide ((0 : Int) < (n2 : Int)) = false := decide_eq_false (by omega)
      clear hpl hov hr
      go_wp2
      go_ret2
      exact PlcC.yes HP.out HO.out hB
    · have hne : rest ≠ [] := by intro e; rw [e] at hrl; simp at hrl; omega
      have hd : decide ((0 : Int) < (n2 : Int)) = true := decide_eq_true (by omega)
      have HR := hid hr
      have HO := hid hov
      have htb := takeB_used (xs := rest) (most := 512)
      have HT := hid (takebytes_any A2 n2 c2 rest 512 wr (hr.below hB) hc2 (by omega) (by omega))
      obtain ⟨K, hK⟩ : ∃ K, (takeB rest 512).2.1 = K := ⟨_, rfl⟩
      obtain ⟨E, hE⟩ : ∃ E, (takeB rest 512).2.2 = E := ⟨_, rfl⟩
      rw [hK, hE] at htb HT
      by_cases hE0 : E = 0
      · subst hE0
        have hst := plcL_step (f := f) (size := m) hne hE rfl
        rw [hK] at hst
        obtain ⟨A3, c3, hcut3, hrb3, hc3⟩ := cutB_lo (A := A2) hc2 (lo := K) (by omega) (K : Int) rfl
        have hr3 := hrb3 _ _ hr
        have hyl : (rest.drop K).length = n2 - K := hr3.1
        obtain ⟨y, hy⟩ : ∃ y, rest.drop K = y := ⟨_, rfl⟩
        rw [hy] at hst hr3 hyl
        have HR3 := hid hr3
        have hK1 := htb.2 rfl
        have HPs : Hid (plcL (xs.length + 1) xs m = (if (takeU y).2.2 ≠ 0 then none else if (takeU (y.drop (takeU y).2.1)).2.2 ≠ 0 then none else if withinB m (takeU y).1 (takeU (y.drop (takeU y).2.1)).1 = false then none
      else (plcL f ((y.drop (takeU y).2.1).drop (takeU (y.drop (takeU y).2.1)).2.1) m).map (((takeU y).1, (takeU (y.drop (takeU y).2.1)).1) :: ·)).map (ps ++ ·)) := hid (by rw [hpl, hst])
        have HYl := hid hyl
        clear hpl hst hr hov hrb3 hr3 hyl hne hE hK
        go_wp2_with (go_at_call 75; refine (HT.out).mono ?_; rintro e w1 ⟨v1, rfl, ho1, hb1⟩; have hB1 := below_then hB hb1; have HO1 := hid (HO.out.below hb1); clear ho1)
        have hbx1 := heap_alloc_new w1 (.cells #[.int .u64 0, .int .u64 0] 105)
        have hJ0 : InJ w (w1.alloc (.cells #[.int .u64 0, .int .u64 0] 105)) w1.heap.size u6 (ps.map PlV) (.slice A3 (n2 - K) c3) (.int .i64 0) y := ⟨A3, n2 - K, c3, y, 0, 0, rfl, hc3, HR3.out, by rw [HYl.out]; exact Nat.le_refl _, hbx1, HO1.out.below (below_alloc' (Below.refl _ _) _), below_alloc' hB1 _, .inl ⟨rfl, rfl, rfl, rfl⟩⟩
        have HJ0 := hid hJ0
        have HBs := hid hb1.size
        clear hJ0 hbx1 HO1 hb1 HT HR3
        generalize w1.alloc (.cells #[.int .u64 0, .int .u64 0] 105) = W1 at *
        generalize w1.heap.size = b at *
        have hbw : w.heap.size ≤ b := Nat.le_trans hB.size HBs.out
        have HBw := hid hbw
        obtain ⟨wo, hwo⟩ : ∃ wo, wo = wr := ⟨_, rfl⟩
        rw [← hwo] at HO HBs
        clear hwo hB hB1
        go_loopw [0, 33] (fun sv i wr2 => InJ w wr2 b u6 (ps.map PlV) sv i y) (fun _ i _ => 2 - (intOf i).toNat)
        case atStart => exact HJ0.out
        case round =>
          clear HJ0
          obtain ⟨A4, n4, c4, rest4, a, mm, rfl, hc4, hr4, hny, hbx, hov, hB4, hcase⟩ := hrel
          have HO4 := hid hov
          have HB4 := hid hB4
          obtain ⟨hx0, hx1⟩ := run_index2 (.pointer (some ⟨b, 0, none⟩)) (.pointer (some ⟨b, 1, none⟩)) wr
          have hfz := fun i => frozen_of_row wr b i _ _ hbx
          have hq0 := box_at hbx 0 _ rfl
          have hq1 := box_at hbx 1 _ rfl
          rcases hcase with ⟨rfl, hr1, ha, hm1⟩ | ⟨rfl, hu1, hr1, ha, hm1⟩ | ⟨rfl, hu1, hu2, hr1, ha, hm1⟩
          · have HTk := hid (take_any A4 n4 c4 rest4 wr (hr4.below hB4))
            have htl := takeU_lt rest4
            have hn4 := hr4.1
            have HR4 := hid hr4
            have HBx := hid hbx
            rw [ha] at hq0
            obtain ⟨U, hU⟩ : ∃ U, (takeU rest4).1 = U := ⟨_, rfl⟩
            obtain ⟨K2, hK2⟩ : ∃ K, (takeU rest4).2.1 = K := ⟨_, rfl⟩
            obtain ⟨E2, hE2⟩ : ∃ E, (takeU rest4).2.2 = E := ⟨_, rfl⟩
            rw [hU, hK2, hE2] at HTk
            rw [hU, hK2] at htl
            by_cases hE : E2 = 0
            · subst hE
              obtain ⟨A5, c5, hcut5, hrb5, hc5⟩ := cutB_lo (A := A4) hc4 (lo := K2) (by omega) (K2 : Int) rfl
              have HN : Hid (InJ w (wr.setCell ⟨b, 0, none⟩ (.int .u64 (U : Int))) b u6 (ps.map PlV) (.slice A5 (n4 - K2) c5) (.int .i64 1) y) := hid ⟨A5, n4 - K2, c5, rest4.drop K2, U, 0, rfl, hc5, hrb5 _ _ hr4, by omega, by rw [hm1] at hbx; exact set2_0 _ hbx, OV.past HO4.out HO.out HBs.out (grown_set wr b 0 _), hB4.setCell (show w.heap.size ≤ (⟨b, 0, none⟩ : Addr).block from hbw) _, .inr (.inl ⟨rfl, by rw [← hr1]; exact hE2, by rw [← hr1, hK2], by rw [← hr1, hU], rfl⟩)⟩
              clear hU hK2 hE2 hr1 ha hm1 hr4 hbx hov hrb5
              go_wp2_with (go_at_call 76; refine (HTk.out).mono ?_; rintro e w6 ⟨rfl, rfl⟩)
              go_roundw
              case rel => exact HN.out
              case measure => simp [intOf]
            · have HNo : Hid (plcL (xs.length + 1) xs m = none) := hid (by rw [HPs.out, ← hr1, if_pos (by rw [hE2]; exact hE)]; rfl)
              have hEz : ((E2 : Int) != 0) = true := by simpa using hE
              clear hU hK2 hE2 hr1 ha hm1 hr4 hbx hov hE
              go_wp2_with (go_at_call 76; refine (HTk.out).mono ?_; rintro e w6 ⟨rfl, rfl⟩)
              go_ret2
              exact PlcC.no HNo.out HB4.out
          · have HTk := hid (take_any A4 n4 c4 rest4 wr (hr4.below hB4))
            have htl := takeU_lt rest4
            have hn4 := hr4.1
            have HR4 := hid hr4
            obtain ⟨U, hU⟩ : ∃ U, (takeU rest4).1 = U := ⟨_, rfl⟩
            obtain ⟨K2, hK2⟩ : ∃ K, (takeU rest4).2.1 = K := ⟨_, rfl⟩
            obtain ⟨E2, hE2⟩ : ∃ E, (takeU rest4).2.2 = E := ⟨_, rfl⟩
            rw [hU, hK2, hE2] at HTk
            rw [hU, hK2] at htl
            by_cases hE : E2 = 0
            · subst hE
              obtain ⟨A5, c5, hcut5, hrb5, hc5⟩ := cutB_lo (A := A4) hc4 (lo := K2) (by omega) (K2 : Int) rfl
              have HN : Hid (InJ w (wr.setCell ⟨b, 1, none⟩ (.int .u64 (U : Int))) b u6 (ps.map PlV) (.slice A5 (n4 - K2) c5) (.int .i64 2) y) := hid ⟨A5, n4 - K2, c5, rest4.drop K2, a, U, rfl, hc5, hrb5 _ _ hr4, by omega, set2_1 _ hbx, OV.past HO4.out HO.out HBs.out (grown_set wr b 1 _), hB4.setCell (show w.heap.size ≤ (⟨b, 1, none⟩ : Addr).block from hbw) _, .inr (.inr ⟨rfl, hu1, by rw [← hr1]; exact hE2, by rw [← hr1, hK2], ha, by rw [← hr1, hU]⟩)⟩
              clear hU hK2 hE2 hr1 ha hm1 hr4 hbx hov hrb5
              go_wp2_with (go_at_call 76; refine (HTk.out).mono ?_; rintro e w6 ⟨rfl, rfl⟩)
              go_roundw
              case rel => exact HN.out
              case measure => simp [intOf]
            · have HNo : Hid (plcL (xs.length + 1) xs m = none) := hid (by rw [HPs.out, if_neg (by rw [hu1]; simp), ← hr1, if_pos (by rw [hE2]; exact hE)]; rfl)
              have hEz : ((E2 : Int) != 0) = true := by simpa using hE
              clear hU hK2 hE2 hr1 ha hm1 hr4 hbx hov hE
              go_wp2_with (go_at_call 76; refine (HTk.out).mono ?_; rintro e w6 ⟨rfl, rfl⟩)
              go_ret2
              exact PlcC.no HNo.out HB4.out
          · have h64 : a < 18446744073709551616 ∧ mm < 18446744073709551616 := ⟨by rw [ha]; exact (takeU_lt _).1, by rw [hm1]; exact (takeU_lt _).1⟩
            have HPs2 : Hid (plcL (xs.length + 1) xs m = (if withinB m a mm = false then none else (plcL f rest4 m).map ((a, mm) :: ·)).map (ps ++ ·)) := hid (by rw [HPs.out, if_neg (by rw [hu1]; simp), if_neg (by rw [hu2]; simp), ← ha, ← hm1, ← hr1])
            have HWi := hid (within_any B m d a mm wr hm h64.1 h64.2)
            have HR4 := hid hr4
            have hyl := HYl.out
            clear HPs hu1 hu2 hr1 ha hm1 hr4 hbx hov HYl
            cases hwb : withinB m a mm
            · have HNo : Hid (plcL (xs.length + 1) xs m = none) := hid (by rw [HPs2.out, if_pos hwb]; rfl)
              rw [hwb] at HWi
              clear hwb
              go_wp2_with (go_at_call 51; refine (HWi.out).mono ?_; rintro e w6 ⟨rfl, rfl⟩)
              go_ret2
              exact PlcC.no HNo.out HB4.out
            · have HY : Hid (plcL (xs.length + 1) xs m = (plcL f rest4 m).map ((ps ++ [(a, mm)]) ++ ·)) := hid (by
                rw [HPs2.out, if_neg (by rw [hwb]; simp), Option.map_map]
                congr 1
                funext l
                simp)
              rw [hwb] at HWi
              clear hwb
              go_wp2_with (first
                | (go_at_call 51; refine (HWi.out).mono ?_; rintro e w6 ⟨rfl, rfl⟩)
                | (at_builtin; refine wpV_append1 82 105 _ 2 16 Try.underlying82 plinfo rfl (by omega) w wr w.heap.size rfl (.tmp 58) (.tmp 60) rfl u6 (ps.map PlV) rfl HO4.out #[.int .u64 (a : Int), .int .u64 (mm : Int)] rfl (ones2 rfl rfl) 1 _ (by first | rfl | simp) rfl (by rw [List.length_map]; simp only [maxLen]; omega) (by rw [List.length_map]; omega) hB4 hB4.size ?_; intro v7 w7 hown7 hB7 hg7 _))
              go_roundw
              case rel => exact ⟨A4, n4, c4, rest4, ps ++ [(a, mm)], f, rfl, hc4, HR4.out, by unfold OPl; rw [List.map_append]; exact hown7, HY.out, by omega, by rw [List.length_append, List.length_singleton]; omega, hB7⟩
              case measure => simp [lenV]; omega
      · have HNo : Hid (plcL (xs.length + 1) xs m = none) := hid (by rw [hpl, plcL_bad hne (by rw [hE]; exact hE0)]; rfl)
        have hEz : ((E : Int) != 0) = true := by simpa using hE0
        clear hpl hr hov hne hE hK hE0
        go_wp2_with (go_at_call 75; refine (HT.out).mono ?_; rintro e w1 ⟨v1, rfl, ho1, hb1⟩; have hB1 := below_then hB hb1; clear ho1)
        go_ret2
        exact PlcC.no HNo.out hB1
end Go.Proofs.Ytkkclkknpjapcaa
/-! ### TbJ -/
namespace Go.Proofs.Ytkkclkknpjapcaa
open Go.RowKit
set_option linter.unusedVariables false
set_option linter.unusedSimpArgs false

def noPl : Nat × Nat := (0, 0)
/-- The slice of n places at A holds ps. -/
def PlCell (w : World) (ad : Addr) (p : Nat × Nat) : Prop := w.cell? ad = some (.int .u64 (p.1 : Int)) ∧ w.cell? ⟨ad.block, ad.off + 1, none⟩ = some (.int .u64 (p.2 : Int))
def RPl (w : World) (A : Option Addr) (n : Nat) (ps : List (Nat × Nat)) : Prop := ps.length = n ∧ n ≤ 9223372036854775807 ∧ (0 < n → ∃ ad, A = some ad ∧ ∀ j, j < n → PlCell w (ad.add (j * 2)) (elt noPl ps j))
theorem RPl.at_ {w : World} {A : Option Addr} {n : Nat} {ps : List (Nat × Nat)} (h : RPl w A n ps) {j : Nat} (hj : j < n) : ∃ ad, A = some ad ∧ PlCell w (ad.add (j * 2)) (elt noPl ps j) := by
  obtain ⟨ad, e, hc⟩ := h.2.2 (by omega)
  exact ⟨ad, e, hc j hj⟩
theorem OPl.reads {w : World} {base : Nat} {v : Value} {ps : List (Nat × Nat)} (h : OPl w base v ps) (hm : ps.length ≤ 9223372036854775807) : ∃ A c, v = .slice A ps.length c ∧ ps.length ≤ c ∧ RPl w A ps.length ps ∧ ∀ ad, A = some ad → base ≤ ad.block := by
  unfold OPl at h
  have hl : (ps.map PlV).length = ps.length := List.length_map ..
  rcases Nat.eq_zero_or_pos ps.length with h0 | h0
  · obtain ⟨A, c, rfl, hc⟩ := h.open_
    refine ⟨A, c, by rw [hl], by omega, ⟨rfl, hm, fun hn => absurd hn (by omega)⟩, fun ad e => ?_⟩
    subst e
    exact h.base_ ad.block rfl
  · obtain ⟨g, c, rfl, hb, _, hc⟩ := h.form (by omega)
    refine ⟨_, c, by rw [hl], by omega, ⟨rfl, hm, fun _ => ⟨_, rfl, fun j hj => ?_⟩⟩, fun ad e => ?_⟩
    · have h2 := fun i (hi : i < 2) => h.cell (j := j) (i := i) (by omega) hi
      have he : elt [] (ps.map PlV) j = PlV (elt noPl ps j) := by
        unfold elt
        simp [List.getD_eq_getElem?_getD, hj]
      rw [he] at h2
      rw [add_plain, Nat.zero_add]
      exact ⟨h2 0 (by omega), h2 1 (by omega)⟩
    · cases e
      exact hb
/-- append of records. -/
theorem wpV_append {ops : Array Oper} {rest : List Oper} {o : Oper} {a : Act} {Q : Exit → Act → World → Prop} (t e : TypeId) (z : Value) (size bytes : Nat) (ht : Try.prog.underlying t = some (.slice e))
    (hinfo : (Try.prog.info? e).map (fun i => (i.zero, i.size, i.bytes)) = some (some z, size, bytes)) (hzs : z.cells.size = size) (hsz : 0 < size) (w0 w : World) (base : Nat) (hgd : o.guard = none) (s x : Operand)
    (ho : o.op = .call { callee := .builtin .append, args := #[s, x], argTypes := #[t, t] })
    (v : Value) (V : List (List Value)) (hs : a.eval s = v) (hown : OV w base e size v V) (A : Option Addr) (m c : Nat) (U : List (List Value)) (hx : a.eval x = .slice A m c) (hr : Reads w size A m U.flatten) (hU : ∀ x ∈ U, x.length = size) (hm : U.length = m) (hu : ∀ u ∈ U.flatten, u.oneCell' = true)
    (hmax : V.length + m ≤ maxLen) (hbytes : (V.length + m) * bytes ≤ 140737488355328) (hB : Below base w0 w) (hbase : base ≤ w.heap.size)
    (h : ∀ v' w', OV w' base e size v' (V ++ U) → Below base w0 w' → w.grownBy w' v.ownBlock → AtRow w.heap.size v v' → wpList Try.prog ops Q rest (a.put o.dst v') w') : wpList Try.prog ops Q (o :: rest) a w := by
  refine wpList_append_any w hgd s x _ ho base e z size bytes ht hinfo hzs hsz v V.length V.flatten hs hown.1 _ m c U.flatten hx hr hu hmax hbytes hbase ?_
  intro v' w' h2 h3 h4
  refine h v' w' ⟨?_, ?_⟩ (hB.grown h3 hbase (own_base hown.1)) h3 (h4.imp id fun e => ⟨_, e, Nat.le_refl _⟩)
  · rw [List.length_append, List.flatten_append, hm]
    exact h2
  · intro y hy
    rcases List.mem_append.1 hy with hy | hy
    · exact hown.2 y hy
    · exact hU y hy
/-- The table's box as read has it. -/
def RdT (w wr : World) (bt : Nat) (fv lv : Value) (acc : List EntR) : Prop :=
  wr.heap[bt]? = some (.cells #[lv, fv] 81 (0, 0)) ∧ ROw wr w.heap.size lv acc ∧ w.grownBy wr (some bt)
theorem PEo.box' {w w' : World} {base b : Nat} {cs : Array Value} {x : List Value} {e : EntR} {fr : Nat × Nat} (h : PEo w base x e) (hb : w.heap[b]? = some (.cells cs 81 fr)) (hg : w.grownBy w' (some b)) : PEo w' base x e := by
  obtain ⟨kv, vv, hx, h1, h2⟩ := h
  exact ⟨kv, vv, hx, h1.other hg (.inr (h1.ne_blk hb (by decide))), h2.other hg (.inr (h2.ne_blk hb (by decide)))⟩
theorem RdT.below {w wr w' : World} {bt : Nat} {fv lv : Value} {acc : List EntR} (h : RdT w wr bt fv lv acc) (hb : Below wr.heap.size wr w') : RdT w w' bt fv lv acc :=
  ⟨blk_below hb h.1, h.2.1.below hb, grown_below h.2.2 hb⟩
/-- The entries of one block more. -/
theorem RdT.push {w w1 w3 : World} {bt : Nat} {fv lv lv' : Value} {acc more : List EntR} {V U : List (List Value)} (h1 : w1.heap[bt]? = some (.cells #[lv, fv] 81 (0, 0))) (hV : OV w1 w.heap.size 42 5 lv V) (hVr : RelV noEnt (PEo w1 w.heap.size) V acc) (hgr : w.grownBy w1 (some bt)) (hUr : RelV noEnt (PEo w1 w.heap.size) U more)
    (hg : w1.grownBy w3 lv.ownBlock) (hV3 : OV w3 w.heap.size 42 5 lv' (V ++ U)) (hlt : bt < w.heap.size) : RdT w (w3.setCell ⟨bt, 0, none⟩ lv') bt fv lv' (acc ++ more) := by
  have hb3 : w3.heap[bt]? = some (.cells #[lv, fv] 81 (0, 0)) := blk_grown' hg h1 (hV.ne_blk h1 (by decide))
  have hgs := grown_set w3 bt 0 lv'
  refine ⟨set2_0 _ hb3, ⟨V ++ U, hV3.other hgs (.inr (hV3.ne_blk hb3 (by decide))), ?_⟩, ?_⟩
  · exact ((hVr.mono fun x a hx => hx.grown hg hV).app (hUr.mono fun x a hx => hx.grown hg hV)).mono fun x a hx => hx.box' hb3 hgs
  · refine ⟨hgs.os.trans (hg.os.trans hgr.os), hgs.tape.trans (hg.tape.trans hgr.tape), hgs.output.trans (hg.output.trans hgr.output), Nat.le_trans hgr.size (Nat.le_trans hg.size hgs.size), fun i hi hne => ?_⟩
    have hi1 := Nat.lt_of_lt_of_le hi hgr.size
    have hi3 := Nat.lt_of_lt_of_le hi1 hg.size
    rw [hgs.block i hi3 hne, hg.block i hi1 ?_, hgr.block i hi hne]
    intro e
    have := hV.base_ i e.symm
    omega
/-- What read answers. -/
def ReadC (w w' : World) (bt : Nat) (fv : Value) (RT : Option (List EntR)) (er : Int) : Prop :=
  match RT with
  | none => er ≠ 0 ∧ w.grownBy w' (some bt)
  | some es => er = 0 ∧ ∃ lv, RdT w w' bt fv lv es
/-- What the label finds. -/
def RdZ (w : World) (bt : Nat) (fv : Value) (RT : Option (List EntR)) (t0 t1 t2 : Value) (a' : Act) (w' : World) : Prop := ∃ (er : Int) (u3 u4 u5 u6 u8 u9 u10 u11 u12 u13 u14 u15 u16 u17 u18 u19 u20 u21 u22 u23 u24 u25 u26 u27 u28 u29 u30 u31 u32 u33 u34 u35 u36 u37 u38 u39 u40 u41 u42 u43 u44 u45 u46 u47 u48 u49 u50 u51 u52 u53 u54 u55 u56 u57 u58 u59 u60 u61 u62 u63 u64 u65 u66 u67 u68 u69 u70 u71 u72 : Value), a' = { tmps := #[t0, t1, t2, u3, u4, u5, u6, .int .i64 er, u8, u9, u10, u11, u12, u13, u14, u15, u16, u17, u18, u19, u20, u21, u22, u23, u24, u25, u26, u27, u28, u29, u30, u31, u32, u33, u34, u35, u36, u37, u38, u39, u40, u41, u42, u43, u44, u45, u46, u47, u48, u49, u50, u51, u52, u53, u54, u55, u56, u57, u58, u59, u60, u61, u62, u63, u64, u65, u66, u67, u68, u69, u70, u71, u72], defers := [] } ∧ ReadC w w' bt fv RT er
theorem rdsL_at {xs : List UInt8} {ps : List (Nat × Nat)} {acc : List EntR} {k : Nat} (h : k < ps.length) : rdsL xs (ps.drop k) acc = match decF (cutS xs (elt noPl ps k).1 (elt noPl ps k).2) with | none => none | some more => if 4000 < acc.length then some acc else rdsL xs (ps.drop (k + 1)) (acc ++ more) := by
  have e : ps.drop k = elt noPl ps k :: ps.drop (k + 1) := by
    rw [List.drop_eq_getElem_cons h]
    unfold elt
    simp [h]
  rw [e, rdsL]
  cases decF (cutS xs (elt noPl ps k).1 (elt noPl ps k).2) <;> rfl
theorem RB.setl {w w' : World} {A : Option Addr} {n : Nat} {xs : List UInt8} {bt : Nat} (h : RB w A n xs) (hg : w.grownBy w' (some bt)) (hne : ∀ ad : Addr, A = some ad → ad.block ≠ bt) : RB w' A n xs := h.grown hg fun ad e he => hne ad e (Option.some.inj he)
theorem RPl.setl {w w' : World} {A : Option Addr} {n : Nat} {ps : List (Nat × Nat)} {bt : Nat} (h : RPl w A n ps) (hg : w.grownBy w' (some bt)) (hne : ∀ ad : Addr, A = some ad → ad.block ≠ bt) : RPl w' A n ps :=
  ⟨h.1, h.2.1, fun h0 => by
    obtain ⟨ad, e, hc⟩ := h.2.2 h0
    have hn := hne ad e
    refine ⟨ad, e, fun j hj => ⟨hg.cell (hc j hj).1 (by rw [block_of_add]; intro he; exact hn (Option.some.inj he)), hg.cell (hc j hj).2 (by rw [show (⟨(ad.add (j * 2)).block, (ad.add (j * 2)).off + 1, none⟩ : Addr).block = ad.block from block_of_add _ _]; intro he; exact hn (Option.some.inj he))⟩⟩⟩
theorem all_upto {α : Type} {d : α} {f : α → Bool} {l : List α} (h : ∀ j, j < l.length → f (elt d l j) = true) : l.all f = true := by
  rw [List.all_eq_true]
  intro x hx
  obtain ⟨j, hj, rfl⟩ := List.getElem_of_mem hx
  have := h j hj
  rwa [elt_get d hj] at this
set_option maxHeartbeats 64000000 in
set_option maxRecDepth 200000 in
theorem read_tab (bt : Nat) (fv : Value) (A : Option Addr) (n c : Nat) (xs : List UInt8) (B : Option Addr) (m d : Nat) (ps : List (Nat × Nat)) (w : World) (hbx : w.heap[bt]? = some (.cells #[.slice none 0 0, fv] 81 (0, 0))) (h : RB w A n xs) (hc : n ≤ c) (hsz : n ≤ 100000000) (hp : RPl w B m ps)
    (hin : ∀ j, j < m → (elt noPl ps j).1 + (elt noPl ps j).2 + 4 ≤ n) (hneA : ∀ ad : Addr, A = some ad → ad.block ≠ bt) (hneB : ∀ ad : Addr, B = some ad → ad.block ≠ bt) :
    Calls Try.prog 53 #[.pointer (some ⟨bt, 0, none⟩), .slice A n c, .slice B m d] w fun r w' => ∃ er : Int, r = .returned (.int .i64 er) ∧ ReadC w w' bt fv (readT xs ps) er := by
  have hl := h.1
  have hml := hp.1
  have hmm := hp.2.1
  have hbt : bt < w.heap.size := blk_lt hbx
  have H := hid h
  have HP := hid hp
  have HIn := hid hin
  have HneA := hid hneA
  have HneB := hid hneB
  have HBx := hid hbx
  obtain ⟨RT, hRT⟩ : ∃ RT, readT xs ps = RT := ⟨_, rfl⟩
  have hRT2 := hRT
  unfold readT at hRT2
  have HRTb : Hid (∀ k, k < m → soundB xs (elt noPl ps k).1 (elt noPl ps k).2 = false → RT = none) := hid (fun k hk hf => by
    rw [← hRT2, if_neg]
    intro hall
    have := List.all_eq_true.1 hall (elt noPl ps k) (by unfold elt; simp [show k < ps.length by omega])
    rw [hf] at this
    cases this)
  have HRTg : Hid ((∀ k, k < m → soundB xs (elt noPl ps k).1 (elt noPl ps k).2 = true) → rdsL xs (ps.drop 0) [] = RT) := hid (fun hall => by
    rw [← hRT2, if_pos (all_upto (d := noPl) (f := fun p : Nat × Nat => soundB xs p.1 p.2) (fun j hj => hall j (by omega)))]
    rfl)
  have HStep : Hid (∀ k acc, k < m → rdsL xs (ps.drop k) acc = match decF (cutS xs (elt noPl ps k).1 (elt noPl ps k).2) with | none => none | some more => if 4000 < acc.length then some acc else rdsL xs (ps.drop (k + 1)) (acc ++ more)) := hid (fun k acc hk => rdsL_at (by omega))
  have HEnd : Hid (∀ acc, rdsL xs (ps.drop m) acc = some acc) := hid (fun acc => by rw [List.drop_of_length_le (by omega)]; rfl)
  rw [hRT]
  clear hRT hRT2 h hp hin hneA hneB hl hml hbx
  go_enter Try.func53, Try.ntmps53
  go_wp2
  refine wp_scope_ghost 0 (fun _ => RdZ w bt fv RT (.pointer (some ⟨bt, 0, none⟩)) (.slice A n c) (.slice B m d)) rfl ?_ ?_
  · rintro k a' w' hz
    unfold RdZ at hz
    obtain ⟨er, u3, u4, u5, u6, u8, u9, u10, u11, u12, u13, u14, u15, u16, u17, u18, u19, u20, u21, u22, u23, u24, u25, u26, u27, u28, u29, u30, u31, u32, u33, u34, u35, u36, u37, u38, u39, u40, u41, u42, u43, u44, u45, u46, u47, u48, u49, u50, u51, u52, u53, u54, u55, u56, u57, u58, u59, u60, u61, u62, u63, u64, u65, u66, u67, u68, u69, u70, u71, u72, rfl, hrc⟩ := hz
    go_wp2
    simp only [Exit.jump]
    go_ret
    exact ⟨er, rfl, hrc⟩
  intro hpass
  go_wp2
  go_loopw [7, 17] (fun ev i wr => ∃ k : Nat, k ≤ m ∧ i = .int .i64 k ∧ ev = .int .i64 0 ∧ (∀ j, j < k → soundB xs (elt noPl ps j).1 (elt noPl ps j).2 = true) ∧ Below w.heap.size w wr) (fun _ i _ => m - (intOf i).toNat)
  case atStart => exact ⟨0, Nat.zero_le _, rfl, rfl, fun j hj => absurd hj (by omega), Below.refl _ _⟩
  case round =>
    obtain ⟨k, hk, rfl, rfl, hall, hB⟩ := hrel
    have HA := hid hall
    clear hall
    by_cases hlt : k < m
    · obtain ⟨ad, rfl, hcell⟩ := HP.out.at_ hlt
      have hink := HIn.out k hlt
      have HF := hid (HRTb.out k hlt)
      have HA2 : Hid (soundB xs (elt noPl ps k).1 (elt noPl ps k).2 = true → ∀ j, j < k + 1 → soundB xs (elt noPl ps j).1 (elt noPl ps j).2 = true) := by
        intro h j hj
        rcases Nat.lt_succ_iff_lt_or_eq.1 hj with h1 | h1
        · exact HA.out j h1
        · rw [h1]; exact h
      generalize elt noPl ps k = p at *
      obtain ⟨pa, pm⟩ := p
      simp only at hink HF HA2
      have q0 := below_cell hB hcell.1
      have q1 := below_cell hB hcell.2
      simp only at q0 q1
      have HPc := hid (fun u (hu : Below w.heap.size w u) => piece_any A n c xs pa pm u (H.out.below hu) hc hink (by omega))
      have hBa := below_alloc' hB (.cells #[.int .u64 (pa : Int), .int .u64 (pm : Int)] 105)
      clear hcell
      cases hs : soundB xs pa pm
      · have HE : Hid (RT = none) := hid (HF.out hs)
        have HS := hid hs
        clear hs
        go_wp2_with (go_at_call 49; refine (HPc.out _ (by first | exact hBa | exact HBa.out)).mono ?_; rintro e w6 ⟨A6, c6, rfl, hr6, hc6, rfl⟩; rw [HS.out])
        refine wp_goto ⟨rfl, 0, ?_⟩
        unfold RdZ
        exact ⟨4, _, _, _, _, _, _, _, _, _, _, _, _, _, _, _, _, _, _, _, _, _, _, _, _, _, _, _, _, _, _, _, _, _, _, _, _, _, _, _, _, _, _, _, _, _, _, _, _, _, _, _, _, _, _, _, _, _, _, _, _, _, _, _, _, _, _, _, _, _, rfl, by unfold ReadC; rw [HE.out]; exact ⟨by decide, below_grown hBa _⟩⟩
      · have HA3 := hid (HA2.out hs)
        have HS := hid hs
        clear hs
        go_wp2_with (go_at_call 49; refine (HPc.out _ (by exact hBa)).mono ?_; rintro e w6 ⟨A6, c6, rfl, hr6, hc6, rfl⟩; rw [HS.out])
        go_roundw
        case rel => exact ⟨k + 1, by omega, by go_num, rfl, HA3.out, hBa⟩
        case measure => simp [intOf]; omega
    · obtain rfl : k = m := by omega
      have HR0 := hid (HRTg.out HA.out)
      have hbx1 := blk_below hB HBx.out
      have HT0 : Hid (RdT w wr bt fv (.slice none 0 0) []) := hid ⟨hbx1, ROw.nil _ _, below_grown hB _⟩
      clear HA HRTb HRTg hB hbx1
      go_wp2
      go_loopw [35, 7] (fun i ev wr2 => ∃ (q : Nat) (acc : List EntR) (lv : Value), q ≤ k ∧ i = .int .i64 q ∧ ev = .int .i64 0 ∧ RdT w wr2 bt fv lv acc ∧ rdsL xs (ps.drop q) acc = RT ∧ acc.length ≤ 4400) (fun i _ _ => k - (intOf i).toNat)
      case atStart => exact ⟨0, [], _, Nat.zero_le _, rfl, rfl, HT0.out, HR0.out, by simp⟩
      case round =>
        clear HT0 HR0
        obtain ⟨q, acc, lv, hq, rfl, rfl, hT, hrt, hacc⟩ := hrel
        by_cases hlt2 : q < k
        · have hst := HStep.out q acc hlt2
          rw [hrt] at hst
          have hgr := hT.2.2
          obtain ⟨ad, rfl, hcell⟩ := (HP.out.setl hgr HneB.out).at_ hlt2
          have hink := HIn.out q hlt2
          generalize elt noPl ps q = p at *
          obtain ⟨pa, pm⟩ := p
          simp only at hink hst
          obtain ⟨q0, q1⟩ := hcell
          simp only at q0 q1
          obtain ⟨Q, hQ⟩ : ∃ Q : Nat, pa + pm = Q := ⟨_, rfl⟩
          have hQi : (pa : Int) + (pm : Int) = (Q : Int) := by omega
          have hwq := wrap_u64_nat Q (by omega)
          obtain ⟨A2, c2, hcut, hrb, hc2⟩ := cutBu (A := A) hc (lo := pa) (hi := Q) (by omega) (by omega) (pa : Int) (Q : Int) rfl rfl
          rw [show Q - pa = pm by omega] at hcut hrb hc2
          have HRb : Hid (RB wr A2 pm (cutS xs pa pm)) := hid (hrb _ _ (H.out.setl hgr HneA.out))
          have hBa := below_alloc' (Below.refl wr.heap.size wr) (.cells #[.int .u64 (pa : Int), .int .u64 (pm : Int)] 105)
          have HDc := hid (decode_any A2 pm c2 (cutS xs pa pm) _ (HRb.out.below hBa) hc2 (by omega))
          have HT := hid hT
          have HSt := hid hst
          clear hrb hT hst hrt hgr hQ
          cases hdf : decF (cutS xs pa pm) with
          | none =>
            have HE : Hid (RT = none) := hid (by rw [HSt.out, hdf])
            have HD := hid hdf
            clear hdf
            go_wp2_with (go_at_call 77; refine (HDc.out).mono ?_; intro r w1 hdc; unfold DecC at hdc; rw [HD.out] at hdc; obtain ⟨⟨er, her, rfl⟩, hb1⟩ := hdc; have hzb : (er != 0) = true := (by simpa using her); have HB1 := hid (below_then hBa hb1))
            refine wp_goto ⟨rfl, 0, ?_⟩
            unfold RdZ
            exact ⟨er, _, _, _, _, _, _, _, _, _, _, _, _, _, _, _, _, _, _, _, _, _, _, _, _, _, _, _, _, _, _, _, _, _, _, _, _, _, _, _, _, _, _, _, _, _, _, _, _, _, _, _, _, _, _, _, _, _, _, _, _, _, _, _, _, _, _, _, _, _, rfl, by unfold ReadC; rw [HE.out]; exact ⟨her, grown_below HT.out.2.2 HB1.out⟩⟩
          | some more =>
            have HD := hid hdf
            have hfm := decF_some hdf
            have hmore : more.length ≤ 400 := hfm.1.2.1
            have HSt2 : Hid (RT = if 4000 < acc.length then some acc else rdsL xs (ps.drop (q + 1)) (acc ++ more)) := hid (by rw [HSt.out, hdf])
            obtain ⟨hbx2, ⟨V, hV, hVr⟩, hgr⟩ := HT.out
            have hVl : V.length = acc.length := hVr.1
            obtain ⟨Al, cl, hlv, hcl⟩ := hV.openN acc.length hVl
            subst hlv
            have HV := hid hV
            have HVr := hid hVr
            clear hdf hfm HSt hV hVr hbx2
            by_cases hbig : 4000 < acc.length
            · have HE : Hid (RT = some acc) := hid (by rw [HSt2.out, if_pos hbig])
              have hd4 : decide ((4000 : Int) < (acc.length : Int)) = true := decide_eq_true (by omega)
              go_wp2_with (go_at_call 77; refine (HDc.out).mono ?_; intro r w1 hdc; unfold DecC at hdc; rw [HD.out] at hdc; obtain ⟨v1, rfl, ho1, hb1⟩ := hdc; have HB1 := hid (below_then hBa hb1); have hT1 := HT.out.below HB1.out; have c0 := box_at hT1.1 0 _ rfl; have HT1 := hid hT1; clear hT1 ho1 hb1)
              refine wp_goto ⟨rfl, 0, ?_⟩
              unfold RdZ
              exact ⟨0, _, _, _, _, _, _, _, _, _, _, _, _, _, _, _, _, _, _, _, _, _, _, _, _, _, _, _, _, _, _, _, _, _, _, _, _, _, _, _, _, _, _, _, _, _, _, _, _, _, _, _, _, _, _, _, _, _, _, _, _, _, _, _, _, _, _, _, _, _, rfl, by unfold ReadC; rw [HE.out]; exact ⟨rfl, _, HT1.out⟩⟩
            · have HE : Hid (rdsL xs (ps.drop (q + 1)) (acc ++ more) = RT) := hid (by rw [HSt2.out, if_neg hbig])
              have hd4 : decide ((4000 : Int) < (acc.length : Int)) = false := decide_eq_false (by omega)
              have hgsz := hgr.size
              go_wp2_with (first
                | (go_at_call 77; refine (HDc.out).mono ?_; intro r w1 hdc; unfold DecC at hdc; rw [HD.out] at hdc; obtain ⟨v1, rfl, ⟨U, hU, hUr⟩, hb1⟩ := hdc; have HB1 := hid (below_then hBa hb1); have hT1 := HT.out.below HB1.out; have c0 := box_at hT1.1 0 _ rfl; have f0 := frozen_of_row w1 bt 0 _ _ hT1.1; have hUl : U.length = more.length := hUr.1; obtain ⟨Am, cm, rfl, hcm⟩ := hU.openN more.length hUl; have HT1 := hid hT1; have HV1 := hid (HV.out.below HB1.out); have HVr1 := hid (HVr.out.mono fun x a hx => hx.below HB1.out); have hsz1 := HB1.out.size; have hbase1 : w.heap.size ≤ wr.heap.size + 1 := (by omega); have HU := hid hU; have HUr : Hid (RelV noEnt (PEo w1 w.heap.size) U more) := hid (hUr.mono fun x a hx => hx.mono (by simpa using hbase1)); have HUe := hid (hUr.mono fun x a hx => hx.reads); clear hT1 hU hUr hb1)
                | (at_builtin; go_loud (refine wpV_append 22 42 _ 5 72 Try.underlying22 eninfo rfl (by omega) w1 w1 w.heap.size rfl (.tmp 66) (.tmp 67) rfl (.slice Al acc.length cl) V rfl HV1.out Am more.length cm U rfl (HU.out.reads hUl) HU.out.2 hUl HUe.out.ones (by rw [hVl]; simp only [maxLen]; omega) (by rw [hVl]; omega) (Below.refl _ _) (Nat.le_trans hgsz hsz1) ?_); intro v3 w3 hown3 hB3 hg3 hat3; obtain ⟨A9, c9, rfl, _⟩ := hown3.openN (acc.length + more.length) (by rw [List.length_append, hVl, hUl]); go_loud (have HT3 := hid (RdT.push (fv := fv) HT1.out.1 HV1.out HVr1.out HT1.out.2.2 HUr.out hg3 hown3 hbt)); go_loud (have hb3 := blk_grown' hg3 HT1.out.1 (HV1.out.ne_blk HT1.out.1 (by decide))); have f3 := fun i => frozen_of_row w3 bt i _ _ hb3; have c3 := box_at hb3 0 _ rfl; clear hown3 hB3 hg3 hat3 hb3))
              go_roundw
              case rel => exact ⟨q + 1, acc ++ more, _, by omega, by go_num, rfl, HT3.out, HE.out, by rw [List.length_append]; omega⟩
              case measure => simp [intOf]; omega
        · obtain rfl : q = k := by omega
          have HE : Hid (RT = some acc) := hid (by rw [← hrt, HEnd.out])
          have HT := hid hT
          clear hrt hT
          go_wp2
          refine wp_label_k (by assumption) ?_
          go_wp2
          simp only [Exit.jump]
          go_ret
          exact ⟨0, rfl, by unfold ReadC; rw [HE.out]; exact ⟨rfl, _, HT.out⟩⟩
end Go.Proofs.Ytkkclkknpjapcaa
/-! ### TbG -/
namespace Go.Proofs.Ytkkclkknpjapcaa
open Go.RowKit
set_option linter.unusedVariables false
set_option linter.unusedSimpArgs false

/-- A table's parts. -/
structure Parts (es : List EntR) (out idx FIL F : List UInt8) : Prop where
  tab : tabB es = ((((out ++ sumB idx) ++ sumB FIL) ++ sumB F)) ++ magicB
  outE : out = outF es.length es
  idxE : idx = idxF es.length es 0
  foot : F = footB out.length idx.length (out.length + idx.length + 4) FIL.length es.length
  outL : out.length ≤ es.length * 2714
  idxL : idx.length ≤ es.length * 542
  filL : FIL.length ≤ 10 * es.length + 8
  filE : FIL = filtB es
theorem parts_of {es : List EntR} (h : AllM es) : ∃ out idx FIL F, Parts es out idx FIL F := by
  refine ⟨blocksB es, indexB es, filtB es, footB (blocksB es).length (indexB es).length ((blocksB es).length + (indexB es).length + 4) (filtB es).length es.length, ?_, blocks_eq es, index_eq es, rfl, ?_, ?_, ?_, ?_⟩
  · unfold tabB
    rw [List.length_append, sumB_len, ← Nat.add_assoc]
  · rw [blocks_eq]; exact outF_len _ _ h
  · rw [index_eq]; exact idxF_len _ _ _ h
  · have h1 := keysU_len es es.length
    unfold filtB filterB
    rw [fillUpto_len]
    unfold sizeF
    split <;> omega
  · rfl
section
variable {es : List EntR} {out idx FIL F : List UInt8}
theorem Parts.footL (h : Parts es out idx FIL F) : F.length = 20 := by rw [h.foot, footB_len]
theorem Parts.len (h : Parts es out idx FIL F) : (tabB es).length = out.length + idx.length + FIL.length + 40 := by
  rw [h.tab]
  simp only [List.length_append, sumB_len, h.footL]
  have : magicB.length = 8 := rfl
  omega
theorem Parts.footOf (h : Parts es out idx FIL F) : footOf (tabB es) = sumB F ++ magicB := by
  unfold Go.Proofs.Ytkkclkknpjapcaa.footOf
  have e : tabB es = ((out ++ sumB idx) ++ sumB FIL) ++ (sumB F ++ magicB) := by rw [h.tab, List.append_assoc]
  have hl : (tabB es).length - 32 = ((out ++ sumB idx) ++ sumB FIL).length := by
    rw [h.len]
    simp only [List.length_append, sumB_len]
    omega
  rw [hl, e, drop_app]
theorem Parts.bodyOf (h : Parts es out idx FIL F) : bodyOf (tabB es) = (out ++ sumB idx) ++ sumB FIL := by
  unfold Go.Proofs.Ytkkclkknpjapcaa.bodyOf
  have e : tabB es = ((out ++ sumB idx) ++ sumB FIL) ++ (sumB F ++ magicB) := by rw [h.tab, List.append_assoc]
  have hl : (tabB es).length - 32 = ((out ++ sumB idx) ++ sumB FIL).length := by
    rw [h.len]
    simp only [List.length_append, sumB_len]
    omega
  rw [hl, e, take_app]
theorem four_at (pre post : List UInt8) (n k : Nat) (hk : k = pre.length) (hn : n < 4294967296) : readU ((((pre ++ fixB n 4) ++ post).drop k).take 4) = n := by
  subst hk
  rw [List.append_assoc, drop_app]
  have hl := fix4_len n
  rw [← hl, take_app, read_fix hn]
theorem Parts.nums (h : Parts es out idx FIL F) (hn : es.length ≤ 4000) : numOf (tabB es) 0 = out.length ∧ numOf (tabB es) 1 = idx.length ∧ numOf (tabB es) 2 = out.length + idx.length + 4 ∧ numOf (tabB es) 3 = FIL.length := by
  have h1 := h.outL
  have h2 := h.idxL
  have h3 := h.filL
  have hf : Go.Proofs.Ytkkclkknpjapcaa.footOf (tabB es) = ((((fixB out.length 4 ++ fixB idx.length 4) ++ fixB (out.length + idx.length + 4) 4) ++ fixB FIL.length 4) ++ fixB es.length 4) ++ (fixB (sumOf F) 4 ++ magicB) := by
    rw [h.footOf]
    show (F ++ fixB (sumOf F) 4) ++ magicB = _
    generalize fixB (sumOf F) 4 = S
    rw [h.foot]
    unfold footB
    simp only [List.append_assoc]
  unfold numOf
  rw [hf]
  refine ⟨?_, ?_, ?_, ?_⟩
  · have := four_at [] (fixB idx.length 4 ++ (fixB (out.length + idx.length + 4) 4 ++ (fixB FIL.length 4 ++ (fixB es.length 4 ++ (fixB (sumOf F) 4 ++ magicB))))) out.length (4 * 0) rfl (by omega)
    simpa only [List.append_assoc, List.nil_append] using this
  · have := four_at (fixB out.length 4) (fixB (out.length + idx.length + 4) 4 ++ (fixB FIL.length 4 ++ (fixB es.length 4 ++ (fixB (sumOf F) 4 ++ magicB)))) idx.length (4 * 1) (by rw [fix4_len]) (by omega)
    simpa only [List.append_assoc] using this
  · have := four_at (fixB out.length 4 ++ fixB idx.length 4) (fixB FIL.length 4 ++ (fixB es.length 4 ++ (fixB (sumOf F) 4 ++ magicB))) (out.length + idx.length + 4) (4 * 2) (by rw [List.length_append, fix4_len, fix4_len]) (by omega)
    simpa only [List.append_assoc] using this
  · have := four_at ((fixB out.length 4 ++ fixB idx.length 4) ++ fixB (out.length + idx.length + 4) 4) (fixB es.length 4 ++ (fixB (sumOf F) 4 ++ magicB)) FIL.length (4 * 3) (by rw [List.length_append, List.length_append, fix4_len, fix4_len, fix4_len]) (by omega)
    simpa only [List.append_assoc] using this
theorem Parts.bodyL (h : Parts es out idx FIL F) : (Go.Proofs.Ytkkclkknpjapcaa.bodyOf (tabB es)).length = out.length + idx.length + FIL.length + 8 := by
  rw [h.bodyOf]
  simp only [List.length_append, sumB_len]
  omega
theorem Parts.head (h : Parts es out idx FIL F) (hn : es.length ≤ 4000) : headOK (tabB es) = true := by
  obtain ⟨n0, n1, n2, n3⟩ := h.nums hn
  unfold headOK
  rw [n0, n1, n2, n3, h.bodyL]
  simp only [Bool.and_eq_true]
  refine ⟨⟨⟨⟨?_, ?_⟩, ?_⟩, ?_, ?_⟩, ?_, ?_⟩
  · rw [decide_eq_true_iff, h.len]; omega
  · rw [decide_eq_true_iff, h.footOf]
    have : (sumB F).length = 24 := by rw [sumB_len, h.footL]
    rw [← this, drop_app]
  · rw [h.footOf]
    have := sound_mid [] F magicB
    rw [List.nil_append, h.footL] at this
    exact this
  · unfold withinB; rw [decide_eq_true_iff]; omega
  · unfold withinB; rw [decide_eq_true_iff]; omega
  · rw [h.bodyOf]
    exact sound_mid out idx (sumB FIL)
  · rw [h.bodyOf]
    have := sound_mid (out ++ sumB idx) FIL []
    rw [List.append_nil, List.length_append, sumB_len, ← Nat.add_assoc] at this
    exact this
theorem Parts.index (h : Parts es out idx FIL F) : cutS (Go.Proofs.Ytkkclkknpjapcaa.bodyOf (tabB es)) out.length idx.length = idx := by
  rw [h.bodyOf]
  have := cut_mid out idx (fixB (sumOf idx) 4 ++ sumB FIL)
  simpa [sumB, List.append_assoc] using this
theorem Parts.places (h : Parts es out idx FIL F) (hm : AllM es) (hn : es.length ≤ 4000) : plcL (idx.length + 1) idx out.length = some (plcF es.length es 0) := by
  have h1 := h.outL
  conv => lhs; rw [show idx = idxF es.length es 0 from h.idxE]
  refine plcL_idx es.length es 0 _ _ hm (Nat.le_refl _) ?_ (by omega) (by omega)
  rw [← h.outE]
  omega
end
/-- What was built is opened. -/
theorem openF_tab {es : List EntR} (h : FitT es) : openF (tabB es) = some es := by
  obtain ⟨⟨hn1, hn2⟩, hm, hs, hl⟩ := h
  obtain ⟨out, idx, FIL, F, hp⟩ := parts_of hm
  obtain ⟨n0, n1, n2, n3⟩ := hp.nums hn2
  unfold openF
  rw [if_pos (hp.head hn2), n0, n1, hp.index, hp.places hm hn2]
  simp only
  have hr : readT (bodyOf (tabB es)) (plcF es.length es 0) = some es := by
    unfold readT
    have e : bodyOf (tabB es) = ([] ++ outF es.length es) ++ (sumB idx ++ sumB FIL) := by rw [hp.bodyOf, ← hp.outE]; simp only [List.nil_append, List.append_assoc]
    have hsnd := plcF_sound es.length es [] (sumB idx ++ sumB FIL)
    rw [List.length_nil] at hsnd
    rw [e, if_pos hsnd]
    exact rdsL_read es.length es [] [] _ hm hs (Nat.le_refl _) (by simpa using hn2)
  rw [hr]
  simp only
  rw [if_pos ⟨(fitTB_iff _).2 ⟨⟨hn1, hn2⟩, hm, hs, hl⟩, trivial⟩]
/-- The filter's bytes of a table. -/
theorem open_filt {b : List UInt8} {es : List EntR} (h : openF b = some es) : cutS (bodyOf b) (numOf b 2) (numOf b 3) = filtB es := by
  obtain ⟨_, _, ⟨⟨hn1, hn2⟩, hm, hs, hl⟩, hb⟩ := openF_some h
  obtain ⟨out, idx, FIL, F, hP⟩ := parts_of hm
  obtain ⟨n0, n1, n2, n3⟩ := hP.nums hn2
  rw [hb] at n2 n3
  have hbb := hP.bodyOf
  rw [hb] at hbb
  rw [n2, n3, hbb, ← hP.filE]
  have := cut_mid (out ++ sumB idx) FIL (fixB (sumOf FIL) 4)
  rw [List.length_append, sumB_len, ← Nat.add_assoc] at this
  unfold sumB at this ⊢
  rw [← List.append_assoc]
  exact this
/-! ## One byte as another one -/
theorem mask_inj {a b : Nat} (ha : a < 4294967296) (hb : b < 4294967296) (h : crcMask a = crcMask b) : a = b := by rw [← crcUnmask_mask ha, ← crcUnmask_mask hb, h]
theorem sum_tells {pre post : List UInt8} {x y : UInt8} (h : sumOf (pre ++ [x] ++ post) = sumOf (pre ++ [y] ++ post)) : x = y := by
  have h1 := mask_inj (crcMore_lt _ _) (crcMore_lt _ _) h
  have h2 := (crc_tells (s := 0) (by decide) pre [(x, y)] post (by simp)).1 h1
  simpa using h2
theorem readU_tells {a b : List UInt8} (ha : a.length = 4) (hb : b.length = 4) (h : readU a = readU b) : a = b := by
  match a, b, ha, hb with
  | [a0, a1, a2, a3], [b0, b1, b2, b3], _, _ =>
    simp only [readU, List.foldl_cons, List.foldl_nil] at h
    have ha0 := a0.toNat_lt
    have ha1 := a1.toNat_lt
    have ha2 := a2.toNat_lt
    have ha3 := a3.toNat_lt
    have hb0 := b0.toNat_lt
    have hb1 := b1.toNat_lt
    have hb2 := b2.toNat_lt
    have hb3 := b3.toNat_lt
    have e0 : a0 = b0 := UInt8.toNat_inj.1 (by omega)
    have e1 : a1 = b1 := UInt8.toNat_inj.1 (by omega)
    have e2 : a2 = b2 := UInt8.toNat_inj.1 (by omega)
    have e3 : a3 = b3 := UInt8.toNat_inj.1 (by omega)
    rw [e0, e1, e2, e3]
theorem cutS_set_out {b : List UInt8} {p a n : Nat} {y : UInt8} (h : p < a ∨ a + n ≤ p) : cutS (b.set p y) a n = cutS b a n := by
  unfold cutS
  apply List.ext_getElem?
  intro i
  simp only [List.getElem?_take, List.getElem?_drop, List.getElem?_set]
  by_cases hi : i < n
  · rw [if_pos hi, if_pos hi, if_neg (by omega)]
  · rw [if_neg hi, if_neg hi]
theorem cutS_set_in {b : List UInt8} {p a n : Nat} {y : UInt8} (h1 : a ≤ p) (h2 : p < a + n) (h3 : p < b.length) : ∃ pre post, cutS b a n = pre ++ [b[p]] ++ post ∧ cutS (b.set p y) a n = pre ++ [y] ++ post := by
  refine ⟨cutS b a (p - a), cutS b (p + 1) (a + n - (p + 1)), ?_, ?_⟩
  · unfold cutS
    apply List.ext_getElem?
    intro i
    simp only [List.getElem?_take, List.getElem?_drop, List.getElem?_append, List.length_append, List.length_take, List.length_drop, List.length_singleton]
    rw [show min (p - a) (b.length - a) = p - a by omega]
    rcases (by omega : i < p - a ∨ i = p - a ∨ p - a < i) with hi | hi | hi
    · rw [if_pos (by omega), if_pos (by omega), if_pos hi, if_pos hi]
    · subst hi
      rw [if_pos (by omega), if_pos (by omega), if_neg (by omega), show a + (p - a) = p by omega]
      simp [h3]
    · rw [if_neg (show ¬ i < p - a + 1 by omega)]
      by_cases hin : i < n
      · rw [if_pos hin, if_pos (by omega), show p + 1 + (i - (p - a + 1)) = a + i by omega]
      · rw [if_neg hin, if_neg (by omega)]
  · unfold cutS
    apply List.ext_getElem?
    intro i
    simp only [List.getElem?_take, List.getElem?_drop, List.getElem?_append, List.length_append, List.length_take, List.length_drop, List.length_singleton, List.getElem?_set]
    rw [show min (p - a) (b.length - a) = p - a by omega]
    rcases (by omega : i < p - a ∨ i = p - a ∨ p - a < i) with hi | hi | hi
    · rw [if_pos (by omega), if_neg (by omega), if_pos (by omega), if_pos hi, if_pos hi]
    · subst hi
      rw [if_pos (by omega), if_pos (by omega), if_pos (by omega), if_pos (by omega), if_neg (by omega)]
      simp
    · rw [if_neg (show ¬ i < p - a + 1 by omega)]
      by_cases hin : i < n
      · rw [if_pos hin, if_neg (by omega), if_pos (by omega), show p + 1 + (i - (p - a + 1)) = a + i by omega]
      · rw [if_neg hin, if_neg (by omega)]
/-- Two sounds that part in one byte: none. -/
theorem sound_two {b : List UInt8} {p a n : Nat} {y : UInt8} (h1 : soundB b a n = true) (h2 : soundB (b.set p y) a n = true) (hp1 : a ≤ p) (hp2 : p < a + n + 4) (hp3 : p < b.length) (hl : a + n + 4 ≤ b.length) : y = b[p] := by
  unfold soundB at h1 h2
  rw [decide_eq_true_iff] at h1 h2
  have hd : ∀ c : List UInt8, (c.drop (a + n)).take 4 = cutS c (a + n) 4 := fun c => rfl
  rw [hd] at h1 h2
  by_cases hin : p < a + n
  · rw [cutS_set_out (a := a + n) (n := 4) (.inl hin)] at h2
    obtain ⟨pre, post, e1, e2⟩ := cutS_set_in (y := y) hp1 hin hp3
    rw [e1] at h1
    rw [e2] at h2
    exact sum_tells (h2.trans h1.symm)
  · rw [cutS_set_out (a := a) (n := n) (.inr (by omega))] at h2
    obtain ⟨pre, post, e1, e2⟩ := cutS_set_in (y := y) (a := a + n) (n := 4) (by omega) (by omega) hp3
    have hlen : (cutS b (a + n) 4).length = 4 := by unfold cutS; rw [List.length_take, List.length_drop]; omega
    have hlen2 : (cutS (b.set p y) (a + n) 4).length = 4 := by unfold cutS; rw [List.length_take, List.length_drop, List.length_set]; omega
    have h3 := readU_tells hlen2 hlen (h2.symm.trans h1)
    rw [e1, e2] at h3
    simpa using h3
/-- The places of the blocks leave no gap. -/
theorem plcF_tile : ∀ (f : Nat) (es : List EntR) (a p : Nat), es.length ≤ f → a ≤ p → p < a + (outF f es).length → ∃ q ∈ plcF f es a, q.1 ≤ p ∧ p < q.1 + q.2 + 4 ∧ q.1 + q.2 + 4 ≤ a + (outF f es).length := by
  intro f
  induction f with
  | zero => intro es a p _ _ h; simp [outF] at h; omega
  | succ f ih =>
    intro es a p hl h1 h2
    by_cases he : es = []
    · rw [outF, if_pos he] at h2; simp at h2; omega
    · rw [outF, if_neg he, List.length_append, sumB_len] at h2 ⊢
      rw [plcF, if_neg he]
      by_cases hp : p < a + (encK (es.take (cutN es))).length + 4
      · exact ⟨_, List.mem_cons_self, h1, hp, by simp only; omega⟩
      · obtain ⟨q, hq, h3, h4, h5⟩ := ih (es.drop (cutN es)) (a + (encK (es.take (cutN es))).length + 4) p (drop_cut_len hl he) (by omega) (by omega)
        exact ⟨q, List.mem_cons_of_mem _ hq, h3, h4, by omega⟩
/-- A table with one byte as another one opens to an error. -/
theorem open_one {b : List UInt8} {s m : List EntR} {p : Nat} {y : UInt8} (h1 : openF b = some s) (h2 : openF (b.set p y) = some m) (hp : p < b.length) : y = b[p] := by
  obtain ⟨hh, _, ⟨⟨hn1, hn2⟩, hm, hs, hl⟩, hb⟩ := openF_some h1
  obtain ⟨gh, ⟨ps, gp, gr⟩, _, _⟩ := openF_some h2
  obtain ⟨out, idx, FIL, F, hP⟩ := parts_of hm
  have hnum := hP.nums hn2
  have hbl := hP.bodyL
  have hlen := hP.len
  rw [hb] at hnum hbl hlen
  obtain ⟨n0, n1, n2, n3⟩ := hnum
  have hbb := hP.bodyOf
  rw [hb] at hbb
  have hls : (b.set p y).length = b.length := List.length_set ..
  unfold headOK at hh gh
  simp only [Bool.and_eq_true, decide_eq_true_iff] at hh gh
  obtain ⟨⟨⟨⟨a1, a2⟩, a3⟩, a4⟩, a5, a6⟩ := hh
  obtain ⟨⟨⟨⟨b1, b2⟩, b3⟩, b4⟩, b5, b6⟩ := gh
  by_cases hf : b.length - 32 ≤ p
  · have hfo : footOf (b.set p y) = (footOf b).set (p - (b.length - 32)) y := by
      unfold footOf
      rw [hls, List.drop_set, if_neg (by omega)]
    have hfl : (footOf b).length = 32 := by unfold footOf; rw [List.length_drop]; omega
    have hpf : p - (b.length - 32) < (footOf b).length := by rw [hfl]; omega
    have hget : (footOf b)[p - (b.length - 32)]'hpf = b[p] := by
      apply Option.some.inj
      rw [← List.getElem?_eq_getElem, ← List.getElem?_eq_getElem]
      unfold footOf
      rw [List.getElem?_drop, show b.length - 32 + (p - (b.length - 32)) = p by omega]
    rw [hfo] at b2 b3
    by_cases hmg : b.length - 8 ≤ p
    · rw [← a2, List.drop_set, if_neg (by omega)] at b2
      have e : (((footOf b).drop 24).set (p - (b.length - 32) - 24) y)[p - (b.length - 32) - 24]? = ((footOf b).drop 24)[p - (b.length - 32) - 24]? := by rw [b2]
      have hlt : p - (b.length - 32) - 24 < ((footOf b).drop 24).length := by rw [List.length_drop]; omega
      rw [List.getElem?_set_self hlt, List.getElem?_drop, show 24 + (p - (b.length - 32) - 24) = p - (b.length - 32) by omega, List.getElem?_eq_getElem (by omega), hget] at e
      exact Option.some.inj e
    · have := sound_two a3 b3 (by omega) (by omega) (by omega) (by omega)
      rw [this, hget]
  · have hfo : footOf (b.set p y) = footOf b := by
      unfold footOf
      rw [hls, List.drop_set, if_pos (by omega)]
    have hnn : ∀ i, numOf (b.set p y) i = numOf b i := fun i => by unfold numOf; rw [hfo]
    have hbo : bodyOf (b.set p y) = (bodyOf b).set p y := by
      unfold bodyOf
      rw [hls, List.take_set]
    have hpl : p < (bodyOf b).length := by rw [hbl]; omega
    have hget : (bodyOf b)[p]'hpl = b[p] := by
      apply Option.some.inj
      rw [← List.getElem?_eq_getElem, ← List.getElem?_eq_getElem]
      unfold bodyOf
      rw [List.getElem?_take, if_pos (by omega)]
    rw [hnn, hnn, hbo] at b5 b6
    rw [n0, n1] at b5 a5
    rw [n2, n3] at b6 a6
    rw [hnn, hnn, hbo, n0, n1] at gp
    rw [hbo] at gr
    by_cases h3 : out.length + idx.length + 4 ≤ p
    · have := sound_two a6 b6 h3 (by rw [hbl] at hpl; omega) hpl (by rw [hbl]; omega)
      rw [this, hget]
    · by_cases h4 : out.length ≤ p
      · have := sound_two a5 b5 h4 (by omega) hpl (by rw [hbl]; omega)
        rw [this, hget]
      · rw [cutS_set_out (.inl (by omega))] at gp
        have hix := hP.index
        rw [hb] at hix
        rw [hix, hP.places hm hn2] at gp
        obtain rfl := Option.some.inj gp
        unfold readT at gr
        split at gr
        · rename_i hall
          have hoL : (outF s.length s).length = out.length := by rw [← hP.outE]
          obtain ⟨q, hq, q1, q2, q3⟩ := plcF_tile s.length s 0 p (Nat.le_refl _) (Nat.zero_le _) (by omega)
          have s2 := List.all_eq_true.1 hall q hq
          have hsnd := plcF_sound s.length s [] (sumB idx ++ sumB FIL)
          have e : ([] ++ outF s.length s) ++ (sumB idx ++ sumB FIL) = bodyOf b := by rw [hbb, ← hP.outE]; simp only [List.nil_append, List.append_assoc]
          rw [e] at hsnd
          have s1 := List.all_eq_true.1 hsnd q hq
          have := sound_two s1 s2 q1 q2 hpl (by rw [hbl]; omega)
          rw [this, hget]
        · cases gr
end Go.Proofs.Ytkkclkknpjapcaa
