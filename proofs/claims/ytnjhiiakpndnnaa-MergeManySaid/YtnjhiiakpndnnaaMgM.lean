/- Layer 16's laws: MergeMany. -/
import Derived.Test.YtnjhiiakpndnnaaMgL
namespace Go.Proofs.Ytnjhiiakpndnnaa
open Go.RowKit
set_option linter.unusedVariables false
set_option linter.unusedSimpArgs false

def ManyC0 (w w' : World) (r : Ending) : Prop := ∃ A c, r = .returned (.tuple #[.slice A 0 c, .int .i64 0]) ∧ Below w.heap.size w w'
def ManyC1 (w w' : World) (n P : Nat) (r : Ending) : Prop := ∃ g c, r = .returned (.tuple #[.slice (some ⟨g, 0, none⟩) P c, .int .i64 0]) ∧ w'.cell? ⟨g, 1, none⟩ = some (.int .i64 (n : Int)) ∧ Below w.heap.size w w'
theorem merge_many_ok0 (A : Option Addr) (n c e : Nat) (w : World) (h : REnss w A n (manyS e n)) (he : e < 700) (hn : n ≤ 64) (hf : n * e = 0) :
    Calls Try.prog 12 #[.slice A n c] w fun r w' => ManyC0 w w' r := by
  refine (merge_any A n c _ w h (fun r hr => ?_) hn (by rw [manyS_tot]; omega) (many_small e n)).mono ?_
  · rw [manyS_er hr]; exact manyR_srt he
  · rintro r w' ⟨v, out, rfl, hm, hl, ⟨V, hv, hr⟩, hb⟩
    rw [manyS_tot, hf] at hl
    obtain ⟨A, c, rfl, _⟩ := hv.openN 0 (by rw [hr.1, hl])
    exact ⟨A, c, rfl, hb⟩
theorem merge_many_ok1 (A : Option Addr) (n c e P : Nat) (w : World) (h : REnss w A n (manyS e n)) (he : e < 700) (hn : n ≤ 64) (hP : n * e = P) (h0 : 0 < P) (hf : P ≤ 40000) :
    Calls Try.prog 12 #[.slice A n c] w fun r w' => ManyC1 w w' n P r := by
  refine (merge_any A n c _ w h (fun r hr => ?_) hn (by rw [manyS_tot, hP]; exact hf) (many_small e n)).mono ?_
  · rw [manyS_er hr]; exact manyR_srt he
  · rintro r w' ⟨v, out, rfl, hm, hl, ⟨V, hv, hr⟩, hb⟩
    rw [manyS_tot, hP] at hl
    have hn0 : 0 < n := Nat.pos_of_ne_zero (fun e => by subst e; simp at hP; omega)
    have he0 : 0 < e := Nat.pos_of_ne_zero (fun e => by subst e; simp at hP; omega)
    have hVl : V.length = P := by rw [hr.1, hl]
    have hs := (many_first he0 hn0 hn hm).2
    obtain ⟨g, d, rfl, _, _, _⟩ := hv.form (by omega)
    have hc := hv.cell (j := 0) (i := 1) (by omega) (by omega)
    obtain ⟨kv, vv, hx, _⟩ := hr.2 0 (by omega)
    rw [hx, hs] at hc
    rw [hVl]
    exact ⟨g, d, rfl, by simpa using hc, hb⟩
theorem merge_many_bad (A : Option Addr) (n c e : Nat) (w : World) (h : REnss w A n (manyS e n)) (he : e < 700) (hbad : 64 < n ∨ 40000 < n * e) :
    Calls Try.prog 12 #[.slice A n c] w fun r w' => MErrC w w' 13 r :=
  merge_bad A n c _ w h 13 (fun ⟨r, hr, hs⟩ => absurd (by rw [manyS_er hr]; exact manyR_srt he) hs) (fun _ => ⟨rfl, by rw [manyS_tot]; exact hbad⟩)
set_option maxHeartbeats 32000000 in
set_option maxRecDepth 200000 in
theorem MergeMany_walk (zn ze : Int) (w : World) (hn0 : (Lit.int .i64 zn).wf = true) (he0 : (Lit.int .i64 ze).wf = true) :
    Calls Try.prog 4 #[.int .i64 zn, .int .i64 ze] w fun e w' => e = .returned (.bool true) ∧ Below w.heap.size w w' := by
  obtain ⟨n, hn1, hn2⟩ := many_mod zn 67 (by omega) (wf_i64 hn0)
  obtain ⟨e, he1, he2⟩ := many_mod ze 700 (by omega) (wf_i64 he0)
  have hn3 : (wrap64 (zn.tmod 67 + 67)).tmod 67 = (n : Int) := hn2
  have he3 : (wrap64 (ze.tmod 700 + 700)).tmod 700 = (e : Int) := he2
  have hw1 := wf_i64 hn0
  have hw2 := wf_i64 he0
  have HJ0 : Hid (RRow w w.heap.size (.slice none 0 0) (manyS e 0)) := hid (RRow.nil _ _)
  clear hn2 he2 hn0 he0
  go_enter Try.func4, Try.ntmps4
  go_wp2
  go_loopw [5, 20] (fun v i wr => ∃ k : Nat, k ≤ n ∧ i = .int .i64 k ∧ RRow wr w.heap.size v (manyS e k) ∧ Below w.heap.size w wr) (fun v i wr => n - (intOf i).toNat)
  case atStart => exact ⟨0, Nat.zero_le _, rfl, HJ0.out, Below.refl _ _⟩
  case round =>
    clear HJ0
    obtain ⟨k, hk, rfl, hR, hB⟩ := hrel
    by_cases hlt : k < n
    · have hwk : wrap64 ((k : Int) + 1) = (k : Int) + 1 := by unfold wrap64; omega
      obtain ⟨wo, rfl⟩ : ∃ wo, wo = wr := ⟨_, rfl⟩
      have HR := hid hR
      have HBo := hid hB
      have HI0 : Hid (ROw wo wo.heap.size (.slice none 0 0) (manyR k 0)) := hid (ROw.nil _ _)
      clear hR hB
      go_wp2
      go_loopw [7, 24] (fun v i wx => ∃ j : Nat, j ≤ e ∧ i = .int .i64 j ∧ ROw wx wo.heap.size v (manyR k j) ∧ Below wo.heap.size wo wx) (fun v i wx => e - (intOf i).toNat)
      case atStart => exact ⟨0, Nat.zero_le _, rfl, HI0.out, Below.refl _ _⟩
      case round =>
        clear HI0
        obtain ⟨j, hj, rfl, hI, hBi⟩ := hrel
        by_cases hjl : j < e
        · obtain ⟨V, hv, hr⟩ := hI
          have hl : V.length = j := by rw [hr.1, manyR_len]
          have HV := hid hv
          have HRl := hid hr
          have hBa := below_alloc' hBi (.cells #[.int .u8 0, .int .u8 0] 5)
          clear hv hr hBa
          go_wp2_with (at_builtin; go_loud (refine wpV_append1 27 35 _ 5 72 Try.underlying27 eninfo rfl (by omega) wo (wr.alloc (.cells #[.int .u8 _, .int .u8 _] 5)) wo.heap.size rfl (.tmp 27) (.tmp 37) rfl u7 V rfl (HV.out.below (below_alloc' (Below.refl _ _) _)) #[.slice (some ⟨wr.heap.size, 0, none⟩) 2 2, .int .i64 ((k : Int) + 1), .bool false, .int .i64 0, .slice none 0 0] rfl (ones5 rfl rfl rfl rfl rfl) 1 _ (by first | rfl | simp) rfl (by simp only [maxLen]; omega) (by omega) (below_alloc' hBi _) (below_alloc' hBi _).size ?_); intro v' w' hown' hB' hg' _)
          have HN := hid (many_step HV.out HRl.out hBi.size (by first | exact byteM1' j (by omega) | exact byteM1 j) (by first | exact byteM0 j | exact byteM0' j) hg' hown')
          go_roundw
          case rel => exact ⟨j + 1, by omega, by go_num, HN.out, hB'⟩
          case measure => simp [intOf]; omega
        · obtain rfl : j = e := by omega
          obtain ⟨V5, hv5, hr5⟩ := HR.out.below hBi
          have hl5 : V5.length = k := by rw [hr5.1, manyS_len]
          have hI2 := hI.mono HBo.out.size
          obtain ⟨Ai, ci, hve, _⟩ : ∃ Ai ci, _ = Value.slice Ai j ci ∧ j ≤ ci := by
            obtain ⟨V, hv, hr⟩ := hI
            exact hv.openN j (by rw [hr.1, manyR_len])
          subst hve
          have HI2 := hid hI2
          have HV5 := hid hv5
          have HR5 := hid hr5
          have hBw := below_then HBo.out hBi
          clear hI hI2 hv5 hr5
          go_wp2_with (at_builtin; go_loud (refine wpV_append1 22 27 _ 1 24 Try.underlying22 rowinfo rfl (by omega) w wr w.heap.size rfl (.tmp 40) (.tmp 42) rfl u5 V5 rfl HV5.out #[.slice Ai j ci] rfl (by intro u hu; simp only [List.mem_cons, List.not_mem_nil, or_false] at hu; subst hu; rfl) 1 _ (by first | rfl | simp) rfl (by simp only [maxLen]; omega) (by omega) hBw hBw.size ?_); intro v' w' hown' hB' hg' _)
          have HN : Hid (RRow w' w.heap.size v' (manyS j (k + 1))) := by unfold Hid; rw [manyS_succ]; exact RRow.step HV5.out HR5.out HI2.out hg' hown'
          go_roundw
          case rel => exact ⟨k + 1, by omega, by go_num, HN.out, hB'⟩
          case measure => simp [intOf]; omega
    · obtain rfl : k = n := by omega
      have hx := hR.reads (by rw [manyS_len]; omega) (fun es hes => by obtain ⟨i, _, rfl⟩ := List.mem_map.1 hes; rw [manyR_len]; omega)
      rw [manyS_len] at hx
      obtain ⟨A, c, rfl, hrs⟩ := hx
      obtain ⟨P, hP⟩ : ∃ P, k * e = P := ⟨_, rfl⟩
      have hPm : P ≤ 66 * 699 := by rw [← hP]; exact Nat.mul_le_mul (by omega) (by omega)
      have hwm : wrap64 ((k : Int) * (e : Int)) = (P : Int) := by
        rw [← hP, Int.natCast_mul]
        have : ((k : Int) * (e : Int)) = (P : Int) := by rw [← hP, Int.natCast_mul]
        rw [this]
        unfold wrap64
        omega
      by_cases h64 : 64 < k
      · have hd1 : decide ((64 : Int) < (k : Int)) = true := decide_eq_true (by omega)
        have HM := hid (merge_many_bad A k c e wr hrs he1 (.inl h64))
        clear hR hrs hP h64
        go_wp2_with (first
          | (go_at_call 12; (with_reducible refine HM.out.mono ?_); rintro r w1 ⟨rfl, hb1⟩; have hB1 := below_then hB hb1)
          | (go_at_call 10; (with_reducible refine (awake_any _).mono ?_); rintro r w2 ⟨rfl, hb2⟩))
        all_goals
          go_ret
          exact ⟨rfl, below_then hB1 hb2⟩
      · have hd1 : decide ((64 : Int) < (k : Int)) = false := decide_eq_false (by omega)
        by_cases h4 : 40000 < P
        · have hd2 : decide ((40000 : Int) < (P : Int)) = true := decide_eq_true (by omega)
          have HM := hid (merge_many_bad A k c e wr hrs he1 (.inr (by omega)))
          clear hR hrs hP h64 h4
          go_wp2_with (first
            | (go_at_call 12; (with_reducible refine HM.out.mono ?_); rintro r w1 ⟨rfl, hb1⟩; have hB1 := below_then hB hb1)
            | (go_at_call 10; (with_reducible refine (awake_any _).mono ?_); rintro r w2 ⟨rfl, hb2⟩))
          all_goals
            go_ret
            exact ⟨rfl, below_then hB1 hb2⟩
        · have hd2 : decide ((40000 : Int) < (P : Int)) = false := decide_eq_false (by omega)
          rcases Nat.eq_zero_or_pos P with h0 | h0
          · have HM := hid (merge_many_ok0 A k c e wr hrs he1 (by omega) (by omega))
            have hwm0 : wrap64 ((k : Int) * (e : Int)) = 0 := by rw [hwm, h0]; rfl
            clear hR hrs hP h64 h4 hwm hd2 h0
            go_wp2_with (first
              | (go_at_call 12; (with_reducible refine HM.out.mono ?_); rintro r w1 ⟨A1, c1, rfl, hb1⟩; have hB1 := below_then hB hb1)
              | (go_at_call 10; (with_reducible refine (awake_any _).mono ?_); rintro r w2 ⟨rfl, hb2⟩))
            all_goals
              go_ret
              exact ⟨rfl, below_then hB1 hb2⟩
          · have HM := hid (merge_many_ok1 A k c e P wr hrs he1 (by omega) hP h0 (by omega))
            have hP0 : P ≠ 0 := by omega
            have hd5 : decide (P = 0) = false := decide_eq_false hP0
            have hd6 : ((P : Int) == 0) = false := by rw [beq_eq_false_iff_ne]; omega
            clear hR hrs hP h64 h4
            go_wp2_with (first
              | (go_at_call 12; (with_reducible refine HM.out.mono ?_); rintro r w1 ⟨g1, c1, rfl, hc7, hb1⟩; have hB1 := below_then hB hb1)
              | (go_at_call 10; (with_reducible refine (awake_any _).mono ?_); rintro r w2 ⟨rfl, hb2⟩))
            all_goals
              go_ret
              exact ⟨rfl, below_then hB1 hb2⟩
end Go.Proofs.Ytnjhiiakpndnnaa
