/- Shared texts, part S22: BkR. -/
import Derived.Test.YtkkclkknpjapcaaDoorS15
import Derived.Test.YtkkclkknpjapcaaDoorS04
import Derived.Test.YtkkclkknpjapcaaDoorS13
/-! ### BkR -/
namespace Go.Proofs.YtkkclkknpjapcaaDoor
open Go.RowKit
set_option linter.unusedVariables false
set_option linter.unusedSimpArgs false

/-- The reader's box: what is left of the bytes (read in the world wb), the last key (one's own). -/
def RdB (wb w : World) (b : Nat) (A : Option Addr) (n c : Nat) (xs : List UInt8) (L : Option Addr) (m d : Nat) (last : List UInt8) : Prop :=
  w.heap[b]? = some (.cells #[.slice A n c, .slice L m d] 114 (0, 0)) ∧ RB wb A n xs ∧ n ≤ c ∧ n ≤ 140737488355328 ∧ OB w 0 (.slice L m d) last ∧ m ≤ 512 ∧ Below wb.heap.size wb w ∧ wb.heap.size ≤ b
section
variable {wb w w' : World} {b : Nat} {A : Option Addr} {n c : Nat} {xs : List UInt8} {L : Option Addr} {m d : Nat} {last : List UInt8}
theorem RdB.cut {A2 : Option Addr} {n2 c2 : Nat} {ys : List UInt8} (h : RdB wb w b A n c xs L m d last) (h2 : RB wb A2 n2 ys) (hc : n2 ≤ c2) (hn : n2 ≤ n) : RdB wb (w.setCell ⟨b, 0, none⟩ (.slice A2 n2 c2)) b A2 n2 c2 ys L m d last := by
  obtain ⟨q1, q2, q3, q4, q5, q6, q7, q8⟩ := h
  exact ⟨heap_setCell_same w b 0 _ _ _ q1, h2, hc, by omega, q5.other (grown_set w b 0 _) (.inr (q5.ne_blk q1 (by decide))), q6, q7.setCell (show wb.heap.size ≤ (⟨b, 0, none⟩ : Addr).block from q8) _, q8⟩
theorem RdB.key {L2 : Option Addr} {m2 d2 : Nat} {l2 : List UInt8} (h : RdB wb w b A n c xs L m d last) (h2 : OB w 0 (.slice L2 m2 d2) l2) (hn : m2 ≤ 512) : RdB wb (w.setCell ⟨b, 1, none⟩ (.slice L2 m2 d2)) b A n c xs L2 m2 d2 l2 := by
  obtain ⟨q1, q2, q3, q4, q5, q6, q7, q8⟩ := h
  exact ⟨heap_setCell_same w b 1 _ _ _ q1, q2, q3, q4, h2.other (grown_set w b 1 _) (.inr (h2.ne_blk q1 (by decide))), hn, q7.setCell (show wb.heap.size ≤ (⟨b, 1, none⟩ : Addr).block from q8) _, q8⟩
theorem RdB.below (h : RdB wb w b A n c xs L m d last) (hb : Below w.heap.size w w') : RdB wb w' b A n c xs L m d last := by
  obtain ⟨q1, q2, q3, q4, q5, q6, q7, q8⟩ := h
  exact ⟨blk_below hb q1, q2, q3, q4, q5.below hb, q6, below_then q7 hb, q8⟩
/-- Another block is written: of another kind than bytes, and behind wb. -/
theorem RdB.other {e : Nat} {cs : Array Value} {T : TypeId} {fr : Nat × Nat} (h : RdB wb w b A n c xs L m d last) (hg : w.grownBy w' (some e)) (he : w.heap[e]? = some (.cells cs T fr)) (hT : T ≠ 5) (hR : T ≠ 114) (hw : wb.heap.size ≤ e) : RdB wb w' b A n c xs L m d last := by
  obtain ⟨q1, q2, q3, q4, q5, q6, q7, q8⟩ := h
  exact ⟨blk_grown' hg q1 (by intro h; have := Option.some.inj h; subst this; rw [q1] at he; injection he with he; injection he with _ he _; exact hR he.symm), q2, q3, q4, q5.other hg (.inr (q5.ne_blk he hT)), q6, q7.grown hg q7.size (fun k hk => by cases hk; exact hw), q8⟩
theorem RdB.at_ (h : RdB wb w b A n c xs L m d last) : w.cell? ⟨b, 0, none⟩ = some (.slice A n c) ∧ w.cell? ⟨b, 1, none⟩ = some (.slice L m d) ∧ ∀ i, w.frozen? ⟨b, i, none⟩ = false :=
  ⟨box_at h.1 0 _ rfl, box_at h.1 1 _ rfl, fun i => frozen_of_row w b i _ _ h.1⟩
theorem RdB.lt (h : RdB wb w b A n c xs L m d last) : b < w.heap.size := by
  rcases Nat.lt_or_ge b w.heap.size with h1 | h1
  · exact h1
  · have := h.1; rw [Array.getElem?_eq_none h1] at this; cases this
theorem RdB.rb (h : RdB wb w b A n c xs L m d last) : RB w A n xs := h.2.1.below h.2.2.2.2.2.2.1
theorem RdB.lb (h : RdB wb w b A n c xs L m d last) : RB w L m last ∧ m ≤ d := h.2.2.2.2.1.rb
end
theorem wrap_u64_nat0 (a : Nat) (h : a < 18446744073709551616) : IntKind.u64.wrap (a : Int) = a := by rw [IntKind.wrap_u64]; omega
/-- What number leaves. -/
def NumC (wb w w' : World) (b : Nat) (A : Option Addr) (n c : Nat) (xs : List UInt8) (L : Option Addr) (m d : Nat) (last : List UInt8) (r : Ending) : Prop :=
  ∃ A2 c2, r = .returned (.tuple #[.int .u64 ((takeU xs).1 : Nat), .int .i64 ((takeU xs).2.2 : Nat)]) ∧ RdB wb w' b A2 (xs.drop (takeU xs).2.1).length c2 (xs.drop (takeU xs).2.1) L m d last ∧ w.grownBy w' (some b) ∧ (∀ B, B ≤ b → Below B w w')
set_option maxHeartbeats 8000000 in
theorem number_any (b : Nat) (A : Option Addr) (n c : Nat) (xs : List UInt8) (L : Option Addr) (m d : Nat) (last : List UInt8) (wb w : World) (h : RdB wb w b A n c xs L m d last) :
    Calls Tryd.prog 68 #[.pointer (some ⟨b, 0, none⟩)] w fun r w' => NumC wb w w' b A n c xs L m d last r := by
  obtain ⟨q0, q1, qf⟩ := h.at_
  have hk := (takeU_lt xs).2.1
  rw [h.2.1.1] at hk
  have HC := take_any A n c xs w h.rb
  obtain ⟨A2, c2, hcut, hrb, hc2⟩ := cutB_lo (A := A) h.2.2.1 hk ((takeU xs).2.1 : Int) rfl
  have HR := hid (h.cut (hrb _ _ h.2.1) hc2 (by omega))
  have HLn : Hid ((xs.drop (takeU xs).2.1).length = n - (takeU xs).2.1) := hid (by rw [List.length_drop, h.2.1.1])
  unfold NumC
  rw [HLn.out]
  generalize (takeU xs).1 = u at *
  generalize (takeU xs).2.1 = k at *
  generalize (takeU xs).2.2 = e at *
  have HC' := hid HC
  clear HC h hrb HLn
  go_enter Tryd.func68, Tryd.ntmps68
  go_wp2_with (go_at_call 55; refine (HC'.out).mono ?_; rintro r w' ⟨rfl, rfl⟩)
  go_ret2
  exact ⟨A2, c2, rfl, HR.out, grown_set w b 0 _, fun B hB => (Below.refl B w).setCell (show B ≤ (⟨b, 0, none⟩ : Addr).block from hB) _⟩
theorem cutB_hi_u {A : Option Addr} {n c : Nat} (hc : n ≤ c) {hi : Nat} (h1 : hi ≤ n) (H : Int) (hH : H = (hi : Int)) :
    ∃ c2, (∀ w, (Instr.slice 23 (.slice A n c) none (some (.int .u64 H)) none).run Tryd.prog w = .ok (.slice A hi c2) w) ∧ (∀ w xs, RB w A n xs → RB w A hi (xs.take hi)) ∧ hi ≤ c2 := by
  subst hH
  refine ⟨c, fun w => ?_, fun w xs h => h.pre h1, by omega⟩
  rw [run_slice_h (P := Tryd.prog) w 23 A n c elemB .u64 hi (by omega) (by omega), sizeB]
  cases A <;> simp [sliced, Result.andThen, Addr.add]
theorem cutB_lo_u {A : Option Addr} {n c : Nat} (hc : n ≤ c) {lo : Nat} (h1 : lo ≤ n) (L : Int) (hL : L = (lo : Int)) :
    ∃ A2 c2, (∀ w, (Instr.slice 23 (.slice A n c) (some (.int .u64 L)) none none).run Tryd.prog w = .ok (.slice A2 (n - lo) c2) w) ∧ (∀ w xs, RB w A n xs → RB w A2 (n - lo) (xs.drop lo)) ∧ n - lo ≤ c2 := by
  subst hL
  refine ⟨if c = lo then A else A.map (·.add lo), c - lo, fun w => ?_, fun w xs h => h.suf h1 hc, by omega⟩
  rw [run_slice_l (P := Tryd.prog) w 23 A n c elemB .u64 lo (by omega) (by omega), sizeB]
  simp [sliced, Result.andThen]
/-- What key leaves. -/
def KeyC (wb w w' : World) (b : Nat) (xs last : List UInt8) (r : Ending) : Prop :=
  match keyK xs last with
  | none => (∃ e : Int, e ≠ 0 ∧ r = .returned (.tuple #[.slice none 0 0, .int .i64 e])) ∧ w.grownBy w' (some b) ∧ (∀ B, B ≤ b → Below B w w')
  | some (key, ys) => ∃ v A n c L m d, r = .returned (.tuple #[v, .int .i64 0]) ∧ OB w' w.heap.size v key ∧ RdB wb w' b A n c ys L m d key ∧ w.grownBy w' (some b) ∧ (∀ B, B ≤ b → Below B w w')
theorem KeyC.no {wb w w' : World} {b : Nat} {xs last : List UInt8} (hk : keyK xs last = none) (e : Int) (he : e ≠ 0) (hg : w.grownBy w' (some b)) (hB : ∀ B, B ≤ b → Below B w w') : KeyC wb w w' b xs last (.returned (.tuple #[.slice none 0 0, .int .i64 e])) := by
  unfold KeyC
  rw [hk]
  exact ⟨⟨e, he, rfl⟩, hg, hB⟩
set_option maxHeartbeats 32000000 in
set_option maxRecDepth 100000 in
theorem key_any (b : Nat) (A : Option Addr) (n c : Nat) (xs : List UInt8) (L : Option Addr) (m d : Nat) (last : List UInt8) (wb w : World) (h : RdB wb w b A n c xs L m d last) :
    Calls Tryd.prog 67 #[.pointer (some ⟨b, 0, none⟩)] w fun r w' => KeyC wb w w' b xs last r := by
  have hlm := h.lb.1.1
  have hm512 := h.2.2.2.2.2.1
  have hbw := h.lt
  have hmd := h.lb.2
  obtain ⟨hu1, hk1, _, he1⟩ := takeU_lt xs
  have HN1 := hid (number_any b A n c xs L m d last wb w h)
  obtain ⟨K, hK⟩ : ∃ K, K = keyK xs last := ⟨_, rfl⟩
  have HKd := hid hK
  unfold keyK at hK
  unfold NumC at HN1
  generalize xs.drop (takeU xs).2.1 = r1 at *
  obtain ⟨u1, hU1⟩ : ∃ u1, (takeU xs).1 = u1 := ⟨_, rfl⟩
  obtain ⟨e1, hE1⟩ : ∃ e1, (takeU xs).2.2 = e1 := ⟨_, rfl⟩
  rw [hU1, hE1] at hK HN1
  rw [hU1] at hu1
  rw [hE1] at he1
  clear hU1 hE1 hk1
  obtain ⟨hu2, hk2, _, he2⟩ := takeU_lt r1
  have HN2 : Hid (∀ (wx : World) (A2 : Option Addr) (n2 c2 : Nat), RdB wb wx b A2 n2 c2 r1 L m d last → Calls Tryd.prog 68 #[.pointer (some ⟨b, 0, none⟩)] wx fun r w' => NumC wb wx w' b A2 n2 c2 r1 L m d last r) := hid (fun wx A2 n2 c2 h2 => number_any b A2 n2 c2 r1 L m d last wb wx h2)
  unfold NumC at HN2
  generalize r1.drop (takeU r1).2.1 = r2 at *
  obtain ⟨u2, hU2⟩ : ∃ u2, (takeU r1).1 = u2 := ⟨_, rfl⟩
  obtain ⟨e2, hE2⟩ : ∃ e2, (takeU r1).2.2 = e2 := ⟨_, rfl⟩
  rw [hU2, hE2] at hK
  simp only [hU2, hE2] at HN2
  rw [hU2] at hu2
  rw [hE2] at he2
  clear hU2 hE2 hk2
  rw [hlm] at hK
  obtain ⟨N1, hN1⟩ : ∃ N1, r1.length = N1 := ⟨_, rfl⟩
  obtain ⟨N2, hN2⟩ : ∃ N2, r2.length = N2 := ⟨_, rfl⟩
  rw [hN1] at HN1
  rw [hN2] at hK
  simp only [hN2] at HN2
  have HL2 := hid hN2
  clear hN1 hN2
  have hql := wrap_u64_nat0 m (by omega)
  by_cases h1 : e1 = 0
  · subst h1
    rw [if_neg (by omega)] at hK
    by_cases h2 : m < u1
    · rw [if_pos h2] at hK
      have HK := hid hK
      have hd2 : decide ((m : Int) < (u1 : Int)) = true := decide_eq_true (by omega)
      clear hK h
      go_enter Tryd.func67, Tryd.ntmps67
      go_wp2_with (go_at_call 68; refine (HN1.out).mono ?_; rintro r w1 ⟨A2, c2, rfl, hr1, hg1, hB1⟩; obtain ⟨q0, q1, qf⟩ := hr1.at_; have HR1 := hid hr1; clear hr1)
      go_ret2
      exact KeyC.no (by rw [← HKd.out]; exact HK.out) 3 (by omega) hg1 hB1
    · rw [if_neg h2] at hK
      have hd2 : decide ((m : Int) < (u1 : Int)) = false := decide_eq_false (by omega)
      by_cases h3 : e2 = 0
      · subst h3
        rw [if_neg (by omega)] at hK
        have hsub : (512 : Int) - (u1 : Int) = ((512 - u1 : Nat) : Int) := by omega
        have hqs := wrap_u64_nat0 (512 - u1) (by omega)
        by_cases h4 : 512 - u1 < u2
        · rw [if_pos h4] at hK
          have HK := hid hK
          have hd4 : decide (((512 - u1 : Nat) : Int) < (u2 : Int)) = true := decide_eq_true (by omega)
          clear hK h
          generalize 512 - u1 = s1 at *
          go_enter Tryd.func67, Tryd.ntmps67
          go_wp2_with (first
            | (go_at_call 68; refine (HN1.out).mono ?_; rintro r w1 ⟨A2, c2, rfl, hr1, hg1, hB1⟩; obtain ⟨q0, q1, qf⟩ := hr1.at_; have HR1 := hid hr1; clear hr1)
            | (go_at_call 68; refine (HN2.out _ A2 _ c2 HR1.out).mono ?_; rintro r w2 ⟨A3, c3, rfl, hr2, hg2, hB2⟩; clear hr2))
          go_ret2
          exact KeyC.no (by rw [← HKd.out]; exact HK.out) 2 (by omega) (grown_trans hg1 hg2) (fun B hb => (hB1 B hb).trans (hB2 B hb))
        · rw [if_neg h4] at hK
          have hd4 : decide (((512 - u1 : Nat) : Int) < (u2 : Int)) = false := decide_eq_false (by omega)
          by_cases h5 : N2 < u2
          · rw [if_pos h5] at hK
            have HK := hid hK
            have hd5 : decide ((N2 : Int) < (u2 : Int)) = true := decide_eq_true (by omega)
            clear hK h
            generalize 512 - u1 = s1 at *
            go_enter Tryd.func67, Tryd.ntmps67
            go_wp2_with (first
              | (go_at_call 68; refine (HN1.out).mono ?_; rintro r w1 ⟨A2, c2, rfl, hr1, hg1, hB1⟩; obtain ⟨q0, q1, qf⟩ := hr1.at_; have HR1 := hid hr1; clear hr1)
              | (go_at_call 68; refine (HN2.out _ A2 _ c2 HR1.out).mono ?_; rintro r w2 ⟨A3, c3, rfl, hr2, hg2, hB2⟩; obtain ⟨p0, p1, pf⟩ := hr2.at_; have hn2 := hr2.2.2.2.1; have hql2 := wrap_u64_nat0 N2 (by omega); clear hr2))
            go_ret2
            exact KeyC.no (by rw [← HKd.out]; exact HK.out) 5 (by omega) (grown_trans hg1 hg2) (fun B hb => (hB1 B hb).trans (hB2 B hb))
          · rw [if_neg h5] at hK
            have HK := hid hK
            have hd5 : decide ((N2 : Int) < (u2 : Int)) = false := decide_eq_false (by omega)
            have hu12 : u1 + u2 ≤ 512 := by omega
            clear hK h
            generalize 512 - u1 = s1 at *
            go_enter Tryd.func67, Tryd.ntmps67
            go_wp2_with (first
              | (go_at_call 68; refine (HN1.out).mono ?_; rintro r w1 ⟨A2, c2, rfl, hr1, hg1, hB1⟩; obtain ⟨q0, q1, qf⟩ := hr1.at_; have HR1 := hid hr1; clear hr1)
              | (go_at_call 68; refine (HN2.out _ A2 _ c2 HR1.out).mono ?_; rintro r w2 ⟨A3, c3, rfl, hr2, hg2, hB2⟩; obtain ⟨p0, p1, pf⟩ := hr2.at_; have hn2 := hr2.2.2.2.1; have hql2 := wrap_u64_nat0 N2 (by omega); have HR2 := hid hr2; clear hr2))
            obtain ⟨c4, hcut4, hrb4, hc4⟩ := cutB_hi_u (A := L) hmd (hi := u1) (by omega) (u1 : Int) rfl
            obtain ⟨c5, hcut5, hrb5, hc5⟩ := cutB_hi_u (A := A3) HR2.out.2.2.1 (hi := u2) (by omega) (u2 : Int) rfl
            obtain ⟨A6, c6, hcut6, hrb6, hc6⟩ := cutB_lo_u (A := A3) HR2.out.2.2.1 (lo := u2) (by omega) (u2 : Int) rfl
            have HB4 := hid hrb4
            have HB5 := hid hrb5
            have HB6 := hid hrb6
            have ht1 : (last.take u1).length = u1 := by rw [List.length_take]; omega
            have ht2 : (r2.take u2).length = u2 := by rw [List.length_take, HL2.out]; omega
            have HT := hid (⟨ht1, ht2⟩ : _ ∧ _)
            clear hrb4 hrb5 hrb6 ht1 ht2 q0 q1 qf
            apply wp_region_txt [none, none, none, none, none, none, none, some 14, none, none, none, none, none, none, none, none, none, none, none, none, none, none, none, none, none, none, none, none, none, none, none, none, none, none, none, none, none, none, none, none, none, none, none, none, none, none, none, some 0, some 1, some 2, some 3, some 4, some 5, some 6, some 7, some 8, some 9, some 10, some 11, some 12, some 13, none, none, none, none, none, none, none, none, none, none, none, none, none, none, none] [6, 13, 14] [(6, 13), (13, 14)] [_, _, _, _, _, _, undef, _, _, _, _, _, _, undef, undef] [[], [], [], [], [], [], _, [], [], [], [], [], [], _, _]
            case hm => rfl
            case hs => rfl
            case hst => kernel_rfl
            case hput => exact OpsOK.cons (fun _ _ => rfl) (OpsOK.cons (fun _ _ => rfl) (OpsOK.cons (fun _ _ => rfl) (OpsOK.cons (fun _ _ => rfl) (OpsOK.cons (fun _ _ => rfl) (OpsOK.cons (fun _ _ => rfl) (OpsOK.cons (fun _ _ => rfl) (OpsOK.cons (fun _ _ => rfl) (OpsOK.cons (fun _ _ => rfl) (OpsOK.cons (fun _ _ => rfl) (OpsOK.cons (fun _ _ => rfl) (OpsOK.cons (fun _ _ => rfl) (OpsOK.cons (fun _ _ => rfl) (OpsOK.cons (fun _ _ => rfl) (OpsOK.cons (fun _ _ => rfl) (OpsOK.nil)))))))))))))))
            case hops =>
              refine OpsOK.cons ?_ ?_
              · intro u W K hB hd hK
                replace hK := hk_val hK (by decide) (by rfl)
                clear hd
                simp only [lay, Act.put, List.setIfInBounds_toArray, List.set_cons_zero, List.set_cons_succ] at hK ⊢
                go_simp
                exact hK.out _ _ rfl (Below.refl _ _)
              refine OpsOK.cons ?_ ?_
              · intro u W K hB hd hK
                have h0 := fact_val (dep_of hd 0 (by kernel_rfl) (by kernel_rfl)) (by decide)
                dsimp only [nth] at h0
                replace hK := hk_val hK (by decide) (by rfl)
                clear hd
                simp only [lay, Act.put, List.setIfInBounds_toArray, List.set_cons_zero, List.set_cons_succ, h0] at hK ⊢
                go_simp
                exact hK.out _ _ rfl (Below.refl _ _)
              refine OpsOK.cons ?_ ?_
              · intro u W K hB hd hK
                have h1 := fact_val (dep_of hd 1 (by kernel_rfl) (by kernel_rfl)) (by decide)
                dsimp only [nth] at h1
                replace hK := hk_val hK (by decide) (by rfl)
                clear hd
                simp only [lay, Act.put, List.setIfInBounds_toArray, List.set_cons_zero, List.set_cons_succ, h1] at hK ⊢
                go_simp
                exact hK.out _ _ rfl (Below.refl _ _)
              refine OpsOK.cons ?_ ?_
              · intro u W K hB hd hK
                have h2 := fact_val (dep_of hd 2 (by kernel_rfl) (by kernel_rfl)) (by decide)
                dsimp only [nth] at h2
                replace hK := hk_val hK (by decide) (by rfl)
                clear hd
                simp only [lay, Act.put, List.setIfInBounds_toArray, List.set_cons_zero, List.set_cons_succ, h2] at hK ⊢
                have y0 := below_cell hB p1
                go_simp
                exact hK.out _ _ rfl (Below.refl _ _)
              refine OpsOK.cons ?_ ?_
              · intro u W K hB hd hK
                replace hK := hk_val hK (by decide) (by rfl)
                clear hd
                simp only [lay, Act.put, List.setIfInBounds_toArray, List.set_cons_zero, List.set_cons_succ] at hK ⊢
                go_simp
                exact hK.out _ _ rfl (Below.refl _ _)
              refine OpsOK.cons ?_ ?_
              · intro u W K hB hd hK
                have h3 := fact_val (dep_of hd 3 (by kernel_rfl) (by kernel_rfl)) (by decide)
                dsimp only [nth] at h3
                have h4 := fact_val (dep_of hd 4 (by kernel_rfl) (by kernel_rfl)) (by decide)
                dsimp only [nth] at h4
                replace hK := hk_val hK (by decide) (by rfl)
                clear hd
                simp only [lay, Act.put, List.setIfInBounds_toArray, List.set_cons_zero, List.set_cons_succ, h3, h4] at hK ⊢
                go_simp
                exact hK.out _ _ rfl (Below.refl _ _)
              refine OpsOK.cons ?_ ?_
              · intro u W K hB hd hK
                have h5 := fact_val (dep_of hd 5 (by kernel_rfl) (by kernel_rfl)) (by decide)
                dsimp only [nth] at h5
                replace hK := hk_row hB hK (by decide) (by rfl)
                clear hd
                (refine stepB_append W W W.heap.size (.const (.slice none 0 0)) (.tmp 52) (by rfl) (by rfl) (.slice none 0 0) [] (by rfl) (OB.nil _ _) L u1 c4 (last.take u1) (by simp only [lay, Act.put, List.setIfInBounds_toArray, List.set_cons_zero, List.set_cons_succ, h5]; rfl) (HB4.out _ _ (HR2.out.below hB).lb.1) (by simp only [List.length_nil, HT.out.1]; omega) (Below.refl _ _) (Nat.le_refl _) ?_; intro v' w' a e f g; rw [List.nil_append] at a; exact hK.out _ _ a e)
              refine OpsOK.cons ?_ ?_
              · intro u W K hB hd hK
                replace hK := hk_val hK (by decide) (by rfl)
                clear hd
                simp only [lay, Act.put, List.setIfInBounds_toArray, List.set_cons_zero, List.set_cons_succ] at hK ⊢
                go_simp
                exact hK.out _ _ rfl (Below.refl _ _)
              refine OpsOK.cons ?_ ?_
              · intro u W K hB hd hK
                have h7 := fact_val (dep_of hd 7 (by kernel_rfl) (by kernel_rfl)) (by decide)
                dsimp only [nth] at h7
                replace hK := hk_val hK (by decide) (by rfl)
                clear hd
                simp only [lay, Act.put, List.setIfInBounds_toArray, List.set_cons_zero, List.set_cons_succ, h7] at hK ⊢
                go_simp
                exact hK.out _ _ rfl (Below.refl _ _)
              refine OpsOK.cons ?_ ?_
              · intro u W K hB hd hK
                have h8 := fact_val (dep_of hd 8 (by kernel_rfl) (by kernel_rfl)) (by decide)
                dsimp only [nth] at h8
                replace hK := hk_val hK (by decide) (by rfl)
                clear hd
                simp only [lay, Act.put, List.setIfInBounds_toArray, List.set_cons_zero, List.set_cons_succ, h8] at hK ⊢
                go_simp
                exact hK.out _ _ rfl (Below.refl _ _)
              refine OpsOK.cons ?_ ?_
              · intro u W K hB hd hK
                have h9 := fact_val (dep_of hd 9 (by kernel_rfl) (by kernel_rfl)) (by decide)
                dsimp only [nth] at h9
                replace hK := hk_val hK (by decide) (by rfl)
                clear hd
                simp only [lay, Act.put, List.setIfInBounds_toArray, List.set_cons_zero, List.set_cons_succ, h9] at hK ⊢
                have y0 := below_cell hB p0
                go_simp
                exact hK.out _ _ rfl (Below.refl _ _)
              refine OpsOK.cons ?_ ?_
              · intro u W K hB hd hK
                replace hK := hk_val hK (by decide) (by rfl)
                clear hd
                simp only [lay, Act.put, List.setIfInBounds_toArray, List.set_cons_zero, List.set_cons_succ] at hK ⊢
                go_simp
                exact hK.out _ _ rfl (Below.refl _ _)
              refine OpsOK.cons ?_ ?_
              · intro u W K hB hd hK
                have h10 := fact_val (dep_of hd 10 (by kernel_rfl) (by kernel_rfl)) (by decide)
                dsimp only [nth] at h10
                have h11 := fact_val (dep_of hd 11 (by kernel_rfl) (by kernel_rfl)) (by decide)
                dsimp only [nth] at h11
                replace hK := hk_val hK (by decide) (by rfl)
                clear hd
                simp only [lay, Act.put, List.setIfInBounds_toArray, List.set_cons_zero, List.set_cons_succ, h10, h11] at hK ⊢
                go_simp
                exact hK.out _ _ rfl (Below.refl _ _)
              refine OpsOK.cons ?_ ?_
              · intro u W K hB hd hK
                have h6 := fact_row (dep_of hd 6 (by kernel_rfl) (by kernel_rfl)) (by decide)
                dsimp only [nth] at h6
                have h12 := fact_val (dep_of hd 12 (by kernel_rfl) (by kernel_rfl)) (by decide)
                dsimp only [nth] at h12
                replace hK := hk_par hK (by decide) 6 (by rfl)
                clear hd
                (refine stepB_append w2 _ _ (.tmp 53) (.tmp 59) (by rfl) (by rfl) _ (last.take u1) (by rfl) h6 A3 u2 c5 (r2.take u2) (by simp only [lay, Act.put, List.setIfInBounds_toArray, List.set_cons_zero, List.set_cons_succ, h12]; rfl) (HB5.out _ _ (HR2.out.below hB).rb) (by simp only [HT.out.1, HT.out.2]; omega) hB hB.size ?_; intro v' w' a e f g; exact hK.out _ _ (show OB _ _ _ (last.take u1 ++ r2.take u2) from a) f g)
              refine OpsOK.cons ?_ ?_
              · intro u W K hB hd hK
                have h13 := fact_row (dep_of hd 13 (by kernel_rfl) (by kernel_rfl)) (by decide)
                dsimp only [nth] at h13
                replace hK := hk_par hK (by decide) 13 (by rfl)
                clear hd
                simp only [lay, Act.put, List.setIfInBounds_toArray, List.set_cons_zero, List.set_cons_succ] at hK ⊢
                go_simp
                exact hK.out _ _ h13 (grown_refl _ _) (AtRow.refl _ _)
              exact OpsOK.nil
            intro u W hB hf
            have h0 := fact_val (hf 0 (by decide) (by decide)) (by decide)
            dsimp only [nth] at h0
            have h1 := fact_val (hf 1 (by decide) (by decide)) (by decide)
            dsimp only [nth] at h1
            have h2 := fact_val (hf 2 (by decide) (by decide)) (by decide)
            dsimp only [nth] at h2
            have h3 := fact_val (hf 3 (by decide) (by decide)) (by decide)
            dsimp only [nth] at h3
            have h4 := fact_val (hf 4 (by decide) (by decide)) (by decide)
            dsimp only [nth] at h4
            have h5 := fact_val (hf 5 (by decide) (by decide)) (by decide)
            dsimp only [nth] at h5
            have h7 := fact_val (hf 7 (by decide) (by decide)) (by decide)
            dsimp only [nth] at h7
            have h8 := fact_val (hf 8 (by decide) (by decide)) (by decide)
            dsimp only [nth] at h8
            have h9 := fact_val (hf 9 (by decide) (by decide)) (by decide)
            dsimp only [nth] at h9
            have h10 := fact_val (hf 10 (by decide) (by decide)) (by decide)
            dsimp only [nth] at h10
            have h11 := fact_val (hf 11 (by decide) (by decide)) (by decide)
            dsimp only [nth] at h11
            have h12 := fact_val (hf 12 (by decide) (by decide)) (by decide)
            dsimp only [nth] at h12
            have h14 := fact_row (hf 14 (by decide) (by decide)) (by decide)
            dsimp only [nth] at h14
            clear hf
            simp only [lay, h0, h1, h2, h3, h4, h5, h7, h8, h9, h10, h11, h12]
            clear h0 h1 h2 h3 h4 h5 h7 h8 h9 h10 h11 h12
            have hkl : (last.take u1 ++ r2.take u2).length = u1 + u2 := by rw [List.length_append, HT.out.1, HT.out.2]
            obtain ⟨Lk, dk, e14, hrk, hck⟩ := OB.openN h14 (u1 + u2) hkl
            generalize u 14 = v14 at *
            subst e14
            have hR3 := HR2.out.below hB
            obtain ⟨s0, s1', sf⟩ := hR3.at_
            have hR4 := hR3.cut (HB6.out _ _ hR3.2.1) hc6 (by omega)
            obtain ⟨t0, t1, tf⟩ := hR4.at_
            have hk4 := (OB.other h14 (grown_set W b 0 (.slice A6 (N2 - u2) c6)) (.inr (OB.ne_blk h14 hR3.1 (by decide)))).mono (Nat.zero_le _)
            have hR5 := hR4.key hk4 hu12
            have HR5 := hid hR5
            have HRk5 := hid hR5.lb.1
            have HG : Hid (w.grownBy ((W.setCell ⟨b, 0, none⟩ (.slice A6 (N2 - u2) c6)).setCell ⟨b, 1, none⟩ (.slice Lk (u1 + u2) dk)) (some b)) := hid (grown_trans (grown_trans (grown_trans (grown_trans hg1 hg2) (below_grown hB _)) (grown_set _ _ _ _)) (grown_set _ _ _ _))
            have HBB : Hid (∀ B, B ≤ b → Below B w ((W.setCell ⟨b, 0, none⟩ (.slice A6 (N2 - u2) c6)).setCell ⟨b, 1, none⟩ (.slice Lk (u1 + u2) dk))) := hid (fun B hb => by
              have hb2 : b < w2.heap.size := by
                rcases Nat.lt_or_ge b w2.heap.size with h1 | h1
                · exact h1
                · have := HR2.out.1; rw [Array.getElem?_eq_none h1] at this; cases this
              exact ((((hB1 B hb).trans (hB2 B hb)).trans (hB.mono (by omega))).setCell (show B ≤ (⟨b, 0, none⟩ : Addr).block from hb) _).setCell (show B ≤ (⟨b, 1, none⟩ : Addr).block from hb) _)
            clear hR3 hR4 hR5 hrk hk4 h14 hg1 hg2 hB1 hB2 p0 p1 pf
            go_wp2_with (at_builtin; go_loud (refine wpB_append ((W.setCell ⟨b, 0, none⟩ (.slice A6 (N2 - u2) c6)).setCell ⟨b, 1, none⟩ (.slice Lk (u1 + u2) dk)) _ ((W.setCell ⟨b, 0, none⟩ (.slice A6 (N2 - u2) c6)).setCell ⟨b, 1, none⟩ (.slice Lk (u1 + u2) dk)).heap.size rfl (.const (.slice none 0 0)) (.tmp 74) rfl (.slice none 0 0) [] rfl (OB.nil _ _) Lk (u1 + u2) dk (last.take u1 ++ r2.take u2) rfl HRk5.out (by simp only [List.length_nil, hkl]; omega) (Below.refl _ _) (Nat.le_refl _) ?_); intro v9 w9 hown9 hB9 hg9 _; rw [List.nil_append] at hown9)
            go_ret2
            unfold KeyC
            rw [← HKd.out, HK.out]
            exact ⟨v9, _, _, _, _, _, _, rfl, hown9.mono HG.out.size, HR5.out.below hB9, grown_trans HG.out (below_grown hB9 _), fun B hb => (HBB.out B hb).trans (hB9.mono (by have := HG.out.size; omega))⟩
      · rw [if_pos h3] at hK
        have HK := hid hK
        have hz : ((e2 : Int) != 0) = true := by simp; omega
        have hz2 : (e2 : Int) ≠ 0 := by omega
        clear hK h h3
        go_enter Tryd.func67, Tryd.ntmps67
        go_wp2_with (first
          | (go_at_call 68; refine (HN1.out).mono ?_; rintro r w1 ⟨A2, c2, rfl, hr1, hg1, hB1⟩; obtain ⟨q0, q1, qf⟩ := hr1.at_; have HR1 := hid hr1; clear hr1)
          | (go_at_call 68; refine (HN2.out _ A2 _ c2 HR1.out).mono ?_; rintro r w2 ⟨A3, c3, rfl, hr2, hg2, hB2⟩; clear hr2))
        go_ret2
        exact KeyC.no (by rw [← HKd.out]; exact HK.out) _ (by omega) (grown_trans hg1 hg2) (fun B hb => (hB1 B hb).trans (hB2 B hb))
  · rw [if_pos h1] at hK
    have HK := hid hK
    have hz : ((e1 : Int) != 0) = true := by simp; omega
    have hz2 : (e1 : Int) ≠ 0 := by omega
    clear hK h h1
    go_enter Tryd.func67, Tryd.ntmps67
    go_wp2_with (go_at_call 68; refine (HN1.out).mono ?_; rintro r w1 ⟨A2, c2, rfl, hr1, hg1, hB1⟩; clear hr1)
    go_ret2
    exact KeyC.no (by rw [← HKd.out]; exact HK.out) _ hz2 hg1 hB1
end Go.Proofs.YtkkclkknpjapcaaDoor
