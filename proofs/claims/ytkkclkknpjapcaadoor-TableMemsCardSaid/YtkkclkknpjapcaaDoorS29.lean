/- Shared texts, part S29: TbD0, TbD. -/
import Derived.Test.YtkkclkknpjapcaaDoorS27
import Derived.Test.YtkkclkknpjapcaaDoorS28
import Derived.Test.YtkkclkknpjapcaaDoorS24
/-! ### TbD0 -/
namespace Go.Proofs.YtkkclkknpjapcaaDoor
open Go.RowKit
set_option linter.unusedVariables false
set_option linter.unusedSimpArgs false

/-- What was made behind a row stays as it grows. -/
theorem RB.past {w w1 w2 : World} {base base1 : Nat} {A : Option Addr} {n c : Nat} {ys xs : List UInt8} {v : Value} (h : OB w1 base1 (.slice A n c) ys) (hv : OB w base v xs) (hb : w.heap.size ≤ base1) (hg : w1.grownBy w2 v.ownBlock) : RB w2 A n ys :=
  h.rb.1.grown hg fun ad e => by
    subst e
    have h1 := h.base_ ad.block rfl
    intro he
    have := hv.lt ad.block he.symm
    omega
theorem OS.other {w w' : World} {base : Nat} {v : Value} {V : List Value} {row : Option Nat} (h : OS w base v V) (hg : w.grownBy w' row) (hne : v.ownBlock = none ∨ v.ownBlock ≠ row) : OS w' base v V := World.ownsRow.kept h hg hne
theorem OS.apart {w : World} {base base' : Nat} {u v : Value} {V : List Value} {xs : List UInt8} (h : OS w base' u V) (h2 : OB w base v xs) : u.ownBlock = none ∨ u.ownBlock ≠ v.ownBlock := by
  rcases h.2 with ⟨rfl, _⟩ | ⟨g, cap, cur, rfl, _, hh, _⟩
  · exact .inl rfl
  · refine .inr ?_
    intro e
    rcases h2.2 with ⟨rfl, _⟩ | ⟨g', cap', cur', rfl, _, hh', _⟩
    · cases e
    · have e2 : g = g' := Option.some.inj e
      rw [e2, hh'] at hh
      injection hh with hh
      injection hh with _ hh _
      exact absurd hh (by decide)
theorem blkF_step {f : Nat} {es : List EntR} {out idx BK : List UInt8} {N : Nat} {x : EntR} (hne : es ≠ []) (hN : cutN es = N) (hB : encK (es.take N) = BK) (hx : elt noEnt es (N - 1) = x) :
    blkF (f + 1) es out idx = blkF f (es.drop N) (out ++ sumB BK) (((idx ++ uvar (eKey x).length ++ eKey x) ++ uvar out.length) ++ uvar BK.length) := by
  rw [blkF, if_neg hne, hN, hB, hx]
  unfold idxB
  simp only [List.append_assoc]
theorem blkF_done (f : Nat) (out idx : List UInt8) : blkF f [] out idx = (out, idx) := by
  cases f with
  | zero => rfl
  | succ f => rw [blkF, if_pos rfl]
/-- The blocks' rows as Build's loop holds them. -/
def BlkJ (w wr : World) (es : List EntR) (kv : Value) (V : List Value) (Ao : Option Addr) (co : Nat) (out : List UInt8) (Ai : Option Addr) (ci : Nat) (idx : List UInt8) (Ar : Option Addr) (nr cr : Nat) (rest : List EntR) (f : Nat) : Prop :=
  OB wr w.heap.size (.slice Ao out.length co) out ∧ RB wr Ai idx.length idx ∧ OS wr w.heap.size kv V ∧ REnts w Ar nr rest ∧ nr ≤ cr ∧ blkF es.length es [] [] = blkF f rest out idx ∧ nr ≤ f ∧ AllM rest ∧ Srt rest ∧
  out.length + 2720 * nr ≤ 2720 * es.length ∧ idx.length + 560 * nr ≤ 560 * es.length ∧ Below w.heap.size w wr
theorem BlkJ.start {w wr : World} {es : List EntR} {kv : Value} {V : List Value} {A : Option Addr} {n c : Nat} (h : REnts w A n es) (hc : n ≤ c) (hos : OS wr w.heap.size kv V) (ha : AllM es) (hs : Srt es) (hB : Below w.heap.size w wr) : BlkJ w wr es kv V none 0 [] none 0 [] A n c es es.length :=
  ⟨OB.nil _ _, RB.nil _, hos, h, hc, rfl, by rw [h.1]; exact Nat.le_refl _, ha, hs, by rw [h.1]; simp, by rw [h.1]; simp, hB⟩
/-- The foot's numbers, four bytes each. -/
def footU (l : List Nat) : Nat → List UInt8
  | 0 => []
  | k + 1 => footU l k ++ fixB (elt 0 l k) 4
theorem footU_len (l : List Nat) : ∀ k, (footU l k).length = 4 * k := by
  intro k
  induction k with
  | zero => rfl
  | succ k ih => rw [footU, List.length_append, ih, fix4_len]; omega
theorem footU_five (a i n f m : Nat) : footU [a, i, n, f, m] 5 = footB a i n f m := by simp [footU, footB, elt]
theorem run_index5 (a i n f m : Nat) {k : Nat} (hk : k < 5) (w : World) : (Instr.index 67 (.agg #[.int .i64 (a : Int), .int .i64 (i : Int), .int .i64 (n : Int), .int .i64 (f : Int), .int .i64 (m : Int)]) (.int .i64 (k : Int))).run Tryd.prog w = .ok (.int .i64 (elt 0 [a, i, n, f, m] k : Nat)) w := by
  rcases (by omega : k = 0 ∨ k = 1 ∨ k = 2 ∨ k = 3 ∨ k = 4) with rfl | rfl | rfl | rfl | rfl
  all_goals kernel_rfl
theorem elt5_lt {a i n f m B : Nat} (h : a < B ∧ i < B ∧ n < B ∧ f < B ∧ m < B) {k : Nat} (hk : k < 5) : elt 0 [a, i, n, f, m] k < B := by
  rcases (by omega : k = 0 ∨ k = 1 ∨ k = 2 ∨ k = 3 ∨ k = 4) with rfl | rfl | rfl | rfl | rfl
  all_goals (simp [elt]; omega)
end Go.Proofs.YtkkclkknpjapcaaDoor
/-! ### TbD -/
namespace Go.Proofs.YtkkclkknpjapcaaDoor
open Go.RowKit
set_option linter.unusedVariables false
set_option linter.unusedSimpArgs false

theorem app_len {a b L : List UInt8} (h : a ++ b = L) : L.length = a.length + b.length := by rw [← h, List.length_append]
/-- What Build leaves of entries that may be. -/
def BdF (w w' : World) (es : List EntR) (r : Ending) : Prop :=
  if 4194304 < (tabB es).length then r = .returned (.tuple #[.slice none 0 0, .int .i64 8]) ∧ Below w.heap.size w w'
  else ∃ v, r = .returned (.tuple #[v, .int .i64 0]) ∧ OB w' w.heap.size v (tabB es) ∧ Below w.heap.size w w'
set_option maxHeartbeats 64000000 in
set_option maxRecDepth 200000 in
theorem tbuild_fit (A : Option Addr) (n c : Nat) (es : List EntR) (w : World) (h : REnts w A n es) (hc : n ≤ c) (hn : 1 ≤ n ∧ n ≤ 4000) (hall : AllM es) (hsrt : Srt es) :
    Calls Tryd.prog 8 #[.slice A n c] w fun r w' => BdF w w' es r := by
  have hl := h.1
  have H := hid h
  have HCh : Hid (∀ E, ChC es E → E = 0) := hid (fun E hE => by
    rcases hE with ⟨h1, _⟩ | ⟨_, h1, _⟩ | ⟨_, _, h1, _⟩ | ⟨_, _, _, h1⟩
    · omega
    · exact absurd hall h1
    · exact absurd hsrt h1
    · exact h1)
  have HAll := hid hall
  have HSrt := hid hsrt
  have HL := hid hl
  clear h hall hsrt hl
  go_enter Tryd.func8, Tryd.ntmps8
  go_wp2_with (go_at_call 27; (with_reducible refine (check_any A n c es _ H.out hc).mono ?_); rintro r w0 ⟨E0, rfl, hch, hb0⟩; obtain rfl := HCh.out E0 hch; have HB0 := hid hb0; clear hch hb0)
  clear HCh
  go_loopw [7, 28] (fun kv i wr => ∃ (k : Nat) (V : List Value), k ≤ n ∧ i = .int .i64 k ∧ OS wr w.heap.size kv V ∧ RBW w V (keysU es k) ∧ Below w.heap.size w wr) (fun _ i wr => n - (intOf i).toNat)
  case atStart => exact ⟨0, [], Nat.zero_le _, rfl, OS.nil _ _, RBW.nil _, HB0.out⟩
  case round =>
    clear HB0
    obtain ⟨k, V, hk, rfl, hos, hrw, hB⟩ := hrel
    have hVl : V.length ≤ 4000 := by have := keysU_len es k; have := hrw.1; omega
    by_cases hlt : k < n
    · obtain ⟨ad, rfl, hen⟩ := H.out.at_ hlt
      obtain ⟨Ak, nk, ck, Av, nv, cv, a0, a1, a2, a3, a4, a5, a6, a7, a8⟩ := hen
      have hstep : keysU es (k + 1) = if k = 0 ∨ eKey (elt noEnt es (k - 1)) ≠ eKey (elt noEnt es k) then keysU es k ++ [eKey (elt noEnt es k)] else keysU es k := rfl
      have a0 := below_cell hB a0
      have a1 := below_cell hB a1
      have a2 := below_cell hB a2
      have a3 := below_cell hB a3
      have a4 := below_cell hB a4
      by_cases hk0 : k = 0
      · have hkz : ((k : Int) == 0) = true := by rw [beq_iff_eq]; omega
        rw [if_pos (.inl hk0)] at hstep
        have HK2 : Hid (RBW w (V ++ [.slice Ak nk ck]) (keysU es (k + 1))) := hid (by rw [hstep]; exact hrw.append (RBW.one a5 a7))
        clear hstep hrw a5 a6 hk0
        go_wp2
        go_quiet (fail)
        go_wp2_with (at_builtin; refine wpS_append1 w _ w.heap.size rfl (.tmp 47) (.tmp 50) rfl _ V rfl (by exact (hos.below (below_alloc' (Below.refl _ _) _)).below (below_drewN (Below.refl _ _) _)) Ak nk ck 1 _ (by first | rfl | simp) rfl (by omega) (below_drewN (below_alloc' hB _) _) (below_drewN (below_alloc' hB _) _).size ?_; intro v1 w1 hown1 hB1)
        go_roundw
        case rel => exact ⟨k + 1, _, by omega, by go_num, hown1, HK2.out, hB1⟩
        case measure => simp [intOf]; omega
      · obtain ⟨j, hj⟩ : ∃ j, k - 1 = j := ⟨_, rfl⟩
        have hkm : (k : Int) - 1 = (j : Int) := by omega
        have hws : IntKind.i64.wrap (j : Int) = (j : Int) := by rw [IntKind.wrap_i64]; omega
        have hjn : j < n := by omega
        have hkz : ((k : Int) == 0) = false := by rw [beq_eq_false_iff_ne]; omega
        obtain ⟨ad2, hae, hen2⟩ := H.out.at_ hjn
        obtain rfl := Option.some.inj hae
        obtain ⟨Bk, mk, dk, Bv, mv, dv, b0, b1, b2, b3, b4, b5, b6, b7, b8⟩ := hen2
        have b0 := below_cell hB b0
        have b9 : (wr.alloc (.cells #[.slice Ak nk ck, .int .i64 (eSeq (elt noEnt es k)), .bool (eGone (elt noEnt es k)), .int .i64 (eTil (elt noEnt es k)), .slice Av nv cv] 29)).cell? (ad.add (j * 5)) = some (.slice Bk mk dk) := below_cell (below_alloc' (Below.refl _ _) _) b0
        rw [hj] at hstep
        have HKa := hid (a5.below (below_alloc' hB (.cells #[.slice Ak nk ck, .int .i64 (eSeq (elt noEnt es k)), .bool (eGone (elt noEnt es k)), .int .i64 (eTil (elt noEnt es k)), .slice Av nv cv] 29)))
        have HKb := hid (b5.below (below_alloc' hB (.cells #[.slice Ak nk ck, .int .i64 (eSeq (elt noEnt es k)), .bool (eGone (elt noEnt es k)), .int .i64 (eTil (elt noEnt es k)), .slice Av nv cv] 29)))
        by_cases heq : eKey (elt noEnt es j) = eKey (elt noEnt es k)
        · rw [if_neg (by rintro (h | h); exact hk0 h; exact h heq)] at hstep
          have HK2 : Hid (RBW w V (keysU es (k + 1))) := hid (by rw [hstep]; exact hrw)
          have HEq : Hid (decide (eKey (elt noEnt es j) = eKey (elt noEnt es k)) = true) := hid (decide_eq_true heq)
          clear hstep hrw a5 a6 b5 b6 heq b1 b2 b3 b4 hae hj hk0
          go_wp2
          go_quiet (first | (go_at_call 24; refine Calls.quiet_of_same (v := .bool true) ((equal_any Bk mk dk _ Ak nk ck _ _ (HKb.out.drewN _) (HKa.out.drewN _)).mono ?_); rintro r w1 ⟨rfl, rfl⟩; exact ⟨(by rw [HEq.out]), rfl⟩))
          go_wp2
          go_roundw
          case rel => exact ⟨k + 1, V, by omega, by go_num, (hos.below (below_alloc' (Below.refl _ _) _)).below (below_drewN (Below.refl _ _) _), HK2.out, below_drewN (below_alloc' hB _) _⟩
          case measure => simp [intOf]; omega
        · rw [if_pos (.inr heq)] at hstep
          have HK2 : Hid (RBW w (V ++ [.slice Ak nk ck]) (keysU es (k + 1))) := hid (by rw [hstep]; exact hrw.append (RBW.one a5 a7))
          have HEq : Hid (decide (eKey (elt noEnt es j) = eKey (elt noEnt es k)) = false) := hid (decide_eq_false heq)
          clear hstep hrw a5 a6 b5 b6 heq b1 b2 b3 b4 hae hj hk0
          go_wp2
          go_quiet (first | (go_at_call 24; refine Calls.quiet_of_same (v := .bool false) ((equal_any Bk mk dk _ Ak nk ck _ _ (HKb.out.drewN _) (HKa.out.drewN _)).mono ?_); rintro r w1 ⟨rfl, rfl⟩; exact ⟨(by rw [HEq.out]), rfl⟩))
          go_wp2_with (at_builtin; refine wpS_append1 w _ w.heap.size rfl (.tmp 47) (.tmp 50) rfl _ V rfl (by exact (hos.below (below_alloc' (Below.refl _ _) _)).below (below_drewN (Below.refl _ _) _)) Ak nk ck 1 _ (by first | rfl | simp) rfl (by omega) (below_drewN (below_alloc' hB _) _) (below_drewN (below_alloc' hB _) _).size ?_; intro v1 w1 hown1 hB1)
          go_roundw
          case rel => exact ⟨k + 1, _, by omega, by go_num, hown1, HK2.out, hB1⟩
          case measure => simp [intOf]; omega
    · obtain rfl : k = n := by omega
      have HRW := hid hrw
      have HVl := hid hVl
      have HJ0 := hid (BlkJ.start H.out hc hos HAll.out HSrt.out hB)
      have HBl : Hid (∀ out idx, blkF es.length es [] [] = (out, idx) → ∀ FIL, filterB (keysU es k) = FIL → tabB es = (((out ++ sumB idx) ++ sumB FIL) ++ sumB (footU [out.length, idx.length, (out ++ sumB idx).length, FIL.length, k] 5)) ++ magicB) := hid (fun out idx h FIL hF => by
        have e : es.length = k := HL.out
        unfold tabB blocksB indexB filtB
        rw [h, e, hF, footU_five])
      clear hos hrw hVl hB hlt HAll HSrt
      go_wp2
      go_loopw [5, 6, 10] (fun ov iv rv wr2 => ∃ Ao co out Ai ci idx Ar nr cr rest f, ov = .slice Ao (out : List UInt8).length co ∧ iv = .slice Ai (idx : List UInt8).length ci ∧ rv = .slice Ar nr cr ∧ BlkJ w wr2 es u7 V Ao co out Ai ci idx Ar nr cr rest f) (fun _ _ rv _ => lenV rv)
      case atStart => exact ⟨none, 0, [], none, 0, [], A, k, c, es, es.length, rfl, rfl, rfl, HJ0.out⟩
      case round =>
        clear HJ0
        obtain ⟨Ao, co, out, Ai, ci, idx, Ar, nr, cr, rest, f, rfl, rfl, rfl, hJ⟩ := hrel
        obtain ⟨j1, j2, j3, j4, j5, j6, j7, j8, j9, j10, j11, j12⟩ := hJ
        have hrl : rest.length = nr := j4.1
        have hel : es.length = k := HL.out
        have hw1 := wrap_u64_nat out.length (by omega)
        have HOs := hid j3
        have HOut := hid j1
        have HIdx := hid j2
        have HB := hid j12
        by_cases hr0 : nr = 0
        · obtain rfl : rest = [] := List.eq_nil_of_length_eq_zero (by omega)
          rw [blkF_done] at j6
          have hz0 : decide ((0 : Int) < (nr : Int)) = false := decide_eq_false (by omega)
          obtain ⟨FIL, hFIL⟩ : ∃ F, filterB (keysU es k) = F := ⟨_, rfl⟩
          have hT := HBl.out out idx j6 FIL hFIL
          have hfl : FIL.length ≤ 5008 := by
            have h1 := keysU_len es k
            have h2 : FIL.length = sizeF (keysU es k).length := by rw [← hFIL]; exact fillUpto_len _ _ _ _
            rw [h2]
            unfold sizeF
            split <;> omega
          have HFIL := hid hFIL
          obtain ⟨Akk, ckk, rfl, hckk, hrd⟩ := j3.readsN V.length rfl
          have hvl : V.length ≤ 4000 := HVl.out
          have HKs := hid (RBs_of_reads hrd (HRW.out.below j12) (by omega))
          have HT := hid hT
          clear hT hrd j3 j6 hFIL j1 j2 j4 j8 j9 j12 HBl HRW HOs
          go_wp2_with (first
            | (go_at_call 33; (with_reducible refine (build_any Akk V.length ckk (keysU es k) _ HKs.out (by omega)).mono ?_); rintro e w1 ⟨v1, rfl, ho1, hb1⟩; rw [HFIL.out] at ho1; obtain ⟨A1, d1, rfl, _, _⟩ := ho1.open_; have HB1 := hid (below_then HB.out hb1); have HC1 := hid hb1; have HF1 := hid ho1; clear ho1 hb1)
            | (go_at_call 32; (with_reducible refine (summed_any Ai idx.length ci idx _ (HIdx.out.below HC1.out) (by omega)).mono ?_); rintro e w2 ⟨v2, rfl, ho2, hb2⟩; obtain ⟨SI, hSI⟩ : ∃ S, sumB idx = S := ⟨_, rfl⟩; rw [hSI] at ho2; have hl2 : Hid (SI.length = idx.length + 4) := hid (by rw [← hSI, sumB_len]); obtain ⟨A2, d2, rfl, hr2, _⟩ := ho2.open_; have HB2 := hid (below_then HB1.out hb2); have HC2 := hid (below_then HC1.out hb2); have HF2 := hid (HF1.out.below hb2); have HSI := hid hSI; have HR2 := hid hr2; clear ho2 hr2 hb2 hSI)
            | (at_builtin; refine wpB_append w w2 w.heap.size rfl (.tmp 103) (.tmp 105) rfl (.slice Ao out.length co) out rfl (HOut.out.below HC2.out) A2 SI.length d2 SI rfl HR2.out (by have := hl2.out; omega) HB2.out HB2.out.size ?_; intro v3 w3 hown3 hB3 hg3 hat3; obtain ⟨O2, hO2⟩ : ∃ O, out ++ SI = O := ⟨_, rfl⟩; rw [hO2] at hown3; have hl3 : Hid (O2.length = out.length + SI.length) := hid (app_len hO2); obtain ⟨A3, d3, rfl, _, _⟩ := hown3.openN O2.length rfl; have HRF := hid (RB.past HF2.out HOut.out (Nat.le_refl _) hg3); have HO3 := hid hown3; have HB3 := hid hB3; have HO2 := hid hO2; clear hown3 hB3 hg3 hat3 hO2)
            | (go_at_call 32; (with_reducible refine (summed_any A1 FIL.length d1 FIL _ HRF.out (by omega)).mono ?_); rintro e w4 ⟨v4, rfl, ho4, hb4⟩; obtain ⟨SF, hSF⟩ : ∃ S, sumB FIL = S := ⟨_, rfl⟩; rw [hSF] at ho4; have hl4 : Hid (SF.length = FIL.length + 4) := hid (by rw [← hSF, sumB_len]); obtain ⟨A4, d4, rfl, hr4, _⟩ := ho4.open_; have HB4 := hid (below_then HB3.out hb4); have HC4 := hid hb4; have HSF := hid hSF; have HR4 := hid hr4; clear ho4 hr4 hb4 hSF)
            | (at_builtin; refine wpB_append w w4 w.heap.size rfl (.tmp 109) (.tmp 111) rfl (.slice A3 O2.length d3) O2 rfl (HO3.out.below HC4.out) A4 SF.length d4 SF rfl HR4.out (by have := hl2.out; have := hl3.out; have := hl4.out; omega) HB4.out HB4.out.size ?_; intro v5 w5 hown5 hB5 hg5 hat5; obtain ⟨O3, hO3⟩ : ∃ O, O2 ++ SF = O := ⟨_, rfl⟩; rw [hO3] at hown5; have hl5 : Hid (O3.length = O2.length + SF.length) := hid (app_len hO3); obtain ⟨A5, d5, rfl, _, _⟩ := hown5.openN O3.length rfl; have HO5 := hid hown5; have HB5 := hid hB5; have HO3' := hid hO3; clear hown5 hB5 hg5 hat5 hO3))
          have ho2l : O2.length ≤ 13200000 := by have := hl2.out; have := hl3.out; omega
          have ho3l : O3.length ≤ 13210000 := by have := hl5.out; have := hl4.out; omega
          have HTT : Hid (tabB es = (O3 ++ sumB (footU [out.length, idx.length, O2.length, FIL.length, k] 5)) ++ magicB) := hid (by rw [HT.out, HSI.out, HSF.out, HO2.out, HO3'.out])
          have H5 : Hid (∀ q, q < 5 → elt 0 [out.length, idx.length, O2.length, FIL.length, k] q < 4294967296) := hid (fun q hq => elt5_lt (by omega) hq)
          clear HT HSI HSF HO2 HO3' hl2 hl3 hl4 hl5 HR2 HR4 HRF HO3 HF1 HF2 HFIL HKs
          go_loopw [18, 122] (fun fv i wr3 => ∃ (m : Nat) (Af : Option Addr) (nf cf : Nat), m ≤ 5 ∧ i = .int .i64 m ∧ fv = .slice Af nf cf ∧ RB wr3 Af nf (footU [out.length, idx.length, O2.length, FIL.length, k] m) ∧ OB wr3 w.heap.size (.slice A5 O3.length d5) O3 ∧ Below w.heap.size w wr3) (fun _ i _ => 5 - (intOf i).toNat)
          case atStart => exact ⟨0, none, 0, 0, by omega, rfl, rfl, RB.nil _, HO5.out, HB5.out⟩
          case round =>
            clear HO5 HB5
            obtain ⟨m, Af, nf, cf, hm, rfl, rfl, hrf, ho, hB⟩ := hrel
            have HRf := hid hrf
            have HOo := hid ho
            have HBb := hid hB
            have hfl := hrf.1
            rw [footU_len] at hfl
            clear hrf ho hB
            by_cases hm5 : m < 5
            · have hix := run_index5 out.length idx.length O2.length FIL.length k hm5 wr
              have hX := H5.out m hm5
              have hsucc : footU [out.length, idx.length, O2.length, FIL.length, k] (m + 1) = footU [out.length, idx.length, O2.length, FIL.length, k] m ++ fixB (elt 0 [out.length, idx.length, O2.length, FIL.length, k] m) 4 := rfl
              have HSu := hid hsucc
              clear hsucc
              generalize elt 0 [out.length, idx.length, O2.length, FIL.length, k] m = X at *
              have hxw := wrap_u64_nat X (by omega)
              have HFx := hid (fixed_any Af nf cf _ X 4 wr HRf.out (by omega) (by omega) (by omega))
              go_wp2_with (go_at_call 34; refine (HFx.out).mono ?_; rintro e w6 ⟨v6, rfl, ho6, hb6⟩; rw [← HSu.out] at ho6; obtain ⟨A6, d6, rfl, hr6, _⟩ := ho6.open_; have HR6 := hid hr6; have HB6 := hid hb6; clear ho6 hr6 hb6)
              go_roundw
              case rel => exact ⟨m + 1, A6, _, d6, by omega, by go_num, rfl, HR6.out, HOo.out.below HB6.out, below_then HBb.out HB6.out⟩
              case measure => simp [intOf]; omega
            · obtain rfl : m = 5 := by omega
              obtain ⟨FT, hFT⟩ : ∃ F, footU [out.length, idx.length, O2.length, FIL.length, k] 5 = F := ⟨_, rfl⟩
              have hT2 := HTT.out
              rw [hFT] at hT2 HRf
              obtain ⟨TB, hTB⟩ : ∃ T, tabB es = T := ⟨_, rfl⟩
              rw [hTB] at hT2
              obtain ⟨SS, hSS⟩ : ∃ S, sumB FT = S := ⟨_, rfl⟩
              rw [hSS] at hT2
              have HSS := hid hSS
              have hlS : Hid (SS.length = nf + 4) := hid (by rw [← hSS, sumB_len, HRf.out.1])
              obtain ⟨O4, hO4⟩ : ∃ O, O3 ++ SS = O := ⟨_, rfl⟩
              rw [hO4] at hT2
              have hl4 : Hid (O4.length = O3.length + SS.length) := hid (app_len hO4)
              have HO4 := hid hO4
              have HT2 := hid hT2
              have HTB := hid hTB
              have hlT : Hid (TB.length = O4.length + 8) := hid (by rw [hT2, List.length_append]; rfl)
              have hms : (⟨#[104, 97, 108, 121, 97, 114, 100, 49]⟩ : ByteArray) = bstr magicB := rfl
              have HMs := hid hms
              clear hFT hSS hO4 hT2 hTB hms H5 HTT
              by_cases hbig : 4194304 < TB.length
              · have hd1 : decide ((4194304 : Int) < (TB.length : Int)) = true := decide_eq_true (by omega)
                go_wp2_with (first
                  | (go_at_call 32; (with_reducible refine (summed_any Af nf cf FT _ HRf.out (by omega)).mono ?_); rintro e w6 ⟨v6, rfl, ho6, hb6⟩; rw [HSS.out] at ho6; obtain ⟨A6, d6, rfl, hr6, _⟩ := ho6.open_; have HR6 := hid hr6; have HB6 := hid (below_then HBb.out hb6); have HO6 := hid (HOo.out.below hb6); clear ho6 hr6 hb6)
                  | (at_builtin; refine wpB_append w w6 w.heap.size rfl (.tmp 130) (.tmp 132) rfl (.slice A5 O3.length d5) O3 rfl HO6.out A6 SS.length d6 SS rfl HR6.out (by have := hlS.out; omega) HB6.out HB6.out.size ?_; intro v7 w7 hown7 hB7 hg7 hat7; rw [HO4.out] at hown7; obtain ⟨A7, d7, rfl, _, _⟩ := hown7.openN O4.length rfl; have HO7 := hid hown7; have HB7 := hid hB7; clear hown7 hB7 hg7 hat7)
                  | (at_builtin; refine wpB_append_str w w7 w.heap.size rfl (.tmp 133) _ rfl (.slice A7 O4.length d7) O4 rfl HO7.out magicB _ rfl HMs.out (by decide) (by have := hl4.out; have := hlS.out; show O4.length + 8 ≤ _; omega) HB7.out HB7.out.size ?_; intro v8 w8 hown8 hB8 hg8 hat8; rw [← HT2.out] at hown8; obtain ⟨A8, d8, rfl, _, _⟩ := hown8.openN TB.length rfl; have HO8 := hid hown8; have HB8 := hid hB8; clear hown8 hB8 hg8 hat8))
                go_ret2
                unfold BdF
                rw [HTB.out, if_pos hbig]
                exact ⟨rfl, HB8.out⟩
              · have hd1 : decide ((4194304 : Int) < (TB.length : Int)) = false := decide_eq_false (by omega)
                go_wp2_with (first
                  | (go_at_call 32; (with_reducible refine (summed_any Af nf cf FT _ HRf.out (by omega)).mono ?_); rintro e w6 ⟨v6, rfl, ho6, hb6⟩; rw [HSS.out] at ho6; obtain ⟨A6, d6, rfl, hr6, _⟩ := ho6.open_; have HR6 := hid hr6; have HB6 := hid (below_then HBb.out hb6); have HO6 := hid (HOo.out.below hb6); clear ho6 hr6 hb6)
                  | (at_builtin; refine wpB_append w w6 w.heap.size rfl (.tmp 130) (.tmp 132) rfl (.slice A5 O3.length d5) O3 rfl HO6.out A6 SS.length d6 SS rfl HR6.out (by have := hlS.out; omega) HB6.out HB6.out.size ?_; intro v7 w7 hown7 hB7 hg7 hat7; rw [HO4.out] at hown7; obtain ⟨A7, d7, rfl, _, _⟩ := hown7.openN O4.length rfl; have HO7 := hid hown7; have HB7 := hid hB7; clear hown7 hB7 hg7 hat7)
                  | (at_builtin; refine wpB_append_str w w7 w.heap.size rfl (.tmp 133) _ rfl (.slice A7 O4.length d7) O4 rfl HO7.out magicB _ rfl HMs.out (by decide) (by have := hl4.out; have := hlS.out; show O4.length + 8 ≤ _; omega) HB7.out HB7.out.size ?_; intro v8 w8 hown8 hB8 hg8 hat8; rw [← HT2.out] at hown8; obtain ⟨A8, d8, rfl, _, _⟩ := hown8.openN TB.length rfl; have HO8 := hid hown8; have HB8 := hid hB8; clear hown8 hB8 hg8 hat8))
                go_ret2
                unfold BdF
                rw [HTB.out, if_neg hbig]
                exact ⟨_, rfl, HO8.out, HB8.out⟩
        · have hne : rest ≠ [] := by intro e; rw [e] at hrl; simp at hrl; omega
          have hpos : decide ((0 : Int) < (nr : Int)) = true := decide_eq_true (by omega)
          have hN1 := cutN_pos hne
          have hN2 := cutN_few rest
          have hN3 := cutN_le rest
          have hfit := fit_cut j8 j9 hne
          have hlen := enc_len hfit.2.2.1 hfit.1
          obtain ⟨f, rfl⟩ : ∃ f', f = f' + 1 := ⟨f - 1, by omega⟩
          have hst := blkF_step (f := f) (out := out) (idx := idx) (N := cutN rest) (BK := encK (rest.take (cutN rest))) (x := elt noEnt rest (cutN rest - 1)) hne rfl rfl rfl
          rw [← j6] at hst
          obtain ⟨N, hN⟩ : ∃ N, cutN rest = N := ⟨_, rfl⟩
          simp only [hN] at hN1 hN2 hN3 hfit hlen hst
          have HN := hid hN
          rw [List.length_take, Nat.min_eq_left hN3] at hlen
          obtain ⟨BK, hBK⟩ : ∃ BK, encK (rest.take N) = BK := ⟨_, rfl⟩
          rw [hBK] at hst hlen
          have HBK := hid hBK
          have HFit := hid hfit
          have HMay : Hid (∀ j, j < nr → mayE (elt noEnt rest j) = true) := hid (fun j hj => j8 j (by omega))
          obtain ⟨q, hq⟩ : ∃ q, N - 1 = q := ⟨_, rfl⟩
          have hNm : (N : Int) - 1 = (q : Int) := by omega
          have hqn : q < nr := by omega
          rw [hq] at hst
          obtain ⟨ad, rfl, hen⟩ := j4.at_ hqn
          have hmx := mayE_cases (HMay.out q hqn)
          generalize elt noEnt rest q = x at *
          obtain ⟨Ak, nk, ck, Av, nv, cv, a0, a1, a2, a3, a4, a5, a6, a7, a8⟩ := hen
          have hnk := a5.1
          have hk512 : nk ≤ 512 := by omega
          have a0 := below_cell j12 a0
          have HKey := hid a5
          obtain ⟨c3, hcut3, hre3, hc3⟩ := cutEn_hi (A := some ad) j5 (hi := N) (by omega) (N : Int) rfl
          obtain ⟨A4, c4, hcut4, hre4, hc4⟩ := cutEn_lo (A := some ad) j5 (lo := N) (by omega) (N : Int) rfl
          have HRT := hid (hre3 _ _ j4)
          have HRD := hid (hre4 _ _ j4)
          have HRE := hid j4
          have HSt := hid hst
          have hw2 := wrap_u64_nat BK.length (by omega)
          have hu1 := uvar_len (eKey x).length
          have hu2 := uvar_len out.length
          have hu3 := uvar_len BK.length
          have HAl := hid (j8.drop N)
          have HSl := hid (j9.drop N)
          clear hst hfit hN hBK hre3 hre4 j1 j2 j3 j4 j6 j8 j9 hmx a1 a2 a3 a4 a5 a6 hne hq
          go_wp2_with (first
            | (go_at_call 28; (with_reducible refine (cut_any (some ad) nr cr rest _ (HRE.out.below HB.out) (by omega) HMay.out).mono ?_); rintro e w1 ⟨rfl, hb1⟩; rw [HN.out]; have HB1 := hid (below_then HB.out hb1); have HC1 := hid hb1; clear hb1)
            | (go_at_call 29; (with_reducible refine (encode_fit (some ad) N c3 (rest.take N) _ (HRT.out.below HB1.out) HFit.out).mono ?_); rintro r w2 ⟨v2, rfl, ho2, hb2⟩; rw [HBK.out] at ho2; obtain ⟨Ab, cb, rfl, hrb2, hcb2⟩ := ho2.open_; have HB2 := hid (below_then HB1.out hb2); have HC2 := hid (below_then HC1.out hb2); have a9 := below_cell HC2.out a0; have HRb := hid hrb2; clear ho2 hrb2 hb2)
            | (go_at_call 30; (with_reducible refine (putbytes_any Ai idx.length ci idx Ak nk ck (eKey x) _ (HIdx.out.below HC2.out) (HKey.out.below HB2.out) (by omega)).mono ?_); rintro e w3 ⟨v3, rfl, ho3, hb3⟩; obtain ⟨I1, hI1⟩ : ∃ I, idx ++ uvar (eKey x).length ++ eKey x = I := ⟨_, rfl⟩; rw [hI1] at ho3; have hl1 : I1.length ≤ idx.length + 522 := (by rw [← hI1, List.length_append, List.length_append]; omega); obtain ⟨A3, d3, rfl, hr3, hc3'⟩ := ho3.open_; have HB3 := hid (below_then HB2.out hb3); have HC3 := hid (below_then HC2.out hb3); have HD3 := hid hb3; have HI1 := hid hI1; have HR3 := hid hr3; clear ho3 hr3 hb3 hI1)
            | (go_at_call 31; (with_reducible refine (put_any A3 I1.length d3 I1 out.length _ HR3.out (by omega) (by omega)).mono ?_); rintro e w4 ⟨v4, rfl, ho4, hb4⟩; obtain ⟨I2, hI2⟩ : ∃ I, I1 ++ uvar out.length = I := ⟨_, rfl⟩; rw [hI2] at ho4; have hl2 : I2.length ≤ idx.length + 532 := (by rw [← hI2, List.length_append]; omega); obtain ⟨A5, d5, rfl, hr4, hc4'⟩ := ho4.open_; have HB4 := hid (below_then HB3.out hb4); have HC4 := hid (below_then HC3.out hb4); have HD4 := hid (below_then HD3.out hb4); have HI2 := hid hI2; have HR4 := hid hr4; clear ho4 hr4 hb4 hI2)
            | (go_at_call 31; (with_reducible refine (put_any A5 I2.length d5 I2 BK.length _ HR4.out (by omega) (by omega)).mono ?_); rintro e w5 ⟨v5, rfl, ho5, hb5⟩; obtain ⟨I3, hI3⟩ : ∃ I, I2 ++ uvar BK.length = I := ⟨_, rfl⟩; rw [hI3] at ho5; have hl3 : I3.length ≤ idx.length + 542 := (by rw [← hI3, List.length_append]; omega); obtain ⟨A6, d6, rfl, hr5, hc5'⟩ := ho5.open_; have HB5 := hid (below_then HB4.out hb5); have HC5 := hid (below_then HC4.out hb5); have HD5 := hid (below_then HD4.out hb5); have HI3 := hid hI3; have HO5 := hid ho5; clear ho5 hr5 hb5 hI3)
            | (go_at_call 32; (with_reducible refine (summed_any Ab BK.length cb BK _ (HRb.out.below HD5.out) (by omega)).mono ?_); rintro e w6 ⟨v6, rfl, ho6, hb6⟩; obtain ⟨SB, hSB⟩ : ∃ S, sumB BK = S := ⟨_, rfl⟩; rw [hSB] at ho6; have hl6 : Hid (SB.length = BK.length + 4) := hid (by rw [← hSB, sumB_len]); obtain ⟨A7, d7, rfl, hr6, hc6'⟩ := ho6.open_; have HB6 := hid (below_then HB5.out hb6); have HC6 := hid (below_then HC5.out hb6); have HSB := hid hSB; have HR6 := hid hr6; have HO6 := hid (HO5.out.below hb6); clear ho6 hr6 hb6 hSB)
            | (at_builtin; refine wpB_append w w6 w.heap.size rfl (.tmp 86) (.tmp 88) rfl (.slice Ao out.length co) out rfl (HOut.out.below HC6.out) A7 SB.length d7 SB rfl HR6.out (by have := hl6.out; omega) HB6.out HB6.out.size ?_; intro v7 w7 hown7 hB7 hg7 hat7; obtain ⟨O2, hO2⟩ : ∃ O, out ++ SB = O := ⟨_, rfl⟩; rw [hO2] at hown7; have hl7 : Hid (O2.length = out.length + SB.length) := hid (app_len hO2); obtain ⟨A8, d8, rfl, _, _⟩ := hown7.open_; have HRI := hid (RB.past HO6.out HOut.out HC4.out.size hg7); have HOS7 := hid ((HOs.out.below HC6.out).other hg7 (OS.apart (HOs.out.below HC6.out) (HOut.out.below HC6.out))); have HO7 := hid hown7; have HB7 := hid hB7; have HO2 := hid hO2; clear hown7 hB7 hg7 hat7 hO2))
          have HN2 : Hid (BlkJ w w7 es u7 V A8 d8 O2 A6 d6 I3 A4 (nr - N) c4 (rest.drop N) f) := hid ⟨HO7.out, HRI.out, HOS7.out, HRD.out, hc4, by rw [HSt.out, HI1.out, HI2.out, HI3.out, HSB.out, HO2.out], by omega, HAl.out, HSl.out, by have := hl6.out; have := hl7.out; omega, by omega, HB7.out⟩
          go_roundw
          case rel => exact ⟨A8, d8, O2, A6, d6, I3, A4, nr - N, c4, rest.drop N, f, rfl, rfl, rfl, HN2.out⟩
          case measure => simp [lenV]; omega
end Go.Proofs.YtkkclkknpjapcaaDoor
