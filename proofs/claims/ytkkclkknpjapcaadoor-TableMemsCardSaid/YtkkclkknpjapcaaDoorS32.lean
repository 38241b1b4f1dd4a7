/- Shared texts, part S32: TbM, TbN, BlV, BlM, BlN. -/
import Derived.Test.YtkkclkknpjapcaaDoorS30
import Derived.Test.YtkkclkknpjapcaaDoorS31
/-! ### TbM -/
namespace Go.Proofs.YtkkclkknpjapcaaDoor
open Go.RowKit
set_option linter.unusedVariables false
set_option linter.unusedSimpArgs false

set_option maxHeartbeats 16000000 in
set_option maxRecDepth 100000 in
theorem town_any (Ak : Option Addr) (nk ck : Nat) (key : List UInt8) (s : Int) (g : Bool) (u : Int) (Av : Option Addr) (nv cv : Nat) (val : List UInt8) (w : World) (hk : RB w Ak nk key) (hv : RB w Av nv val) (h1 : nk ≤ 140737488355328) (h2 : nv ≤ 140737488355328) :
    Calls Tryd.prog 42 #[.agg #[.slice Ak nk ck, .int .i64 s, .bool g, .int .i64 u, .slice Av nv cv]] w fun e w' => ∃ kv vv, e = .returned (.agg #[kv, .int .i64 s, .bool g, .int .i64 u, vv]) ∧ OB w' w.heap.size kv key ∧ OB w' w.heap.size vv val ∧ Below w.heap.size w w' := by
  have hnk := hk.1
  have hnv := hv.1
  have e0 : (w.alloc (.cells #[.slice Ak nk ck, .int .i64 s, .bool g, .int .i64 u, .slice Av nv cv] 29)).heap.size = w.heap.size + 1 := by simp
  have hbx := blk_below (below_alloc' (Below.refl _ _) (.cells #[.slice none 0 0, .int .i64 0, .bool false, .int .i64 0, .slice none 0 0] 29)) (heap_alloc_new w (.cells #[.slice Ak nk ck, .int .i64 s, .bool g, .int .i64 u, .slice Av nv cv] 29))
  have hrx := heap_alloc_new (w.alloc (.cells #[.slice Ak nk ck, .int .i64 s, .bool g, .int .i64 u, .slice Av nv cv] 29)) (.cells #[.slice none 0 0, .int .i64 0, .bool false, .int .i64 0, .slice none 0 0] 29)
  rw [e0] at hrx
  have hB0 : Below w.heap.size w ((w.alloc (.cells #[.slice Ak nk ck, .int .i64 s, .bool g, .int .i64 u, .slice Av nv cv] 29)).alloc (.cells #[.slice none 0 0, .int .i64 0, .bool false, .int .i64 0, .slice none 0 0] 29)) := below_alloc' (below_alloc' (Below.refl _ _) _) _
  have hk0 := (hk.alloc (.cells #[.slice Ak nk ck, .int .i64 s, .bool g, .int .i64 u, .slice Av nv cv] 29)).alloc (.cells #[.slice none 0 0, .int .i64 0, .bool false, .int .i64 0, .slice none 0 0] 29)
  clear hk
  go_enter Tryd.func42, Tryd.ntmps42
  go_wp2_with (first
    | (at_builtin; go_loud (refine wpB_append w _ w.heap.size rfl _ (.tmp 4) rfl (.slice none 0 0) [] rfl (OB.nil _ _) Ak nk ck key rfl hk0 (by simp; omega) hB0 hB0.size ?_); intro v1 w1 hown1 hB1 hg1 _; rw [List.nil_append] at hown1; obtain ⟨A1, c1, rfl, _, _⟩ := hown1.openN nk hnk; have hg1 := below_of_none hg1; have hbx1 := blk_below hg1 hbx; have hrx1 := blk_below hg1 hrx; have q1 := box_at hbx1 0 (.slice Ak nk ck) rfl; have f1 := fun i => frozen_of_row w1 w.heap.size i _ _ hbx1; have gs1 := grown_set w1 w.heap.size 0 (.slice A1 nk c1); have hbx2 := heap_setCell_same w1 w.heap.size 0 _ _ (.slice A1 nk c1) hbx1; have hrx2 := blk_grown' gs1 hrx1 (by intro e; have := Option.some.inj e; omega); have hB2 : Below w.heap.size w (w1.setCell ⟨w.heap.size, 0, none⟩ (.slice A1 nk c1)) := hB1.setCell (Nat.le_refl _) _; have hown2 := hown1.other gs1 (.inr (hown1.ne_blk hbx1 (by decide))); have hv2 := hv.below hB2; have q2 := box_at hbx2 4 (.slice Av nv cv) rfl)
    | (at_builtin; go_loud (refine wpB_append w _ w.heap.size rfl _ (.tmp 8) rfl (.slice none 0 0) [] rfl (OB.nil _ _) Av nv cv val rfl hv2 (by simp; omega) hB2 hB2.size ?_); intro v3 w3 hown3 hB3 hg3 _; rw [List.nil_append] at hown3; obtain ⟨A3, c3, rfl, _, _⟩ := hown3.openN nv hnv; have hg3 := below_of_none hg3; have hbx3 := blk_below hg3 hbx2; have hrx3 := blk_below hg3 hrx2; have hown4 := hown2.below hg3; have q3 := box_at hbx3 4 (.slice Av nv cv) rfl; have f3 := fun i => frozen_of_row w3 w.heap.size i _ _ hbx3; have gs3 := grown_set w3 w.heap.size 4 (.slice A3 nv c3); have hbx4 := heap_setCell_same w3 w.heap.size 4 _ _ (.slice A3 nv c3) hbx3; have hrx4 := blk_grown' gs3 hrx3 (by intro e; have := Option.some.inj e; omega); have hB4 : Below w.heap.size w (w3.setCell ⟨w.heap.size, 4, none⟩ (.slice A3 nv c3)) := hB3.setCell (Nat.le_refl _) _; have hown5 := hown4.other gs3 (.inr (hown4.ne_blk hbx3 (by decide))); have hown6 := hown3.other gs3 (.inr (hown3.ne_blk hbx3 (by decide))); have r0 := box_at hbx4 0 (.slice A1 nk c1) rfl; have r1 := box_at hbx4 1 (.int .i64 s) rfl; have r2 := box_at hbx4 2 (.bool g) rfl; have r3 := box_at hbx4 3 (.int .i64 u) rfl; have r4 := box_at hbx4 4 (.slice A3 nv c3) rfl; have z0 := box_at hrx4 0 (.slice none 0 0) rfl; have z1 := box_at hrx4 1 (.int .i64 0) rfl; have z2 := box_at hrx4 2 (.bool false) rfl; have z3 := box_at hrx4 3 (.int .i64 0) rfl; have z4 := box_at hrx4 4 (.slice none 0 0) rfl; have f4 := fun i => frozen_of_row _ (w.heap.size + 1) i _ _ hrx4))
  have hfin := set5 (.slice A1 nk c1) (.int .i64 s) (.bool g) (.int .i64 u) (.slice A3 nv c3) hrx4
  have hgf := grown_set5 (w3.setCell ⟨w.heap.size, 4, none⟩ (.slice A3 nv c3)) (w.heap.size + 1) (.slice A1 nk c1) (.int .i64 s) (.bool g) (.int .i64 u) (.slice A3 nv c3)
  refine bodyPost_ret (v := .agg #[.slice A1 nk c1, .int .i64 s, .bool g, .int .i64 u, .slice A3 nv c3]) (results_cell_row (P := Tryd.prog) (fn := Tryd.f42) (p := 2) (ty := 29) rfl _ _ (w.heap.size + 1) 29 _ (0, 0) _ rfl hfin Tryd.underlying29 rfl entry5) rfl ⟨_, _, rfl, ?_, ?_, ?_⟩
  · exact hown5.other hgf (.inr (hown5.ne_blk hrx4 (by decide)))
  · exact hown6.other hgf (.inr (hown6.ne_blk hrx4 (by decide)))
  · exact hB4.grown hgf hB4.size (fun k hk => by cases hk; omega)

/-- A table that is read. -/
def TabR (w : World) (bt : Nat) (es : List EntR) (fil : List UInt8) : Prop := ∃ A n c Af m cf, w.heap[bt]? = some (.cells #[.slice A n c, .slice Af m cf] 76 (0, 0)) ∧ REnts w A n es ∧ n ≤ c ∧ RB w Af m fil ∧ m ≤ cf
theorem TabM.reads {w : World} {base bt : Nat} {es : List EntR} {fil : List UInt8} (h : TabM w base bt es fil) : TabR w bt es fil := by
  obtain ⟨lv, fv, h1, _, h2, h3⟩ := h
  obtain ⟨A, c, rfl, hc, hr⟩ := h2.len h2.len_lt
  obtain ⟨Af, cf, rfl, hrf, hcf⟩ := h3.open_
  exact ⟨A, _, c, Af, _, cf, h1, hr, hc, hrf, hcf⟩
theorem TabR.below {w w' : World} {bt : Nat} {es : List EntR} {fil : List UInt8} (h : TabR w bt es fil) (hb : Below w.heap.size w w') : TabR w' bt es fil := by
  obtain ⟨A, n, c, Af, m, cf, h1, h2, h3, h4, h5⟩ := h
  exact ⟨A, n, c, Af, m, cf, blk_below hb h1, h2.below hb, h3, h4.below hb, h5⟩
set_option maxHeartbeats 4000000 in
set_option maxRecDepth 100000 in
theorem tlen_any (bt : Nat) (es : List EntR) (fil : List UInt8) (w : World) (h : TabR w bt es fil) :
    Calls Tryd.prog 20 #[.pointer (some ⟨bt, 0, none⟩)] w fun r w' => r = .returned (.int .i64 (es.length : Int)) ∧ w = w' := by
  obtain ⟨A, n, c, Af, m, cf, h1, h2, _⟩ := h
  have q0 := box_at h1 0 _ rfl
  have HL := hid h2.1
  clear h1 h2
  go_enter Tryd.func20, Tryd.ntmps20
  go_wp2
  go_ret
  exact ⟨by rw [HL.out]; rfl, rfl⟩
set_option maxHeartbeats 4000000 in
set_option maxRecDepth 100000 in
theorem tmay_any (bt : Nat) (es : List EntR) (fil : List UInt8) (Ar : Option Addr) (nr cr : Nat) (key : List UInt8) (w : World) (h : TabR w bt es fil) (hk : RB w Ar nr key) :
    Calls Tryd.prog 40 #[.pointer (some ⟨bt, 0, none⟩), .slice Ar nr cr] w fun r w' => r = .returned (.bool (hasB fil key)) ∧ Below w.heap.size w w' := by
  obtain ⟨A, n, c, Af, m, cf, h1, _, _, h4, _⟩ := h
  have q1 := box_at h1 1 _ rfl
  have H4 := hid h4
  have HK := hid hk
  clear h1 h4 hk
  go_enter Tryd.func40, Tryd.ntmps40
  go_wp2_with (go_at_call 57; (with_reducible refine (has_any Af m cf fil Ar nr cr key _ H4.out HK.out).mono ?_); rintro e w1 ⟨rfl, hb1⟩)
  go_ret
  exact ⟨rfl, hb1⟩
theorem run_field0 (kv vv : Value) (a b d : Value) (w : World) : (Instr.field 29 (.agg #[kv, a, b, d, vv]) 0).run Tryd.prog w = .ok kv w := by kernel_rfl
/-- What Least and Most answer. -/
def KeyA (w w' : World) (key : List UInt8) (r : Ending) : Prop := ∃ A n c, r = .returned (.slice A n c) ∧ RB w' A n key ∧ n ≤ c ∧ Below w.heap.size w w'
set_option maxHeartbeats 8000000 in
set_option maxRecDepth 100000 in
theorem tmost_any (bt : Nat) (es : List EntR) (fil : List UInt8) (w : World) (h : TabR w bt es fil) (hne : 1 ≤ es.length) (hm : AllM es) :
    Calls Tryd.prog 21 #[.pointer (some ⟨bt, 0, none⟩)] w fun r w' => KeyA w w' (eKey (elt noEnt es (es.length - 1))) r := by
  have HT := hid h
  obtain ⟨A, n, c, Af, m, cf, h1, h2, hc, _⟩ := h
  have hn := h2.1
  have hmax := h2.2.1
  have q0 := box_at h1 0 _ rfl
  obtain ⟨j, hj⟩ : ∃ j, es.length - 1 = j := ⟨_, rfl⟩
  rw [hj]
  have hji : (n : Int) - 1 = (j : Int) := by omega
  have hjn : j < n := by omega
  have hws : IntKind.i64.wrap (j : Int) = (j : Int) := by rw [IntKind.wrap_i64]; omega
  obtain ⟨ad, rfl, hen⟩ := h2.at_ hjn
  have hmx := mayE_cases (hm j (by omega))
  generalize elt noEnt es j = x at *
  obtain ⟨Ak, nk, ck, Av, nv, cv, a0, a1, a2, a3, a4, a5, a6, a7, a8⟩ := hen
  have e5 := a5.1
  have e6 := a6.1
  have hnk : nk ≤ 140737488355328 := by omega
  have hnv : nv ≤ 140737488355328 := by omega
  have HKV := hid (⟨a5, a6⟩ : _ ∧ _)
  have hzz : ((es.length : Int) == 0) = false := by rw [beq_eq_false_iff_ne]; omega
  clear h1 h2 a5 a6 hm hmx e5 e6 hj
  go_enter Tryd.func21, Tryd.ntmps21
  go_wp2_with (go_at_call 20; (with_reducible refine (tlen_any bt es fil _ HT.out).mono ?_); rintro e w1 ⟨rfl, rfl⟩)
  go_still_tail 12, (by kernel_rfl)
  change wpList _ _ _ _ _ w.drew
  have hbd : Below w.heap.size w w.drew := below_drew (Below.refl _ _)
  have HKd := hid (⟨HKV.out.1.drew, HKV.out.2.drew⟩ : _ ∧ _)
  generalize w.drew = w2 at *
  go_wp2_with (go_at_call 42; (with_reducible refine (town_any Ak nk ck (eKey x) (eSeq x) (eGone x) (eTil x) Av nv cv (eVal x) _ HKd.out.1 HKd.out.2 hnk hnv).mono ?_); rintro r w4 ⟨kv, vv, rfl, ok1, ov1, hb4⟩; obtain ⟨A4, c4, rfl, hr4, hc4⟩ := ok1.open_; have hfd := run_field0 (.slice A4 (eKey x).length c4) vv (.int .i64 (eSeq x)) (.bool (eGone x)) (.int .i64 (eTil x)) w4)
  go_ret
  exact ⟨_, _, _, rfl, hr4, hc4, below_then hbd hb4⟩
end Go.Proofs.YtkkclkknpjapcaaDoor
/-! ### TbN -/
namespace Go.Proofs.YtkkclkknpjapcaaDoor
open Go.RowKit
set_option linter.unusedVariables false
set_option linter.unusedSimpArgs false

set_option maxHeartbeats 16000000 in
set_option maxRecDepth 100000 in
theorem tfirst_fn (bt : Nat) (es : List EntR) (fil : List UInt8) (b1 b2 b3 : Nat) (Ar : Option Addr) (nr cr : Nat) (key : List UInt8) (s : Int) (w : World) (h : TabR w bt es fil) (h1 : w.cell? ⟨b1, 0, none⟩ = some (.pointer (some ⟨bt, 0, none⟩))) (h2 : w.cell? ⟨b2, 0, none⟩ = some (.slice Ar nr cr)) (h3 : w.cell? ⟨b3, 0, none⟩ = some (.int .i64 s)) (hk : RB w Ar nr key) (i : Nat) (hi : i < es.length) :
    Calls Tryd.prog 59 #[.int .i64 i, .pointer (some ⟨b1, 0, none⟩), .pointer (some ⟨b2, 0, none⟩), .pointer (some ⟨b3, 0, none⟩)] w fun e w' => e = .returned (.bool (!aheadK (elt noEnt es i) key s)) ∧ Below w.heap.size w w' := by
  obtain ⟨A, n, c, Af, m, cf, hbx, hre, hc, _⟩ := h
  have hn := hre.1
  have hmax := hre.2.1
  have q0 := box_at hbx 0 _ rfl
  obtain ⟨ad, rfl, hen⟩ := hre.at_ (show i < n by omega)
  have hin : i < n := by omega
  generalize elt noEnt es i = x at *
  obtain ⟨Ak, nk, ck, Av, nv, cv, a0, a1, a2, a3, a4, a5, a6, a7, a8⟩ := hen
  obtain ⟨C, hC⟩ : ∃ C, cmpB (eKey x) key = C := ⟨_, rfl⟩
  have HC := hid hC
  have hz := cmpB_zero (eKey x) key
  have hcb := cmpB_bound (eKey x) key
  rw [hC] at hz hcb
  have HA : Hid (aheadK x key s = true ↔ (C < 0 ∨ (C = 0 ∧ s < eSeq x))) := by
    unfold Hid
    rw [aheadK_iff, hC, hz]
  have HK := hid a5
  have HR := hid hk
  clear hC hz hk hbx hre a5 a6 hn hi
  rcases (by omega : C < 0 ∨ C = 0 ∨ 0 < C) with hC0 | hC0 | hC0
  · have hd1 : decide ((0 : Int) < C) = false := decide_eq_false (by omega)
    have hd2 : (C == 0) = false := by rw [beq_eq_false_iff_ne]; omega
    have HF : Hid (aheadK x key s = true) := hid (HA.out.2 (.inl hC0))
    clear hC0 hcb
    go_enter Tryd.func59, Tryd.ntmps59
    go_wp2
    go_quiet (first | (go_at_call 44; refine Calls.quiet_of_same (v := .int .i64 C) ((compare_any Ak nk ck (eKey x) Ar nr cr key _ (HK.out.drewN _) (HR.out.drewN _)).mono ?_); rintro r w1 ⟨rfl, rfl⟩; exact ⟨(by rw [HC.out]), rfl⟩))
    go_wp2
    go_quiet (fail)
    go_wp2
    go_ret
    exact ⟨by rw [HF.out]; rfl, by first | exact below_drewN (Below.refl _ _) _ | exact below_drewN (below_drewN (Below.refl _ _) _) _⟩
  · subst hC0
    by_cases hs : eSeq x ≤ s
    · have hd1 : decide (eSeq x ≤ s) = true := decide_eq_true hs
      have HF : Hid (aheadK x key s = false) := hid (by
        cases hq : aheadK x key s
        · rfl
        · have := HA.out.1 hq; omega)
      clear hcb
      go_enter Tryd.func59, Tryd.ntmps59
      go_wp2
      go_quiet (first | (go_at_call 44; refine Calls.quiet_of_same (v := .int .i64 0) ((compare_any Ak nk ck (eKey x) Ar nr cr key _ (HK.out.drewN _) (HR.out.drewN _)).mono ?_); rintro r w1 ⟨rfl, rfl⟩; exact ⟨(by rw [HC.out]), rfl⟩))
      go_wp2
      go_quiet (fail)
      go_wp2
      go_ret
      exact ⟨by rw [HF.out]; rfl, by first | exact below_drewN (Below.refl _ _) _ | exact below_drewN (below_drewN (Below.refl _ _) _) _⟩
    · have hd1 : decide (eSeq x ≤ s) = false := decide_eq_false hs
      have HF : Hid (aheadK x key s = true) := hid (HA.out.2 (.inr ⟨rfl, by omega⟩))
      clear hs hcb
      go_enter Tryd.func59, Tryd.ntmps59
      go_wp2
      go_quiet (first | (go_at_call 44; refine Calls.quiet_of_same (v := .int .i64 0) ((compare_any Ak nk ck (eKey x) Ar nr cr key _ (HK.out.drewN _) (HR.out.drewN _)).mono ?_); rintro r w1 ⟨rfl, rfl⟩; exact ⟨(by rw [HC.out]), rfl⟩))
      go_wp2
      go_quiet (fail)
      go_wp2
      go_ret
      exact ⟨by rw [HF.out]; rfl, by first | exact below_drewN (Below.refl _ _) _ | exact below_drewN (below_drewN (Below.refl _ _) _) _⟩
  · have hd1 : decide ((0 : Int) < C) = true := decide_eq_true hC0
    have HF : Hid (aheadK x key s = false) := hid (by
        cases hq : aheadK x key s
        · rfl
        · have := HA.out.1 hq; omega)
    clear hcb
    go_enter Tryd.func59, Tryd.ntmps59
    go_wp2
    go_quiet (first | (go_at_call 44; refine Calls.quiet_of_same (v := .int .i64 C) ((compare_any Ak nk ck (eKey x) Ar nr cr key _ (HK.out.drewN _) (HR.out.drewN _)).mono ?_); rintro r w1 ⟨rfl, rfl⟩; exact ⟨(by rw [HC.out]), rfl⟩))
    go_wp2
    go_quiet (fail)
    go_wp2
    go_ret
    exact ⟨by rw [HF.out]; rfl, by first | exact below_drewN (Below.refl _ _) _ | exact below_drewN (below_drewN (Below.refl _ _) _) _⟩
/-- What first answers. -/
def FstC (w w' : World) (es : List EntR) (key : List UInt8) (s : Int) (r : Ending) : Prop := ∃ m : Nat, r = .returned (.int .i64 (m : Int)) ∧ PosA es key s m ∧ Below w.heap.size w w'
set_option maxHeartbeats 16000000 in
set_option maxRecDepth 100000 in
theorem tfirst_any (bt : Nat) (es : List EntR) (fil : List UInt8) (Ar : Option Addr) (nr cr : Nat) (key : List UInt8) (s : Int) (w : World) (h : TabR w bt es fil) (hk : RB w Ar nr key) (hs : Srt es) (hn : es.length ≤ 1000000) :
    Calls Tryd.prog 41 #[.pointer (some ⟨bt, 0, none⟩), .slice Ar nr cr, .int .i64 s] w fun r w' => FstC w w' es key s r := by
  have hB1 := below_alloc' (Below.refl w.heap.size w) (.cells #[.pointer (some ⟨bt, 0, none⟩)] 34)
  have e1 : (w.alloc (.cells #[.pointer (some ⟨bt, 0, none⟩)] 34)).heap.size = w.heap.size + 1 := by simp
  have hx1 := heap_alloc_new w (.cells #[.pointer (some ⟨bt, 0, none⟩)] 34)
  generalize hW1 : w.alloc (.cells #[.pointer (some ⟨bt, 0, none⟩)] 34) = W1 at *
  have hB2 := below_alloc' (Below.refl W1.heap.size W1) (.cells #[.slice Ar nr cr] 23)
  have hx2 := heap_alloc_new W1 (.cells #[.slice Ar nr cr] 23)
  have hx1 := blk_below hB2 hx1
  have e2 : (W1.alloc (.cells #[.slice Ar nr cr] 23)).heap.size = w.heap.size + 1 + 1 := by simp [e1]
  rw [e1] at hx2
  generalize hW2 : W1.alloc (.cells #[.slice Ar nr cr] 23) = W2 at *
  have hB3 := below_alloc' (Below.refl W2.heap.size W2) (.cells #[.int .i64 s] 2)
  have hx3 := heap_alloc_new W2 (.cells #[.int .i64 s] 2)
  have hx1 := blk_below hB3 hx1
  have hx2 := blk_below hB3 hx2
  rw [e2] at hx3
  have hBw := below_then (below_then hB1 hB2) hB3
  have HT := hid (h.below hBw)
  have HK := hid (hk.below hBw)
  have HSr := hid hs
  go_enter Tryd.func41, Tryd.ntmps41
  go_upto_region 1 with fail
  try rw [hW1]
  try rw [hW2]
  generalize W2.alloc (.cells #[.int .i64 s] 2) = W3 at *
  clear hB1 hB2 hB3 e1 e2 hW1 hW2 h hk hs
  have HF : Hid (∀ W, Below W3.heap.size W3 W → TabR W bt es fil ∧ W.heap[w.heap.size]? = some (.cells #[.pointer (some ⟨bt, 0, none⟩)] 34 (0, 0)) ∧ W.heap[w.heap.size + 1]? = some (.cells #[.slice Ar nr cr] 23 (0, 0)) ∧ W.heap[w.heap.size + 1 + 1]? = some (.cells #[.int .i64 s] 2 (0, 0)) ∧ RB W Ar nr key ∧ Below w.heap.size w W) := hid (fun W hb => ⟨HT.out.below hb, blk_below hb hx1, blk_below hb hx2, blk_below hb hx3, HK.out.below hb, below_then hBw hb⟩)
  have HS : Hid (∀ W, Below W3.heap.size W3 W → Calls Tryd.prog 58 #[.int .i64 (es.length : Int), .func (.func 59) #[] #[.pointer (some ⟨w.heap.size, 0, none⟩), .pointer (some ⟨w.heap.size + 1, 0, none⟩), .pointer (some ⟨w.heap.size + 1 + 1, 0, none⟩)]] W fun e w' => SrC W w' es.length (fun i => !aheadK (elt noEnt es i) key s) e) := hid (by
    intro W hb
    refine search_any 59 _ es.length _ W (fun args u => by rfl) (by omega) (fun i u hu hi => ?_) (fun a b h1 h2 h3 => ahead_mono HSr.out h1 h2 h3)
    obtain ⟨q1, q2, q3, q4, q5, q6⟩ := HF.out u (below_then hb hu)
    exact tfirst_fn bt es fil w.heap.size (w.heap.size + 1) (w.heap.size + 1 + 1) Ar nr cr key s u q1 (box_at q2 0 _ rfl) (box_at q3 0 _ rfl) (box_at q4 0 _ rfl) q5 i hi)
  have c0 := box_at hx1 0 _ rfl
  clear hx1 hx2 hx3 HK HSr hBw
  go_wp2_with (first
    | (go_at_call 20; (with_reducible refine (tlen_any bt es fil _ HT.out).mono ?_); rintro e w1 ⟨rfl, rfl⟩)
    | (go_at_call 58; (with_reducible refine (HS.out _ (by first | assumption | exact Below.refl _ _)).mono ?_); rintro r w6 ⟨m, rfl, hm1, hm2, hm3, hb6⟩))
  go_ret
  exact ⟨m, rfl, ⟨hm1, fun t ht => by have := hm2 t ht; simpa using this, fun t h1 h2 => by have := hm3 t h1 h2; simpa using this⟩, (HF.out _ hb6).2.2.2.2.2⟩
end Go.Proofs.YtkkclkknpjapcaaDoor
/-! ### BlV -/
namespace Go.Proofs.YtkkclkknpjapcaaDoor
open Go.RowKit
set_option linter.unusedVariables false
set_option linter.unusedSimpArgs false

def Few (n : Nat) (xss : List (List UInt8)) : Prop := n ≤ 200 ∧ ∀ j, j < n → (elt [] xss j).length ≤ 2000
def fewB (n : Nat) (xss : List (List UInt8)) : Bool := decide (n ≤ 200) && (List.range n).all fun j => decide ((elt [] xss j).length ≤ 2000)
theorem fewB_iff (n : Nat) (xss : List (List UInt8)) : fewB n xss = true ↔ Few n xss := by
  unfold fewB Few
  simp only [Bool.and_eq_true, decide_eq_true_eq, List.all_eq_true, List.mem_range]
theorem fewB_no {n : Nat} {xss : List (List UInt8)} (h : ¬ Few n xss) : fewB n xss = false := by
  cases hb : fewB n xss
  · rfl
  · exact absurd ((fewB_iff n xss).1 hb) h
end Go.Proofs.YtkkclkknpjapcaaDoor
/-! ### BlM -/
namespace Go.Proofs.YtkkclkknpjapcaaDoor
open Go.RowKit
set_option linter.unusedVariables false
set_option linter.unusedSimpArgs false

theorem sliceinfo : (Tryd.prog.info? 23).map (fun i => (i.zero, i.size, i.bytes)) = some (some (.slice none 0 0), 1, 24) := by kernel_rfl
theorem buildmany_any (A : Option Addr) (n c : Nat) (w : World) (hn : 100000 < n) (h63 : n ≤ 9223372036854775807) :
    Calls Tryd.prog 33 #[.slice A n c] w fun e w' => e = .returned (.tuple #[.slice none 0 0, .int .i64 13]) ∧ w = w' := by
  go_enter Tryd.func33, Tryd.ntmps33
  go_wp2
  go_ret2
  exact ⟨rfl, rfl⟩
theorem RBs.nils (w : World) (N : Nat) (hN : N ≤ 9223372036854775807) : RBs (w.alloc (.cells (madeCells #[.slice none 0 0] N) 23)) (some ⟨w.heap.size, 0, none⟩) N (List.replicate N []) := by
  refine ⟨by simp, hN, fun _ => ⟨_, rfl, fun j hj => ⟨none, 0, 0, ?_, ?_, Nat.le_refl _⟩⟩⟩
  · rw [add_plain, Nat.zero_add, cell_of_row _ _ _ _ _ _ (heap_alloc_new w _)]
    simp [madeCells, hj, Nat.mod_one]
  · have : elt ([] : List UInt8) (List.replicate N []) j = [] := by simp [elt, hj]
    rw [this]
    exact RB.nil _
theorem filterB_len (xss : List (List UInt8)) : (filterB xss).length = sizeF xss.length := fillUpto_len _ _ _ _

end Go.Proofs.YtkkclkknpjapcaaDoor
/-! ### BlN -/
namespace Go.Proofs.YtkkclkknpjapcaaDoor
open Go.RowKit
set_option linter.unusedVariables false
set_option linter.unusedSimpArgs false

theorem bitAt_tb (bs : List UInt8) (p : Nat) : bitAt bs p = 1 ↔ Nat.testBit (bAt bs (p / 8)) (p % 8) = true := by
  rw [Nat.testBit_eq_decide_div_mod_eq]
  unfold bitAt
  simp
theorem bAt_set {b : List UInt8} {i : Nat} {y : UInt8} (hi : i < b.length) (j : Nat) : bAt (b.set i y) j = if i = j then y.toNat else bAt b j := by
  unfold bAt
  by_cases h : i = j
  · subst h; simp [hi]
  · simp [List.getElem?_set, h]
theorem setBit_at {b : List UInt8} {p : Nat} (hp : p / 8 < b.length) (q : Nat) : bitAt (setBit b p) q = 1 ↔ bitAt b q = 1 ∨ q = p := by
  rw [bitAt_tb, bitAt_tb]
  unfold setBit
  rw [bAt_set hp]
  have hx := bAt_lt b (p / 8)
  have hp8 : 2 ^ (p % 8) < 256 := Nat.lt_of_le_of_lt (Nat.pow_le_pow_right (by omega) (show p % 8 ≤ 7 by omega)) (by decide)
  have hl : bAt b (p / 8) ||| 2 ^ (p % 8) < 256 := Nat.or_lt_two_pow (n := 8) hx hp8
  by_cases h : p / 8 = q / 8
  · rw [if_pos h, UInt8.toNat_ofNat', Nat.mod_eq_of_lt hl, Nat.testBit_or, Nat.testBit_two_pow, ← h]
    simp only [Bool.or_eq_true, decide_eq_true_eq]
    constructor
    · rintro (h1 | h1)
      · exact .inl h1
      · exact .inr (by omega)
    · rintro (h1 | h1)
      · exact .inl h1
      · exact .inr (by omega)
  · rw [if_neg h]
    constructor
    · exact .inl
    · rintro (h1 | h1)
      · exact h1
      · exact absurd (by rw [h1]) h
theorem addUpto_bit {b : List UInt8} {M h : Nat} (hM : M = 8 * b.length) (hM0 : 0 < M) (q : Nat) : ∀ j, bitAt (addUpto b M h j) q = 1 ↔ bitAt b q = 1 ∨ ∃ i, i < j ∧ place h M i = q := by
  intro j
  induction j with
  | zero =>
    constructor
    · exact .inl
    · rintro (h1 | ⟨i, hi, _⟩)
      · exact h1
      · omega
  | succ j ih =>
    have hpl := place_lt (h := h) j hM0
    rw [addUpto, setBit_at (by rw [addUpto_len]; omega), ih]
    constructor
    · rintro ((h1 | ⟨i, hi, h2⟩) | h1)
      · exact .inl h1
      · exact .inr ⟨i, by omega, h2⟩
      · exact .inr ⟨j, by omega, h1.symm⟩
    · rintro (h1 | ⟨i, hi, h2⟩)
      · exact .inl (.inl h1)
      · by_cases hij : i = j
        · subst hij; exact .inr h2.symm
        · exact .inl (.inr ⟨i, by omega, h2⟩)
theorem fillUpto_bit {xss : List (List UInt8)} {S : Nat} (hS : 0 < S) (q : Nat) : ∀ k, bitAt (fillUpto xss (8 * S) S k) q = 1 ↔ ∃ i j, i < k ∧ j < 6 ∧ place (hashN (elt [] xss i)) (8 * S) j = q := by
  intro k
  induction k with
  | zero =>
    constructor
    · intro h
      have h0 : bAt (List.replicate S (0 : UInt8)) (q / 8) = 0 := by
        unfold bAt
        by_cases hq : q / 8 < S <;> simp [List.getElem?_replicate, hq]
      simp only [fillUpto, bitAt, h0, Nat.zero_div] at h
      omega
    · rintro ⟨i, _, hi, _⟩
      omega
  | succ k ih =>
    rw [fillUpto, addKey, addUpto_bit (by rw [fillUpto_len]) (by omega), ih]
    constructor
    · rintro (⟨i, j, hi, hj, h1⟩ | ⟨j, hj, h1⟩)
      · exact ⟨i, j, by omega, hj, h1⟩
      · exact ⟨k, j, by omega, hj, h1⟩
    · rintro ⟨i, j, hi, hj, h1⟩
      by_cases hik : i = k
      · subst hik; exact .inr ⟨j, hj, h1⟩
      · exact .inl ⟨i, j, by omega, hj, h1⟩
theorem bytes_ext {a b : List UInt8} (hl : a.length = b.length) (h : ∀ i, bAt a i = bAt b i) : a = b := by
  apply List.ext_getElem hl
  intro i h1 h2
  have := h i
  rw [bAt_get h1, bAt_get h2] at this
  exact UInt8.toNat_inj.1 this
theorem bits_ext {a b : List UInt8} (hl : a.length = b.length) (h : ∀ q, bitAt a q = 1 ↔ bitAt b q = 1) : a = b := by
  apply bytes_ext hl
  intro i
  apply Nat.eq_of_testBit_eq
  intro t
  by_cases ht : t < 8
  · have := h (8 * i + t)
    rw [bitAt_tb, bitAt_tb, show (8 * i + t) / 8 = i by omega, show (8 * i + t) % 8 = t by omega] at this
    exact Bool.eq_iff_iff.2 this
  · have h2 : 256 ≤ 2 ^ t := by
      have := Nat.pow_le_pow_right (show 0 < 2 by omega) (show 8 ≤ t by omega)
      exact this
    rw [Nat.testBit_lt_two_pow (Nat.lt_of_lt_of_le (bAt_lt a i) h2), Nat.testBit_lt_two_pow (Nat.lt_of_lt_of_le (bAt_lt b i) h2)]
theorem sizeF_pos (n : Nat) : 8 ≤ sizeF n := by unfold sizeF; split <;> omega
theorem sizeF_mono {n m : Nat} (h : n ≤ m) : sizeF n ≤ sizeF m := by unfold sizeF; split <;> split <;> omega
/-- The order of the keys makes no difference. -/
theorem filterB_same {xss yss : List (List UInt8)} (hl : xss.length = yss.length) (h1 : ∀ i, i < xss.length → ∃ j, j < xss.length ∧ elt [] yss j = elt [] xss i) (h2 : ∀ i, i < xss.length → ∃ j, j < xss.length ∧ elt [] xss j = elt [] yss i) : filterB xss = filterB yss := by
  apply bits_ext (by rw [filterB_len, filterB_len, hl])
  intro q
  have hS := sizeF_pos yss.length
  unfold filterB
  rw [hl, fillUpto_bit (by omega), fillUpto_bit (by omega)]
  constructor
  · rintro ⟨i, j, hi, hj, e⟩
    obtain ⟨i', hi', e'⟩ := h1 i (by omega)
    exact ⟨i', j, by omega, hj, by rw [e']; exact e⟩
  · rintro ⟨i, j, hi, hj, e⟩
    obtain ⟨i', hi', e'⟩ := h2 i (by omega)
    exact ⟨i', j, by omega, hj, by rw [e']; exact e⟩
/-- What was put in is never missed. -/
theorem hasB_in {xss : List (List UInt8)} {k : List UInt8} {i : Nat} (hi : i < xss.length) (e : elt [] xss i = k) : hasB (filterB xss) k = true := by
  unfold hasB
  split
  · rfl
  · rw [List.all_eq_true]
    intro j hj
    have hj6 : j < 6 := by simpa using hj
    have hS := sizeF_pos xss.length
    rw [filterB_len, beq_iff_eq]
    unfold filterB
    rw [fillUpto_bit (by omega)]
    exact ⟨i, j, hi, hj6, by rw [e]⟩
end Go.Proofs.YtkkclkknpjapcaaDoor
