/- Layer 16: iterators: New, Left, Next. -/
import Derived.Test.YtnjhiiakpndnnaaMgV
import Derived.StillTailTactics
namespace Go.Proofs.Ytnjhiiakpndnnaa
open Go.RowKit
set_option linter.unusedVariables false
set_option linter.unusedSimpArgs false

/-- An iterator in memory, made in the world w4: its row, and how far it has come. -/
def IterJ (w4 wr : World) (A : Option Addr) (c : Nat) (o : List EntR) (k : Nat) : Prop :=
  REnts w4 A o.length o ∧ o.length ≤ c ∧ k ≤ o.length ∧ Below w4.heap.size w4 wr ∧ wr.heap[w4.heap.size]? = some (.cells #[.slice A o.length c, .int .i64 (k : Int)] 67 (0, 0))
theorem IterJ.below {w4 wr w' : World} {A : Option Addr} {c : Nat} {o : List EntR} {k : Nat} (h : IterJ w4 wr A c o k) (hb : Below wr.heap.size wr w') : IterJ w4 w' A c o k :=
  ⟨h.1, h.2.1, h.2.2.1, below_then h.2.2.2.1 hb, blk_below hb h.2.2.2.2⟩
theorem IterJ.at_ {w4 wr : World} {A : Option Addr} {c : Nat} {o : List EntR} {k : Nat} (h : IterJ w4 wr A c o k) : wr.cell? ⟨w4.heap.size, 0, none⟩ = some (.slice A o.length c) ∧ wr.cell? ⟨w4.heap.size, 1, none⟩ = some (.int .i64 (k : Int)) ∧ w4.heap.size < wr.heap.size :=
  ⟨box_at h.2.2.2.2 0 _ rfl, box_at h.2.2.2.2 1 _ rfl, by
    rcases Nat.lt_or_ge w4.heap.size wr.heap.size with h1 | h1
    · exact h1
    · have := h.2.2.2.2; rw [Array.getElem?_eq_none h1] at this; cases this⟩
theorem IterJ.step {w4 wr : World} {A : Option Addr} {c : Nat} {o : List EntR} {k m : Nat} (h : IterJ w4 wr A c o k) (hm : m ≤ o.length) (z : Int) (hz : z = (m : Int)) : IterJ w4 (wr.setCell ⟨w4.heap.size, 1, none⟩ (.int .i64 z)) A c o m := by
  subst hz
  exact ⟨h.1, h.2.1, hm, h.2.2.2.1.setCell (Nat.le_refl _) _, heap_setCell_same wr w4.heap.size 1 _ _ _ h.2.2.2.2⟩
def NewC (w w' : World) (ess : List (List EntR)) (r : Ending) : Prop := ∃ w4 A c o, r = .returned (.tuple #[.pointer (some ⟨w4.heap.size, 0, none⟩), .int .i64 0]) ∧ MRel ess o ∧ IterJ w4 w' A c o 0 ∧ Below w.heap.size w w4
set_option maxHeartbeats 8000000 in
theorem new_any (A : Option Addr) (n c : Nat) (ess : List (List EntR)) (w : World) (h : REnss w A n ess) (hs : AllS n ess) (h6 : n ≤ 64) (hf : totR ess ≤ 40000) (hsm : SmallR ess) :
    Calls Try.prog 15 #[.slice A n c] w fun r w' => NewC w w' ess r := by
  have H := hid h
  have HS := hid hs
  have HM := hid hsm
  clear h hs hsm
  go_enter Try.func15, Try.ntmps15
  go_wp2_with (go_at_call 12; (with_reducible refine (merge_fine A n c ess _ H.out HS.out h6 hf HM.out).mono ?_); rintro r w3 ⟨A3, c3, o3, rfl, hm3, hc3, hr3, hb3⟩; have HM3 := hid hm3; have HR3 := hid hr3; clear hm3 hr3)
  go_ret2
  exact ⟨w3, A3, c3, o3, rfl, HM3.out, ⟨HR3.out, hc3, Nat.zero_le _, below_alloc' (Below.refl _ _) _, heap_alloc_new _ _⟩, hb3⟩
set_option maxHeartbeats 8000000 in
theorem new_many (A : Option Addr) (n c : Nat) (ess : List (List EntR)) (w : World) (h : REnss w A n ess) (hs : AllS n ess) (h6 : 64 < n) (hf : totR ess ≤ 40000) (hsm : SmallR ess) :
    Calls Try.prog 15 #[.slice A n c] w fun r w' => r = .returned (.tuple #[.pointer none, .int .i64 13]) ∧ Below w.heap.size w w' := by
  have H := hid h
  have HS := hid hs
  have HM := hid hsm
  clear h hs hsm
  go_enter Try.func15, Try.ntmps15
  go_wp2_with (go_at_call 12; (with_reducible refine (merge_want A n c ess _ H.out hf HM.out).mono ?_); rintro r w3 hw; obtain ⟨rfl, hb3⟩ := hw.many HS.out h6; clear hw)
  go_ret2
  exact ⟨rfl, hb3⟩
set_option maxHeartbeats 8000000 in
theorem left_any (w4 w : World) (A : Option Addr) (c : Nat) (o : List EntR) (k m : Nat) (h : IterJ w4 w A c o k) (hm : o.length = k + m) :
    Calls Try.prog 21 #[.pointer (some ⟨w4.heap.size, 0, none⟩)] w fun e w' => e = .returned (.int .i64 (m : Int)) ∧ Below w.heap.size w w' := by
  obtain ⟨c0, c1, _⟩ := h.at_
  have hmax := h.1.2.1
  have hws : (o.length : Int) - (k : Int) = (m : Int) := by omega
  have hwm : IntKind.i64.wrap (m : Int) = (m : Int) := by rw [IntKind.wrap_i64]; omega
  clear h
  go_enter Try.func21, Try.ntmps21
  go_wp2
  go_region
  all_goals
    go_wp2
    go_ret
    exact ⟨by first | rfl | (simp; omega), below_drew (Below.refl _ _)⟩
/-- What Next leaves where entries are left. -/
def NextC (w4 w' : World) (A : Option Addr) (c : Nat) (o : List EntR) (k : Nat) (x : EntR) (r : Ending) : Prop := ∃ Ak nk ck Av nv cv, r = .returned (.tuple #[.agg #[.slice Ak nk ck, .int .i64 (eSeq x), .bool (eGone x), .int .i64 (eTil x), .slice Av nv cv], .bool true]) ∧ RB w' Ak nk (eKey x) ∧ RB w' Av nv (eVal x) ∧ IterJ w4 w' A c o (k + 1)
theorem IterJ.grown {w4 wr w' : World} {A : Option Addr} {c : Nat} {o : List EntR} {k b : Nat} (h : IterJ w4 wr A c o k) (hg : wr.grownBy w' (some b)) (hb : w4.heap.size < b) : IterJ w4 w' A c o k :=
  ⟨h.1, h.2.1, h.2.2.1, h.2.2.2.1.grown hg h.2.2.2.1.size (fun k hk => by cases hk; omega), blk_grown' hg h.2.2.2.2 (by intro e; have := Option.some.inj e; omega)⟩
set_option maxHeartbeats 16000000 in
set_option maxRecDepth 100000 in
theorem next_any (w4 w : World) (A : Option Addr) (c : Nat) (o : List EntR) (k : Nat) (h : IterJ w4 w A c o k) (hk : k < o.length) (hs : (eKey (elt noEnt o k)).length ≤ 100000 ∧ (eVal (elt noEnt o k)).length ≤ 100000) :
    Calls Try.prog 16 #[.pointer (some ⟨w4.heap.size, 0, none⟩)] w fun r w' => NextC w4 w' A c o k (elt noEnt o k) r := by
  obtain ⟨m, hm⟩ : ∃ m, Hid (o.length = k + (m + 1)) := ⟨o.length - k - 1, hid (by omega)⟩
  have hmax := h.1.2.1
  have hlc := h.2.1
  have hsz := h.at_.2.2
  have hwk : IntKind.i64.wrap ((k : Int) + 1) = (k : Int) + 1 := by rw [IntKind.wrap_i64]; omega
  have hwk2 : IntKind.i64.wrap (k : Int) = (k : Int) := by rw [IntKind.wrap_i64]; omega
  have hB0 := below_alloc' (Below.refl w.heap.size w) (.cells #[.slice none 0 0, .int .i64 0, .bool false, .int .i64 0, .slice none 0 0] 35)
  have hbx := heap_alloc_new w (.cells #[.slice none 0 0, .int .i64 0, .bool false, .int .i64 0, .slice none 0 0] 35)
  have HJ0 := hid (h.below hB0)
  obtain ⟨ad, hA, hen⟩ := h.1.at_ hk
  subst hA
  generalize elt noEnt o k = x at *
  clear h
  go_enter Try.func16, Try.ntmps16
  go_wp2_with (go_at_call 21; (with_reducible refine (left_any w4 _ (some ad) c o k (m + 1) HJ0.out hm.out).mono ?_); rintro r w1 ⟨rfl, hb1⟩; have hJ1 := HJ0.out.below hb1; obtain ⟨c0, c1, _⟩ := hJ1.at_; have fz := fun i => frozen_of_row w1 w4.heap.size i _ _ hJ1.2.2.2.2; have hbx1 := blk_below hb1 hbx; have HJ2 := hid (hJ1.step (m := k + 1) (by omega) ((k : Int) + 1) (by push_cast; rfl)); have HB2 := hid (blk_grown' (grown_set w1 w4.heap.size 1 (.int .i64 ((k : Int) + 1))) hbx1 (by intro e; have := Option.some.inj e; omega)); clear hJ1 hbx1)
  have hJ2 := HJ2.out
  have hbx2 := HB2.out
  clear HB2 c0 c1 fz HJ0
  generalize hW : w1.setCell ⟨w4.heap.size, 1, none⟩ (.int .i64 ((k : Int) + 1)) = W2 at *
  clear hW
  obtain ⟨d0, d1, hsz2⟩ := hJ2.at_
  obtain ⟨Ak, nk, ck, Av, nv, cv, a0, a1, a2, a3, a4, a5, a6, a7, a8⟩ := hen.below hJ2.2.2.2.1
  have hkl : nk ≤ 140737488355328 := by have := a5.1; omega
  have hvl : nv ≤ 140737488355328 := by have := a6.1; omega
  have hd1 : W2.cell? ⟨w4.heap.size, 1, none⟩ = some (.int .i64 ((k : Int) + 1)) := by rw [d1]; push_cast; rfl
  clear d1
  have hbd : Below W2.heap.size W2 W2.drew := below_drew (Below.refl _ _)
  have HKV := hid (⟨a5.drew, a6.drew⟩ : _ ∧ _)
  have HJ3 := hid (hJ2.below hbd)
  have hbx3 := blk_below hbd hbx2
  clear hJ2 hbx2 hen a5 a6 HJ2
  go_still_tail 11, (by kernel_rfl)
  change wpList _ _ _ _ _ W2.drew
  generalize W2.drew = W3 at *
  go_wp2_with (go_at_call 27; (with_reducible refine (own_any Ak nk ck (eKey x) (eSeq x) (eGone x) (eTil x) Av nv cv (eVal x) W3 HKV.out.1 HKV.out.2 hkl hvl).mono ?_); rintro r w5 ⟨kv, vv, rfl, ok, ov, hb5⟩; obtain ⟨A5, c5, rfl, _, _⟩ := ok.open_; obtain ⟨A6, c6, rfl, _, _⟩ := ov.open_; have hbx5 := blk_below hb5 hbx3; have z0 := box_at hbx5 0 (.slice none 0 0) rfl; have z1 := box_at hbx5 1 (.int .i64 0) rfl; have z2 := box_at hbx5 2 (.bool false) rfl; have z3 := box_at hbx5 3 (.int .i64 0) rfl; have z4 := box_at hbx5 4 (.slice none 0 0) rfl; have f4 := fun i => frozen_of_row w5 w.heap.size i _ _ hbx5)
  have hfin := set5 (.slice A5 (eKey x).length c5) (.int .i64 (eSeq x)) (.bool (eGone x)) (.int .i64 (eTil x)) (.slice A6 (eVal x).length c6) hbx5
  have hgf := grown_set5 w5 w.heap.size (.slice A5 (eKey x).length c5) (.int .i64 (eSeq x)) (.bool (eGone x)) (.int .i64 (eTil x)) (.slice A6 (eVal x).length c6)
  have ok2 := ok.other hgf (.inr (ok.ne_blk hbx5 (by decide)))
  have ov2 := ov.other hgf (.inr (ov.ne_blk hbx5 (by decide)))
  exact bodyPost_ret (results_box2 (fn := Try.f16) (p := 2) (u := 3) (ty := 35) rfl _ _ w.heap.size 35 _ (0, 0) _ rfl hfin Try.underlying35 rfl entry5) rfl ⟨A5, _, c5, A6, _, c6, rfl, ok2.rb.1, ov2.rb.1, (HJ3.out.below hb5).grown hgf hsz⟩
set_option maxHeartbeats 8000000 in
theorem next_end (w4 w : World) (A : Option Addr) (c : Nat) (o : List EntR) (k : Nat) (h : IterJ w4 w A c o k) (hk : k = o.length) :
    Calls Try.prog 16 #[.pointer (some ⟨w4.heap.size, 0, none⟩)] w fun e w' => e = .returned (.tuple #[.agg #[.slice none 0 0, .int .i64 0, .bool false, .int .i64 0, .slice none 0 0], .bool false]) ∧ Below w.heap.size w w' := by
  have hbx := heap_alloc_new w (.cells #[.slice none 0 0, .int .i64 0, .bool false, .int .i64 0, .slice none 0 0] 35)
  have hB0 := below_alloc' (Below.refl w.heap.size w) (.cells #[.slice none 0 0, .int .i64 0, .bool false, .int .i64 0, .slice none 0 0] 35)
  have HJ0 := hid (h.below hB0)
  clear h
  go_enter Try.func16, Try.ntmps16
  go_wp2_with (go_at_call 21; (with_reducible refine (left_any w4 _ A c o k 0 HJ0.out (by omega)).mono ?_); rintro r w1 ⟨rfl, hb1⟩; have hbx1 := blk_below hb1 hbx; have z0 := box_at hbx1 0 (.slice none 0 0) rfl; have z1 := box_at hbx1 1 (.int .i64 0) rfl; have z2 := box_at hbx1 2 (.bool false) rfl; have z3 := box_at hbx1 3 (.int .i64 0) rfl; have z4 := box_at hbx1 4 (.slice none 0 0) rfl; have f4 := fun i => frozen_of_row w1 w.heap.size i _ _ hbx1)
  have hfin := set5 (.slice none 0 0) (.int .i64 0) (.bool false) (.int .i64 0) (.slice none 0 0) hbx1
  have hgf := grown_set5 w1 w.heap.size (.slice none 0 0) (.int .i64 0) (.bool false) (.int .i64 0) (.slice none 0 0)
  have hB1 := below_then hB0 hb1
  exact bodyPost_ret (results_box2 (fn := Try.f16) (p := 2) (u := 3) (ty := 35) rfl _ _ w.heap.size 35 _ (0, 0) _ rfl hfin Try.underlying35 rfl entry5) rfl ⟨rfl, hB1.grown hgf hB1.size (fun k hk => by cases hk; omega)⟩
end Go.Proofs.Ytnjhiiakpndnnaa
