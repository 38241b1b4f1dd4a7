/- Layer 11: Seek of a block. -/
import Derived.Test.YteediedhofapkaaBkS
import Derived.Test.YteediedhofapkaaBkB
namespace Go.Proofs.Yteediedhofapkaa
open Go.RowKit
set_option linter.unusedVariables false
set_option linter.unusedSimpArgs false

theorem addr_zero' (a : Addr) : a.add 0 = a := by simp [Addr.add]
theorem u8_not5 {w : World} {b : Nat} (hz : w.heap[b]? = some (.cells #[.slice none 0 0, .int .i64 0, .bool false, .int .i64 0, .slice none 0 0] 26 (0, 0))) {q : Addr} {x : Int} (hc : w.cell? q = some (.int .u8 x)) : q.block ≠ b := by
  intro e
  obtain ⟨bl, of, sp⟩ := q
  have hsp : sp = none := spot_of (ad := ⟨bl, of, sp⟩) (by rw [addr_zero']; exact hc)
  subst hsp
  change bl = b at e
  subst e
  rw [cell_of_row _ _ _ _ _ _ hz] at hc
  match of, hc with
  | 0, hc => cases hc
  | 1, hc => cases hc
  | 2, hc => cases hc
  | 3, hc => cases hc
  | 4, hc => cases hc
  | of + 5, hc => simp at hc
theorem RB.other5 {w w' : World} {A : Option Addr} {n b : Nat} {xs : List UInt8} (h : RB w A n xs) (hg : w.grownBy w' (some b)) (hz : w.heap[b]? = some (.cells #[.slice none 0 0, .int .i64 0, .bool false, .int .i64 0, .slice none 0 0] 26 (0, 0))) : RB w' A n xs := by
  refine h.keep fun ad _ j _ hc => ?_
  refine hg.cell hc ?_
  intro e
  exact u8_not5 hz hc (Option.some.inj e)
/-- The first place that is not ahead of a key and a number. -/
def PosA (L : List EntR) (key : List UInt8) (s : Int) (m : Nat) : Prop := m ≤ L.length ∧ (∀ t, t < m → aheadK (elt noEnt L t) key s = true) ∧ (∀ t, m ≤ t → t < L.length → aheadK (elt noEnt L t) key s = false)
theorem PosA.unique {L : List EntR} {key : List UInt8} {s : Int} {m k : Nat} (h : PosA L key s m) (hk : k ≤ L.length) (h1 : ∀ t, t < k → aheadK (elt noEnt L t) key s = true) (h2 : k < L.length → aheadK (elt noEnt L k) key s = false) : m = k := by
  rcases Nat.lt_trichotomy k m with h3 | h3 | h3
  · have a := h.2.1 k h3
    have b := h2 (by have := h.1; omega)
    rw [a] at b; cases b
  · exact h3.symm
  · have a := h1 m h3
    have b := h.2.2 m (Nat.le_refl _) (by omega)
    rw [a] at b; cases b
theorem ahead_mono {L : List EntR} (hs : Srt L) {key : List UInt8} {s : Int} {a b : Nat} (h1 : a ≤ b) (h2 : b < L.length) (h : (!aheadK (elt noEnt L a) key s) = true) : (!aheadK (elt noEnt L b) key s) = true := by
  rcases Nat.eq_or_lt_of_le h1 with h3 | h3
  · rw [← h3]; exact h
  · cases hq : aheadK (elt noEnt L b) key s
    · rfl
    · rw [ahead_trans (hs.at_ a b h3 h2) hq] at h
      cases h
def BkSeekC (w w' : World) (L : List EntR) (key : List UInt8) (s : Int) (r : Ending) : Prop := ∃ m, PosA L key s m ∧ Below w.heap.size w w' ∧
  ((m < L.length ∧ ∃ Ak nk ck Av nv cv, r = .returned (.tuple #[.agg #[.slice Ak nk ck, .int .i64 (eSeq (elt noEnt L m)), .bool (eGone (elt noEnt L m)), .int .i64 (eTil (elt noEnt L m)), .slice Av nv cv], .bool true]) ∧ RB w' Ak nk (eKey (elt noEnt L m)) ∧ RB w' Av nv (eVal (elt noEnt L m))) ∨
   (m = L.length ∧ r = .returned (.tuple #[.agg #[.slice none 0 0, .int .i64 0, .bool false, .int .i64 0, .slice none 0 0], .bool false])))
set_option maxHeartbeats 32000000 in
set_option maxRecDepth 100000 in
theorem bkseek_any (A : Option Addr) (n c : Nat) (L : List EntR) (Ar : Option Addr) (nr cr : Nat) (key : List UInt8) (s : Int) (w : World) (h : RB w A n (encK L)) (hc : n ≤ c) (hsz : n ≤ 100000000000) (hf : FitK L) (hk : RB w Ar nr key) :
    Calls Try.prog 12 #[.slice A n c, .slice Ar nr cr, .int .i64 s] w fun r w' => BkSeekC w w' L key s r := by
  have hB1 := below_alloc' (Below.refl w.heap.size w) (.cells #[.slice Ar nr cr] 23)
  have e1 : (w.alloc (.cells #[.slice Ar nr cr] 23)).heap.size = w.heap.size + 1 := by simp
  have hx1 := heap_alloc_new w (.cells #[.slice Ar nr cr] 23)
  generalize hW1 : w.alloc (.cells #[.slice Ar nr cr] 23) = W1 at *
  have hB2 := below_alloc' (Below.refl W1.heap.size W1) (.cells #[.int .i64 s] 2)
  have hx2 := heap_alloc_new W1 (.cells #[.int .i64 s] 2)
  have hx1 := blk_below hB2 hx1
  have e2 : (W1.alloc (.cells #[.int .i64 s] 2)).heap.size = w.heap.size + 1 + 1 := by simp [e1]
  rw [e1] at hx2
  generalize hW2 : W1.alloc (.cells #[.int .i64 s] 2) = W2 at *
  have hB3 := below_alloc' (Below.refl W2.heap.size W2) (.cells #[.slice none 0 0, .int .i64 0, .bool false, .int .i64 0, .slice none 0 0] 26)
  have hx3 := heap_alloc_new W2 (.cells #[.slice none 0 0, .int .i64 0, .bool false, .int .i64 0, .slice none 0 0] 26)
  have hx1 := blk_below hB3 hx1
  have hx2 := blk_below hB3 hx2
  rw [e2] at hx3
  have hBw := below_then (below_then hB1 hB2) hB3
  have HDc := hid (decode_enc A n c L _ (h.below hBw) hc hsz hf)
  have HK := hid (hk.below hBw)
  have HSr := hid hf.2.2.2
  have h400 := hf.2.1
  go_enter Try.func12, Try.ntmps12
  go_upto_region 1 with fail
  try rw [hW1]
  try rw [hW2]
  generalize W2.alloc (.cells #[.slice none 0 0, .int .i64 0, .bool false, .int .i64 0, .slice none 0 0] 26) = W3 at *
  clear hB1 hB2 hB3 e1 e2 hW1 hW2 h hk
  go_upto_region 2 with (go_at_call 8; (with_reducible refine (HDc.out).mono ?_); rintro r w4 ⟨A2, c2, rfl, hr4, hc4, hb4⟩; have HR4 := hid hr4; have HB4 := hid hb4; clear hr4 hb4)
  have hx8 := heap_alloc_new w4 (.cells #[.slice A2 L.length c2] 22)
  have hB8 := below_alloc' (Below.refl w4.heap.size w4) (.cells #[.slice A2 L.length c2] 22)
  have hB5 := below_then HB4.out hB8
  generalize w4.alloc (.cells #[.slice A2 L.length c2] 22) = W5 at *
  generalize hl8 : w4.heap.size = l8 at *
  have HF : Hid (∀ W, Below W5.heap.size W5 W → REnts W A2 L.length L ∧ W.heap[l8]? = some (.cells #[.slice A2 L.length c2] 22 (0, 0)) ∧ W.heap[w.heap.size]? = some (.cells #[.slice Ar nr cr] 23 (0, 0)) ∧ W.heap[w.heap.size + 1]? = some (.cells #[.int .i64 s] 2 (0, 0)) ∧ W.heap[w.heap.size + 1 + 1]? = some (.cells #[.slice none 0 0, .int .i64 0, .bool false, .int .i64 0, .slice none 0 0] 26 (0, 0)) ∧ RB W Ar nr key ∧ Below w.heap.size w W) := hid (fun W hb => by
    have hB4W : Below w4.heap.size w4 W := by rw [hl8]; exact hB8.trans (hb.mono (by have := hB8.size; omega))
    exact ⟨HR4.out.below hB4W, blk_below hb hx8, blk_below (below_then hB5 hb) hx1, blk_below (below_then hB5 hb) hx2, blk_below (below_then hB5 hb) hx3, HK.out.below (below_then hB5 hb), below_then hBw (below_then hB5 hb)⟩)
  have HS : Hid (∀ W, Below W5.heap.size W5 W → Calls Try.prog 30 #[.int .i64 (L.length : Int), .func (.func 31) #[] #[.pointer (some ⟨l8, 0, none⟩), .pointer (some ⟨w.heap.size, 0, none⟩), .pointer (some ⟨w.heap.size + 1, 0, none⟩)]] W fun e w' => SrC W w' L.length (fun i => !aheadK (elt noEnt L i) key s) e) := hid (by
    intro W hb
    refine search_any 31 _ L.length _ W (fun args u => by rfl) (by omega) (fun i u hu hi => ?_) (fun a b h1 h2 h3 => ahead_mono HSr.out h1 h2 h3)
    obtain ⟨q1, q2, q3, q4, q5, q6, q7⟩ := HF.out u (below_then hb hu)
    exact bkseek_fn A2 L.length c2 L l8 w.heap.size (w.heap.size + 1) Ar nr cr key s u q1 hc4 (box_at q2 0 _ rfl) (box_at q3 0 _ rfl) (box_at q4 0 _ rfl) q6 i hi)
  obtain ⟨_, q2, _, _, _, _, _⟩ := HF.out _ (Below.refl _ _)
  have y0 := box_at q2 0 _ rfl
  clear HR4 HB4 hx8 hB8 hB5 hx1 hx2 hx3 HK HDc hBw q2
  go_upto_region 5 with (go_at_call 30; (with_reducible refine (HS.out _ (by first | assumption | exact Below.refl _ _)).mono ?_); rintro r w6 ⟨m, rfl, hm1, hm2, hm3, hb6⟩; have HM := hid (⟨hm2, hm3⟩ : _ ∧ _); have HB6 := hid hb6; clear hm2 hm3 hb6)
  obtain ⟨q1, q2, q3, q4, q5, q6, q7⟩ := HF.out w6 HB6.out
  have y1 := box_at q2 0 _ rfl
  obtain ⟨z0, z1, z2, z3, z4⟩ := box5 q5
  have f5 := fun i => frozen_of_row w6 (w.heap.size + 1 + 1) i _ _ q5
  have HP : Hid (PosA L key s m) := hid ⟨hm1, fun t ht => by have := HM.out.1 t ht; simpa using this, fun t h1 h2 => by have := HM.out.2 t h1 h2; simpa using this⟩
  have HQ := hid (⟨q1, q7⟩ : _ ∧ _)
  clear q1 q2 q3 q4 q6 q7 HM HF HS
  rcases Nat.lt_or_ge m L.length with hm | hm
  · have hne : ((m : Int) == (L.length : Int)) = false := by rw [beq_eq_false_iff_ne]; omega
    obtain ⟨ad, hA2, hen⟩ := HQ.out.1.at_ hm
    subst hA2
    obtain ⟨Ak, nk, ck, Av, nv, cv, a0, a1, a2, a3, a4, a5, a6, a7, a8⟩ := hen
    have HR : Hid (RB w6 Ak nk (eKey (elt noEnt L m)) ∧ RB w6 Av nv (eVal (elt noEnt L m))) := hid ⟨a5, a6⟩
    obtain ⟨x, hx⟩ : ∃ x, elt noEnt L m = x := ⟨_, rfl⟩
    rw [hx] at a1 a2 a3 HR
    clear a5 a6
    have HX := hid hx
    clear hx
    go_wp2
    have hfin := set5 (.slice Ak nk ck) (.int .i64 (eSeq x)) (.bool (eGone x)) (.int .i64 (eTil x)) (.slice Av nv cv) q5
    have hgf := grown_set5 w6 (w.heap.size + 1 + 1) (.slice Ak nk ck) (.int .i64 (eSeq x)) (.bool (eGone x)) (.int .i64 (eTil x)) (.slice Av nv cv)
    exact bodyPost_ret (results_box2 (fn := Try.f12) (p := 6) (u := 7) (ty := 26) rfl _ _ (w.heap.size + 1 + 1) 26 _ (0, 0) _ rfl hfin Try.underlying26 rfl entry5) rfl (by
      refine ⟨m, HP.out, HQ.out.2.grown hgf HQ.out.2.size (fun k hk => by cases hk; omega), .inl ⟨hm, Ak, nk, ck, Av, nv, cv, ?_, ?_, ?_⟩⟩
      · rw [HX.out]; rfl
      · rw [HX.out]; exact HR.out.1.other5 hgf q5
      · rw [HX.out]; exact HR.out.2.other5 hgf q5)
  · obtain rfl : m = L.length := by omega
    go_wp2
    have hfin := set5 (.slice none 0 0) (.int .i64 0) (.bool false) (.int .i64 0) (.slice none 0 0) q5
    have hgf := grown_set5 w6 (w.heap.size + 1 + 1) (.slice none 0 0) (.int .i64 0) (.bool false) (.int .i64 0) (.slice none 0 0)
    exact bodyPost_ret (results_box2 (fn := Try.f12) (p := 6) (u := 7) (ty := 26) rfl _ _ (w.heap.size + 1 + 1) 26 _ (0, 0) _ rfl hfin Try.underlying26 rfl entry5) rfl ⟨L.length, HP.out, HQ.out.2.grown hgf HQ.out.2.size (fun k hk => by cases hk; omega), .inr ⟨rfl, rfl⟩⟩
end Go.Proofs.Yteediedhofapkaa
