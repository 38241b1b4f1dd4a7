/- Layer 16: iterators: Seek. -/
import Derived.Test.YtnjhiiakpndnnaaMgIt
import Derived.Test.YtnjhiiakpndnnaaSSr
namespace Go.Proofs.Ytnjhiiakpndnnaa
open Go.RowKit
set_option linter.unusedVariables false
set_option linter.unusedSimpArgs false

set_option maxHeartbeats 8000000 in
set_option maxRecDepth 100000 in
/-- The function that Seek hands to sort.Search. -/
theorem seek_fn (w4 w : World) (A : Option Addr) (c : Nat) (o : List EntR) (k b1 b2 : Nat) (Ar : Option Addr) (nr cr : Nat) (key : List UInt8) (h : IterJ w4 w A c o k) (h1 : w.cell? ⟨b1, 0, none⟩ = some (.pointer (some ⟨w4.heap.size, 0, none⟩))) (h2 : w.cell? ⟨b2, 0, none⟩ = some (.slice Ar nr cr)) (hk : RB w Ar nr key) (i : Nat) (hi : i < o.length) :
    Calls Try.prog 30 #[.int .i64 i, .pointer (some ⟨b1, 0, none⟩), .pointer (some ⟨b2, 0, none⟩)] w fun e w' => e = .returned (.bool (decide (0 ≤ cmpB (eKey (elt noEnt o i)) key))) ∧ Below w.heap.size w w' := by
  obtain ⟨c0, _, _⟩ := h.at_
  have hmax := h.1.2.1
  have hlc := h.2.1
  obtain ⟨ad, hA, hen⟩ := h.1.at_ hi
  subst hA
  obtain ⟨Ak, nk, ck, Av, nv, cv, a0, a1, a2, a3, a4, a5, a6, a7, a8⟩ := hen.below h.2.2.2.1
  generalize elt noEnt o i = x at *
  have H5 := hid a5
  have HK := hid hk
  clear h hen a5 hk
  go_enter Try.func30, Try.ntmps30
  go_wp2
  go_still_tail 9, (by kernel_rfl)
  change wpList _ _ _ _ _ w.drew
  have hbd : Below w.heap.size w w.drew := below_drew (Below.refl _ _)
  have HKd := hid (⟨H5.out.drew, HK.out.drew⟩ : _ ∧ _)
  generalize w.drew = w2 at *
  go_wp2_with (go_at_call 31; (with_reducible refine (compare_any Ak nk ck (eKey x) Ar nr cr key _ HKd.out.1 HKd.out.2).mono ?_); rintro r w1 ⟨rfl, rfl⟩)
  go_ret
  exact ⟨rfl, hbd⟩
/-- The first place whose key is not ahead of a key. -/
def PosK (o : List EntR) (key : List UInt8) (m : Nat) : Prop := m ≤ o.length ∧ (∀ t, t < m → cmpB (eKey (elt noEnt o t)) key < 0) ∧ (∀ t, m ≤ t → t < o.length → 0 ≤ cmpB (eKey (elt noEnt o t)) key)
theorem PosK.unique {o : List EntR} {key : List UInt8} {m k : Nat} (h : PosK o key m) (hk : k ≤ o.length) (h1 : ∀ t, t < k → cmpB (eKey (elt noEnt o t)) key < 0) (h2 : k < o.length → 0 ≤ cmpB (eKey (elt noEnt o k)) key) : k = m := by
  rcases Nat.lt_trichotomy k m with h3 | h3 | h3
  · have a := h.2.1 k h3
    have b := h2 (by have := h.1; omega)
    omega
  · exact h3
  · have a := h1 m h3
    have b := h.2.2 m (Nat.le_refl _) (by omega)
    omega
theorem cmp_mono {a b key : List UInt8} (h1 : cmpB a b ≤ 0) (h2 : 0 ≤ cmpB a key) : 0 ≤ cmpB b key := by
  rcases Int.lt_or_le (cmpB b key) 0 with h | h
  · rcases Int.lt_or_eq_of_le h1 with h3 | h3
    · have := cmpB_trans a b key h3 h
      omega
    · have := (cmpB_zero _ _).1 h3
      subst this
      omega
  · exact h
theorem wsrt_key {o : List EntR} (hs : WSrt o) {a b : Nat} (h1 : a ≤ b) (h2 : b < o.length) : cmpB (eKey (elt noEnt o a)) (eKey (elt noEnt o b)) ≤ 0 := by
  rcases Nat.eq_or_lt_of_le h1 with h | h
  · subst h
    rw [(cmpB_zero _ _).2 rfl]
    exact Int.le_refl _
  · have hp := List.pairwise_iff_getElem.1 hs a b (by omega) h2 h
    have hp2 : aheadE (elt noEnt o b) (elt noEnt o a) = false := by
      rw [elt_get noEnt h2, elt_get noEnt (show a < o.length by omega)]
      exact hp
    have hq := aheadK_not.1 hp2
    rcases hq with hq | hq
    · rw [cmpB_swap] at hq
      omega
    · rw [hq.1, (cmpB_zero _ _).2 rfl]
      exact Int.le_refl _
/-- What Seek leaves. -/
def SeekC (w4 w' : World) (A : Option Addr) (c : Nat) (o : List EntR) (key : List UInt8) (e : Ending) : Prop := ∃ m, e = .returned (.tuple #[]) ∧ PosK o key m ∧ IterJ w4 w' A c o m
set_option maxHeartbeats 16000000 in
set_option maxRecDepth 100000 in
theorem seek_any (w4 w : World) (A : Option Addr) (c : Nat) (o : List EntR) (k : Nat) (Ar : Option Addr) (nr cr : Nat) (key : List UInt8) (h : IterJ w4 w A c o k) (hk : RB w Ar nr key) (hs : WSrt o) (hl : o.length ≤ 40000) :
    Calls Try.prog 20 #[.pointer (some ⟨w4.heap.size, 0, none⟩), .slice Ar nr cr] w fun e w' => SeekC w4 w' A c o key e := by
  have hsz := h.at_.2.2
  have hB2 := below_alloc' (below_alloc' (Below.refl w.heap.size w) (.cells #[.pointer (some ⟨w4.heap.size, 0, none⟩)] 39)) (.cells #[.slice Ar nr cr] 33)
  have hx2 := blk_below (below_alloc' (Below.refl _ _) (.cells #[.slice Ar nr cr] 33)) (heap_alloc_new w (.cells #[.pointer (some ⟨w4.heap.size, 0, none⟩)] 39))
  have hx3 := heap_alloc_new (w.alloc (.cells #[.pointer (some ⟨w4.heap.size, 0, none⟩)] 39)) (.cells #[.slice Ar nr cr] 33)
  have e1 : (w.alloc (.cells #[.pointer (some ⟨w4.heap.size, 0, none⟩)] 39)).heap.size = w.heap.size + 1 := by simp
  rw [e1] at hx3
  go_enter Try.func20, Try.ntmps20
  go_wp2
  generalize (w.alloc (.cells #[.pointer (some ⟨w4.heap.size, 0, none⟩)] 39)).alloc (.cells #[.slice Ar nr cr] 33) = W2 at *
  have hJ2 := h.below hB2
  have hk2 := hk.below hB2
  have HS : Hid (∀ W, Below W2.heap.size W2 W → Calls Try.prog 29 #[.int .i64 (o.length : Int), .func (.func 30) #[] #[.pointer (some ⟨w.heap.size, 0, none⟩), .pointer (some ⟨w.heap.size + 1, 0, none⟩)]] W fun e w' => SrC W w' o.length (fun i => decide (0 ≤ cmpB (eKey (elt noEnt o i)) key)) e) := by
    intro W hb
    refine search_any 30 _ o.length _ W (fun args u => by rfl) (by omega) (fun i u hu hi => ?_) (fun a b h1 h2 h3 => ?_)
    · have hbu := below_then hb hu
      exact seek_fn w4 u A c o k _ _ Ar nr cr key (hJ2.below hbu) (box_at (blk_below hbu hx2) 0 _ rfl) (box_at (blk_below hbu hx3) 0 _ rfl) (hk2.below hbu) i hi
    · rw [decide_eq_true_iff] at h3 ⊢
      exact cmp_mono (wsrt_key hs h1 h2) h3
  have HF : Hid (∀ W, Below W2.heap.size W2 W → W.cell? ⟨w.heap.size, 0, none⟩ = some (.pointer (some ⟨w4.heap.size, 0, none⟩)) ∧ W.cell? ⟨w4.heap.size, 0, none⟩ = some (.slice A o.length c) ∧ W.cell? ⟨w4.heap.size, 1, none⟩ = some (.int .i64 (k : Int)) ∧ (∀ i, W.frozen? ⟨w4.heap.size, i, none⟩ = false) ∧ IterJ w4 W A c o k) := fun W hb => ⟨box_at (blk_below hb hx2) 0 _ rfl, (hJ2.below hb).at_.1, (hJ2.below hb).at_.2.1, fun i => frozen_of_row W w4.heap.size i _ _ (hJ2.below hb).2.2.2.2, hJ2.below hb⟩
  obtain ⟨a0, a1, a2, a3, _⟩ := HF.out _ (Below.refl _ _)
  clear h hk hB2 hx2 hx3 e1 hJ2 hk2 hs
  go_region_with (go_at_call 29; (with_reducible refine (HS.out _ (by first | assumption | exact Below.refl _ _ | exact below_drew (Below.refl _ _))).mono ?_); rintro r w5 ⟨m, rfl, hm1, hm2, hm3, hb5⟩; have hB5 : Below W2.heap.size W2 w5 := below_then (below_drew (Below.refl _ _)) hb5; obtain ⟨d0, d1, d2, d3, d4⟩ := HF.out _ hB5)
  all_goals
    go_wp2
    go_end0
    exact ⟨m, rfl, ⟨hm1, fun t ht => by have := of_decide_eq_false (hm2 t ht); omega, fun t h1 h2 => of_decide_eq_true (hm3 t h1 h2)⟩, d4.step hm1 _ rfl⟩
end Go.Proofs.Ytnjhiiakpndnnaa
