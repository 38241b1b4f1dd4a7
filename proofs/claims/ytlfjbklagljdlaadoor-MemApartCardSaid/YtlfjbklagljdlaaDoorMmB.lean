/- Layer 9: Add of what may not be, of what is there; to no mem. -/
import Derived.Test.YtlfjbklagljdlaaDoorMmA
namespace Go.Proofs.YtlfjbklagljdlaaDoor
open Go.RowKit
set_option linter.unusedVariables false
set_option linter.unusedSimpArgs false

set_option maxHeartbeats 8000000 in
set_option maxRecDepth 100000 in
theorem add_none (Ak : Option Addr) (nk ck : Nat) (s : Int) (g : Bool) (u : Int) (Av : Option Addr) (nv cv : Nat) (w : World) :
    Calls Tryd.prog 18 #[.pointer none, .agg #[.slice Ak nk ck, .int .i64 s, .bool g, .int .i64 u, .slice Av nv cv]] w fun r w' => r = .returned (.int .i64 1) ∧ Below w.heap.size w w' := by
  go_enter Tryd.func18, Tryd.ntmps18
  go_wp2
  go_ret
  exact ⟨rfl, below_alloc' (Below.refl _ _) _⟩
set_option maxHeartbeats 8000000 in
set_option maxRecDepth 100000 in
theorem add_bad (bm : Nat) (Ak : Option Addr) (nk ck : Nat) (s : Int) (g : Bool) (u : Int) (Av : Option Addr) (nv cv : Nat) (w : World) (hk : nk ≤ 9223372036854775807) (hv : nv ≤ 9223372036854775807) (hm : mayN nk s g u nv = false) :
    Calls Tryd.prog 18 #[.pointer (some ⟨bm, 0, none⟩), .agg #[.slice Ak nk ck, .int .i64 s, .bool g, .int .i64 u, .slice Av nv cv]] w fun r w' => r = .returned (.int .i64 1) ∧ Below w.heap.size w w' := by
  have HM := hid hm
  clear hm
  go_enter Tryd.func18, Tryd.ntmps18
  have hB0 : Below w.heap.size w (w.alloc (.cells #[.slice Ak nk ck, .int .i64 s, .bool g, .int .i64 u, .slice Av nv cv] 28)) := below_alloc' (Below.refl _ _) _
  go_wp2_with (go_at_call 31; (with_reducible refine (may_any Ak nk ck s g u Av nv cv _ hk hv).mono ?_); rintro r w1 ⟨rfl, hb1⟩; rw [HM.out]; have hB1 := below_then hB0 hb1)
  go_ret
  exact ⟨rfl, hB1⟩
set_option maxHeartbeats 32000000 in
set_option maxRecDepth 100000 in
theorem add_old (base bm n : Nat) (wt : Int) (A m : List NodeR) (x : NodeR) (Ak : Option Addr) (nk ck : Nat) (key : List UInt8) (s : Int) (g : Bool) (u : Int) (Av : Option Addr) (nv cv : Nat) (w : World)
    (hS : SL w base bm (A ++ x :: m) n wt) (hk : RB w Ak nk key) (hvm : nv ≤ 9223372036854775807) (hm : mayN nk s g u nv = true) (hx1 : 1 ≤ nHt x)
    (hA : ∀ x ∈ A, aheadK (nEnt x) key s = true) (hB : ∀ y ∈ x :: m, aheadK (nEnt y) key s = false) (hs : eSeq (nEnt x) = s) (hke : eKey (nEnt x) = key) :
    Calls Tryd.prog 18 #[.pointer (some ⟨bm, 0, none⟩), .agg #[.slice Ak nk ck, .int .i64 s, .bool g, .int .i64 u, .slice Av nv cv]] w fun r w' => r = .returned (.int .i64 6) ∧ Below w.heap.size w w' := by
  have hkm := hk.2.1
  have HP := hid (fun (w' : World) (hb : Below w.heap.size w w') => seek_lit base bm n wt A (x :: m) Ak nk ck key s w' (hS.below hb) (hk.below hb) hA hB)
  have HM : Hid (mayN nk s g u nv = true) := hm
  have HS := hid hS
  have HK := hid hk
  clear hS hk hm hA hB
  go_enter Tryd.func18, Tryd.ntmps18
  have hbx := heap_alloc_new w (.cells #[.slice Ak nk ck, .int .i64 s, .bool g, .int .i64 u, .slice Av nv cv] 28)
  have hB0 : Below w.heap.size w (w.alloc (.cells #[.slice Ak nk ck, .int .i64 s, .bool g, .int .i64 u, .slice Av nv cv] 28)) := below_alloc' (Below.refl _ _) _
  go_upto_region 4 with (first
    | (go_at_call 31; (with_reducible refine (may_any Ak nk ck s g u Av nv cv _ hkm hvm).mono ?_); rintro r w1 ⟨rfl, hb1⟩; rw [HM.out]; have hB1 := below_then hB0 hb1; have hbx1 := blk_below hb1 hbx; have p0 := box_at hbx1 0 _ rfl; have p1 := box_at hbx1 1 _ rfl)
    | (go_at_call 36; (with_reducible refine (HP.out _ hB1).mono ?_); rintro r w2 ⟨rfl, hb2⟩; have hB2 := below_then hB1 hb2; have hbx2 := blk_below hb2 hbx1))
  have hp3 := heap_alloc_new w2 (.cells #[.pointer (some ⟨lastAt 0 bm A, 0, none⟩), .pointer (some ⟨lastAt 1 bm A, 0, none⟩), .pointer (some ⟨lastAt 2 bm A, 0, none⟩), .pointer (some ⟨lastAt 3 bm A, 0, none⟩), .pointer (some ⟨lastAt 4 bm A, 0, none⟩), .pointer (some ⟨lastAt 5 bm A, 0, none⟩), .pointer (some ⟨lastAt 6 bm A, 0, none⟩), .pointer (some ⟨lastAt 7 bm A, 0, none⟩)] 57)
  have hB23 : Below w2.heap.size w2 (w2.alloc (.cells #[.pointer (some ⟨lastAt 0 bm A, 0, none⟩), .pointer (some ⟨lastAt 1 bm A, 0, none⟩), .pointer (some ⟨lastAt 2 bm A, 0, none⟩), .pointer (some ⟨lastAt 3 bm A, 0, none⟩), .pointer (some ⟨lastAt 4 bm A, 0, none⟩), .pointer (some ⟨lastAt 5 bm A, 0, none⟩), .pointer (some ⟨lastAt 6 bm A, 0, none⟩), .pointer (some ⟨lastAt 7 bm A, 0, none⟩)] 57)) := below_alloc' (Below.refl _ _) _
  have hB3 := below_then hB2 hB23
  have hbx3 := blk_below hB23 hbx2
  have hg5 : w.heap.size < w2.heap.size := lt_of_blk hbx2
  generalize w2.alloc (.cells #[.pointer (some ⟨lastAt 0 bm A, 0, none⟩), .pointer (some ⟨lastAt 1 bm A, 0, none⟩), .pointer (some ⟨lastAt 2 bm A, 0, none⟩), .pointer (some ⟨lastAt 3 bm A, 0, none⟩), .pointer (some ⟨lastAt 4 bm A, 0, none⟩), .pointer (some ⟨lastAt 5 bm A, 0, none⟩), .pointer (some ⟨lastAt 6 bm A, 0, none⟩), .pointer (some ⟨lastAt 7 bm A, 0, none⟩)] 57) = W3 at *
  generalize w2.heap.size = g5 at *
  clear hb1 hb2 hB1 hB2 hbx1 hbx2 hB23 p0 p1 hbx hB0 HP
  have HS3 := hid (HS.out.below hB3)
  have q5 := box_at hp3 0 _ rfl
  have q6 := HS3.out.at_last (k := 0) (by decide)
  rw [Nat.add_zero] at q6
  have hnx : firstAt 0 (x :: m) = .pointer (some ⟨nBlk x, 0, none⟩) := by
    unfold firstAt
    rw [if_pos (by omega)]
    rfl
  rw [hnx] at q6
  go_upto_region 5 with fail
  have r0 := box_at hbx3 0 _ rfl
  have r1 := box_at hbx3 1 _ rfl
  obtain ⟨hxb, hxk, hxv, _⟩ := HS3.out.2.get
  obtain ⟨Ax, cx, hxe, hxr, _⟩ := OB.open_ hxk
  have x0 := box_at hxb 0 (nKv x) rfl
  have x1 := box_at hxb 1 (.int .i64 (eSeq (nEnt x))) rfl
  rw [hxe] at x0
  have HXR := hid hxr
  have HK3 := hid (HK.out.below hB3)
  clear hxr hxk hxv hxe hxb
  generalize nEnt x = ex at *
  have hd : (eSeq ex == s) = true := by simpa using hs
  have HNE : Hid (decide (eKey ex = key) = true) := by unfold Hid; simpa using hke
  clear hs hke
  go_quiet (first | (go_at_call 33; refine Calls.quiet_of_same (v := .bool true) ((equal_any Ax (eKey ex).length cx (eKey ex) Ak nk ck key _ (HXR.out.drewN _) (HK3.out.drewN _)).mono ?_); rintro r w1 ⟨rfl, rfl⟩; exact ⟨(by rw [HNE.out]), rfl⟩))
  go_wp2
  go_ret
  exact ⟨rfl, below_drewN hB3 _⟩
end Go.Proofs.YtlfjbklagljdlaaDoor
