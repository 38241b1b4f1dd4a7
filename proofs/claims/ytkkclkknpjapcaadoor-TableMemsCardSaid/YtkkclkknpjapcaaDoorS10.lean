/- Shared texts, part S10: MmA, MmB. -/
import Derived.Deep.DeepCutAuto
import Derived.Deep.QuietTactic
import Derived.BigQuiet
import Derived.BigRegion
import Derived.Test.YtkkclkknpjapcaaDoorS09
import Derived.Test.YtkkclkknpjapcaaDoorS03
/-! ### MmA -/
namespace Go.Proofs.YtkkclkknpjapcaaDoor
open Go.RowKit
set_option linter.unusedVariables false
set_option linter.unusedSimpArgs false

theorem seek_lit (base bm n : Nat) (wt : Int) (A B : List NodeR) (Ak : Option Addr) (nk ck : Nat) (key : List UInt8) (s : Int) (w : World) (hS : SL w base bm (A ++ B) n wt) (hk : RB w Ak nk key)
    (hA : ∀ x ∈ A, aheadK (nEnt x) key s = true) (hB : ∀ x ∈ B, aheadK (nEnt x) key s = false) :
    Calls Tryd.prog 23 #[.pointer (some ⟨bm, 0, none⟩), .slice Ak nk ck, .int .i64 s] w fun e w' => e = .returned (.agg #[.pointer (some ⟨lastAt 0 bm A, 0, none⟩), .pointer (some ⟨lastAt 1 bm A, 0, none⟩), .pointer (some ⟨lastAt 2 bm A, 0, none⟩), .pointer (some ⟨lastAt 3 bm A, 0, none⟩), .pointer (some ⟨lastAt 4 bm A, 0, none⟩), .pointer (some ⟨lastAt 5 bm A, 0, none⟩), .pointer (some ⟨lastAt 6 bm A, 0, none⟩), .pointer (some ⟨lastAt 7 bm A, 0, none⟩)]) ∧ Below w.heap.size w w' := by
  have := seek_any base bm (A ++ B) n wt Ak nk ck key s A.length w hS hk (by simp) (by simpa using hA) (by simpa using hB)
  have e1 : (A ++ B).take A.length = A := by simp
  rw [e1] at this
  exact this
/-- No node behind is this key's with this number. -/
def noneB (B : List NodeR) (key : List UInt8) (s : Int) : Prop := ∀ x m, B = x :: m → eSeq (nEnt x) = s → eKey (nEnt x) ≠ key
def Tall (l : List NodeR) : Prop := ∀ x ∈ l, 1 ≤ nHt x
/-- What the new node's loop holds. -/
def AddL (w wr : World) (base bm n : Nat) (wt : Int) (A B : List NodeR) (G k : Nat) (e : EntR) (kv vv : Value) (g5 : Nat) (Ak : Option Addr) (nk ck : Nat) (s : Int) (g : Bool) (u : Int) (Av : Option Addr) (nv cv : Nat) : Prop :=
  AddW w wr base bm n wt A B G k e kv vv ∧ wr.heap[w.heap.size]? = some (.cells #[.slice Ak nk ck, .int .i64 s, .bool g, .int .i64 u, .slice Av nv cv] 29 (0, 0)) ∧ wr.heap[g5]? = some (.cells #[.pointer (some ⟨lastAt 0 bm A, 0, none⟩), .pointer (some ⟨lastAt 1 bm A, 0, none⟩), .pointer (some ⟨lastAt 2 bm A, 0, none⟩), .pointer (some ⟨lastAt 3 bm A, 0, none⟩), .pointer (some ⟨lastAt 4 bm A, 0, none⟩), .pointer (some ⟨lastAt 5 bm A, 0, none⟩), .pointer (some ⟨lastAt 6 bm A, 0, none⟩), .pointer (some ⟨lastAt 7 bm A, 0, none⟩)] 50 (0, 0))
theorem AddL.below {w wr : World} {base bm n G k : Nat} {wt : Int} {A B : List NodeR} {e : EntR} {kv vv : Value} {g5 : Nat} {Ak : Option Addr} {nk ck : Nat} {s : Int} {g : Bool} {u : Int} {Av : Option Addr} {nv cv : Nat} (h : AddL w wr base bm n wt A B G k e kv vv g5 Ak nk ck s g u Av nv cv) {w' : World} (hb : Below wr.heap.size wr w') (hwb : base ≤ w.heap.size) : AddL w w' base bm n wt A B G k e kv vv g5 Ak nk ck s g u Av nv cv :=
  ⟨⟨h.1.1.below hb, h.1.2.1.below hb, h.1.2.2.1.trans (hb.mono (Nat.le_trans hwb h.1.2.1.size)), h.1.2.2.2⟩, blk_below hb h.2.1, blk_below hb h.2.2⟩
theorem firstAt_ptr (i : Nat) (l : List NodeR) : ∃ p, firstAt i l = .pointer p := by
  rcases firstAt_cases i l with ⟨h, _⟩ | ⟨_, x, _, _, _, _, h⟩
  · exact ⟨_, h⟩
  · exact ⟨_, h⟩
theorem last_blk {w : World} {base bm n k : Nat} {wt : Int} {A m : List NodeR} (h : SL w base bm (A ++ m) n wt) : ∃ cs T, w.heap[lastAt k bm A]? = some (.cells cs T (0, 0)) ∧ (T = 52 ∨ T = 54) := h.inM (by
  rcases lastAt_mem k bm A with ⟨e1, _⟩ | ⟨y, hy, e1, _⟩
  · exact .inl e1
  · exact .inr ⟨y, List.mem_append_left _ hy, e1.symm⟩)
theorem last_ne {w : World} {base bm n k b : Nat} {wt : Int} {A m : List NodeR} (h : SL w base bm (A ++ m) n wt) {cs : Array Value} {T : TypeId} {fr : Nat × Nat} (hb : w.heap[b]? = some (.cells cs T fr)) (h1 : T ≠ 52) (h2 : T ≠ 54) : lastAt k bm A ≠ b := by
  obtain ⟨cs', T', hc, hT⟩ := last_blk (k := k) h
  refine blk_ne hc hb ?_
  rcases hT with rfl | rfl
  · exact h1.symm
  · exact h2.symm
theorem AddL.facts {w wr : World} {base bm n G k : Nat} {wt : Int} {A B : List NodeR} {e : EntR} {kv vv : Value} {g5 : Nat} {Ak : Option Addr} {nk ck : Nat} {s : Int} {g : Bool} {u : Int} {Av : Option Addr} {nv cv : Nat} (h : AddL w wr base bm n wt A B G k e kv vv g5 Ak nk ck s g u Av nv cv) (hk : k < 8) :
    wr.cell? ⟨g5, k, none⟩ = some (.pointer (some ⟨lastAt k bm A, 0, none⟩)) ∧ wr.cell? ⟨lastAt k bm A, 5 + k, none⟩ = some (firstAt k B) ∧ wr.cell? ⟨G, 5 + k, none⟩ = some (nextAt (mkNode G k e kv vv) B k) ∧ (∀ i, wr.frozen? ⟨G, i, none⟩ = false) ∧ (∀ i, wr.frozen? ⟨lastAt k bm A, i, none⟩ = false) ∧
    (∀ v : Value, (wr.setCell ⟨G, 5 + k, none⟩ v).cell? ⟨g5, k, none⟩ = some (.pointer (some ⟨lastAt k bm A, 0, none⟩))) ∧ (∀ v : Value, (wr.setCell ⟨G, 5 + k, none⟩ v).cell? ⟨lastAt k bm A, 5 + k, none⟩ = some (firstAt k B)) ∧ (∀ (v : Value) i, (wr.setCell ⟨G, 5 + k, none⟩ v).frozen? ⟨lastAt k bm A, i, none⟩ = false) := by
  obtain ⟨c1, c2, c3, c4, c5, c6, c7⟩ := h.1.cells hk
  have hG := h.1.1.2.get.1
  have hq := box_at h.2.2 k (.pointer (some ⟨lastAt k bm A, 0, none⟩)) (pathC_get A bm 0 k hk)
  have hG' : wr.heap[G]? = some (.cells (nodeCells (mkNode G k e kv vv) B) 52 (0, 0)) := hG
  have hne : G ≠ g5 := blk_ne hG' h.2.2 (by decide)
  exact ⟨hq, c1, c2, c3, c4, fun v => box_at (blk_grown' (grown_set wr G (5 + k) v) h.2.2 (fun e => hne (Option.some.inj e))) k _ (pathC_get A bm 0 k hk), c6, c7⟩
theorem AddL.step {w wr : World} {base bm n G k : Nat} {wt : Int} {A B : List NodeR} {e : EntR} {kv vv : Value} {g5 : Nat} {Ak : Option Addr} {nk ck : Nat} {s : Int} {g : Bool} {u : Int} {Av : Option Addr} {nv cv : Nat} (h : AddL w wr base bm n wt A B G k e kv vv g5 Ak nk ck s g u Av nv cv) (hk : k < 8) (hwb : base ≤ w.heap.size) : AddL w ((wr.setCell ⟨G, 5 + k, none⟩ (firstAt k B)).setCell ⟨lastAt k bm A, 5 + k, none⟩ (.pointer (some ⟨G, 0, none⟩))) base bm n wt A B G (k + 1) e kv vv g5 Ak nk ck s g u Av nv cv := by
  have hG : wr.heap[G]? = some (.cells (nodeCells (mkNode G k e kv vv) B) 52 (0, 0)) := h.1.1.2.get.1
  have n1 : G ≠ w.heap.size := blk_ne hG h.2.1 (by decide)
  have n2 : G ≠ g5 := blk_ne hG h.2.2 (by decide)
  have n3 := last_ne (k := k) h.1.1 h.2.1 (by decide) (by decide)
  have n4 := last_ne (k := k) h.1.1 h.2.2 (by decide) (by decide)
  exact ⟨h.1.step hk hwb, blk_grown' (grown_set _ _ _ _) (blk_grown' (grown_set _ _ _ _) h.2.1 (fun e => n1 (Option.some.inj e))) (fun e => n3 (Option.some.inj e)), blk_grown' (grown_set _ _ _ _) (blk_grown' (grown_set _ _ _ _) h.2.2 (fun e => n2 (Option.some.inj e))) (fun e => n4 (Option.some.inj e))⟩
/-- A row that was not there in a world. -/
def FreshV (w : World) (v : Value) : Prop := ∀ k, v.ownBlock = some k → w.heap.size ≤ k
/-- What Add leaves: the entry stands in its place. -/
def AddC (w w' : World) (base bm n : Nat) (wt : Int) (A B : List NodeR) (e : EntR) : Prop :=
  ∃ G h kv vv, 1 ≤ h ∧ SL w' base bm (A ++ mkNode G h e kv vv :: B) (n + 1) (wt + (((eKey e).length : Int) + ((eVal e).length : Int) + 16)) ∧ KB bm (A ++ B) w w' ∧ Below base w w' ∧ w.heap.size ≤ G ∧ FreshV w kv ∧ FreshV w vv
theorem AddC.mk {w wr : World} {base bm n G h : Nat} {wt : Int} {A B : List NodeR} {e : EntR} {kv vv : Value} (hw : AddW w wr base bm n wt A B G h e kv vv) (hh : 1 ≤ h) (hf : FreshV w kv ∧ FreshV w vv) (m m' : Nat) (hm : (eKey e).length = m) (hm' : (eVal e).length = m') :
    AddC w ((wr.setCell ⟨bm, 13, none⟩ (.int .i64 ((n : Int) + 1))).setCell ⟨bm, 14, none⟩ (.int .i64 (wt + ((m : Int) + (m' : Int) + 16)))).drew base bm n wt A B e := by
  subst hm hm'
  obtain ⟨h1, h2, h3, h4, h5, h6⟩ := hw
  have hs := h1.count (n + 1) (wt + (((eKey e).length : Int) + ((eVal e).length : Int) + 16))
  refine ⟨G, h, kv, vv, hh, hs.below (below_drew (Below.refl _ _)), ?_, ?_, h4, hf⟩
  · exact ((h2.set 13 _ (.inl (.inl rfl))).set 14 _ (.inl (.inl rfl))).below (below_drew (Below.refl _ _))
  · exact ((h3.setCell h5 _).setCell h5 _).drew
set_option maxHeartbeats 32000000 in
set_option maxRecDepth 100000 in
theorem add_new (base bm n : Nat) (wt : Int) (A B : List NodeR) (Ak : Option Addr) (nk ck : Nat) (key : List UInt8) (s : Int) (g : Bool) (u : Int) (Av : Option Addr) (nv cv : Nat) (val : List UInt8) (w : World)
    (hS : SL w base bm (A ++ B) n wt) (hT : TabOK w) (hk : RB w Ak nk key) (hv : RB w Av nv val) (hm : mayN nk s g u nv = true) (hTall : Tall B)
    (hA : ∀ x ∈ A, aheadK (nEnt x) key s = true) (hB : ∀ x ∈ B, aheadK (nEnt x) key s = false) (hnew : noneB B key s) (hbase : base ≤ w.heap.size) (hbm : base ≤ bm) (hn : n ≤ 4611686018427387904) (hwt : 0 ≤ wt ∧ wt ≤ 4611686018427387904) :
    Calls Tryd.prog 7 #[.pointer (some ⟨bm, 0, none⟩), .agg #[.slice Ak nk ck, .int .i64 s, .bool g, .int .i64 u, .slice Av nv cv]] w fun r w' => r = .returned (.int .i64 0) ∧ AddC w w' base bm n wt A B (mkEnt key s g u val) := by
  have hkm := hk.2.1
  have hvm := hv.2.1
  have HP := hid (fun (w' : World) (hb : Below w.heap.size w w') => seek_lit base bm n wt A B Ak nk ck key s w' (hS.below hb) (hk.below hb) hA hB)
  have HM : Hid (mayN nk s g u nv = true) := hm
  have HS := hid hS
  have HK := hid hk
  have HV := hid hv
  have HT := hid hT
  have HN := hid hnew
  have HTall := hid hTall
  clear hS hk hv hm hA hB hnew hT hTall
  go_enter Tryd.func7, Tryd.ntmps7
  have hbx := heap_alloc_new w (.cells #[.slice Ak nk ck, .int .i64 s, .bool g, .int .i64 u, .slice Av nv cv] 29)
  have hB0 : Below w.heap.size w (w.alloc (.cells #[.slice Ak nk ck, .int .i64 s, .bool g, .int .i64 u, .slice Av nv cv] 29)) := below_alloc' (Below.refl _ _) _
  go_upto_region 4 with (first
    | (go_at_call 22; (with_reducible refine (may_any Ak nk ck s g u Av nv cv _ hkm hvm).mono ?_); rintro r w1 ⟨rfl, hb1⟩; rw [HM.out]; have hB1 := below_then hB0 hb1; have hbx1 := blk_below hb1 hbx; have p0 := box_at hbx1 0 _ rfl; have p1 := box_at hbx1 1 _ rfl)
    | (go_at_call 23; (with_reducible refine (HP.out _ hB1).mono ?_); rintro r w2 ⟨rfl, hb2⟩; have hB2 := below_then hB1 hb2; have hbx2 := blk_below hb2 hbx1))
  have hp3 := heap_alloc_new w2 (.cells #[.pointer (some ⟨lastAt 0 bm A, 0, none⟩), .pointer (some ⟨lastAt 1 bm A, 0, none⟩), .pointer (some ⟨lastAt 2 bm A, 0, none⟩), .pointer (some ⟨lastAt 3 bm A, 0, none⟩), .pointer (some ⟨lastAt 4 bm A, 0, none⟩), .pointer (some ⟨lastAt 5 bm A, 0, none⟩), .pointer (some ⟨lastAt 6 bm A, 0, none⟩), .pointer (some ⟨lastAt 7 bm A, 0, none⟩)] 50)
  have hB23 : Below w2.heap.size w2 (w2.alloc (.cells #[.pointer (some ⟨lastAt 0 bm A, 0, none⟩), .pointer (some ⟨lastAt 1 bm A, 0, none⟩), .pointer (some ⟨lastAt 2 bm A, 0, none⟩), .pointer (some ⟨lastAt 3 bm A, 0, none⟩), .pointer (some ⟨lastAt 4 bm A, 0, none⟩), .pointer (some ⟨lastAt 5 bm A, 0, none⟩), .pointer (some ⟨lastAt 6 bm A, 0, none⟩), .pointer (some ⟨lastAt 7 bm A, 0, none⟩)] 50)) := below_alloc' (Below.refl _ _) _
  have hB3 := below_then hB2 hB23
  have hbx3 := blk_below hB23 hbx2
  have hg5 : w.heap.size < w2.heap.size := lt_of_blk hbx2
  generalize w2.alloc (.cells #[.pointer (some ⟨lastAt 0 bm A, 0, none⟩), .pointer (some ⟨lastAt 1 bm A, 0, none⟩), .pointer (some ⟨lastAt 2 bm A, 0, none⟩), .pointer (some ⟨lastAt 3 bm A, 0, none⟩), .pointer (some ⟨lastAt 4 bm A, 0, none⟩), .pointer (some ⟨lastAt 5 bm A, 0, none⟩), .pointer (some ⟨lastAt 6 bm A, 0, none⟩), .pointer (some ⟨lastAt 7 bm A, 0, none⟩)] 50) = W3 at *
  generalize w2.heap.size = g5 at *
  clear hb1 hb2 hB1 hB2 hbx1 hbx2 hB23 p0 p1 hbx hB0 HP
  have HS3 := hid (HS.out.below hB3)
  have q5 := box_at hp3 0 _ rfl
  have q6 := HS3.out.at_last (k := 0) (by decide)
  rw [Nat.add_zero] at q6
  go_upto_region 5 with fail
  go_cut [6, 49] (fun x6 v wx => v = .bool false ∧ Below W3.heap.size W3 wx)
  case first =>
    have r0 := box_at hbx3 0 _ rfl
    have r1 := box_at hbx3 1 _ rfl
    cases B with
    | nil =>
      have hnx : firstAt 0 ([] : List NodeR) = .pointer none := rfl
      rw [hnx] at q6 ⊢
      go_quiet (fail)
      go_wp2
      go_meet
      exact ⟨rfl, below_drewN (Below.refl _ _) _⟩
    | cons x m =>
      have hnx : firstAt 0 (x :: m) = .pointer (some ⟨nBlk x, 0, none⟩) := by
        unfold firstAt
        rw [if_pos (by have := HTall.out x (by simp); omega)]
        rfl
      rw [hnx] at q6 ⊢
      obtain ⟨hxb, hxk, hxv, _⟩ := HS3.out.2.get
      obtain ⟨Ax, cx, hxe, hxr, _⟩ := OB.open_ hxk
      have x0 := box_at hxb 0 (nKv x) rfl
      have x1 := box_at hxb 1 (.int .i64 (eSeq (nEnt x))) rfl
      rw [hxe] at x0
      have hxn := HN.out x m rfl
      have HXR := hid hxr
      have HK3 := hid (HK.out.below hB3)
      clear hxr hxk hxv hxe hxb
      generalize nEnt x = ex at *
      cases hd : (eSeq ex == s)
      · clear hxn
        go_quiet (fail)
        go_wp2
        go_meet
        exact ⟨rfl, below_drewN (Below.refl _ _) _⟩
      · have hne : eKey ex ≠ key := hxn (by simpa using hd)
        have HNE : Hid (decide (eKey ex = key) = false) := by unfold Hid; simpa using hne
        clear hxn hne
        go_quiet (first | (go_at_call 24; refine Calls.quiet_of_same (v := .bool false) ((equal_any Ax (eKey ex).length cx (eKey ex) Ak nk ck key _ (HXR.out.drewN _) (HK3.out.drewN _)).mono ?_); rintro r w1 ⟨rfl, rfl⟩; exact ⟨(by rw [HNE.out]), rfl⟩))
        go_wp2
        go_meet
        exact ⟨rfl, below_drewN (Below.refl _ _) _⟩
  case rest =>
    obtain ⟨rfl, hb3⟩ := hcut
    have hB4 := below_then hB3 hb3
    have hbx4 := blk_below hb3 hbx3
    have hp4 := blk_below hb3 hp3
    clear hbx3 hp3 HS3 hB3 q5 q6 hb3
    obtain ⟨m1, m2, m3, m4, m5⟩ := mayN_cases HM.out
    have r0 := box_at hbx4 0 _ rfl
    have r1 := box_at hbx4 1 _ rfl
    have r2 := box_at hbx4 2 _ rfl
    have r3 := box_at hbx4 3 _ rfl
    have r4 := box_at hbx4 4 _ rfl
    have HK4 := hid (HK.out.below hB4)
    have HV4 := hid (HV.out.below hB4)
    go_wp2_with (first
      | (go_at_call 25; (with_reducible refine (own_any Ak nk ck key s g u Av nv cv val _ HK4.out HV4.out (by omega) (by omega)).mono ?_); rintro r w4 ⟨kv, vv, rfl, ok1, ov1, hb4⟩; have hB5 := below_then hB4 hb4; have HFr := hid (⟨fun k hk => Nat.le_trans hB4.size (OB.base_ ok1 k hk), fun k hk => Nat.le_trans hB4.size (OB.base_ ov1 k hk)⟩ : FreshV w kv ∧ FreshV w vv); have HA : Hid (AddW w (w4.alloc (.cells #[kv, .int .i64 s, .bool g, .int .i64 u, vv, .pointer none, .pointer none, .pointer none, .pointer none, .pointer none, .pointer none, .pointer none, .pointer none] 52)) base bm n wt A B w4.heap.size 0 (mkEnt key s g u val) kv vv) := hid (AddW.start (e := mkEnt key s g u val) HS.out hB5 (OB.mono ok1 (Nat.le_trans hbase hB4.size)) (OB.mono ov1 (Nat.le_trans hbase hB4.size)) hbase hbm); have hb5 := below_then hb4 (below_alloc' (Below.refl _ _) (.cells #[kv, .int .i64 s, .bool g, .int .i64 u, vv, .pointer none, .pointer none, .pointer none, .pointer none, .pointer none, .pointer none, .pointer none, .pointer none] 52)); have hB6 := below_then hB4 hb5; have hbx5 := blk_below hb5 hbx4; have hp5 := blk_below hb5 hp4; have r0 := box_at hbx5 0 (.slice Ak nk ck) rfl; have r1 := box_at hbx5 1 (.int .i64 s) rfl; have r2 := box_at hbx5 2 (.bool g) rfl; have r3 := box_at hbx5 3 (.int .i64 u) rfl; have r4 := box_at hbx5 4 (.slice Av nv cv) rfl; have HK5 := hid (HK.out.below hB6); have HT5 := hid (HT.out.below hB6))
      | (go_at_call 26; (with_reducible refine (height_any Ak nk ck key s g u Av nv cv _ HK5.out HT5.out (by omega)).mono ?_); rintro r w6 ⟨⟨h, rfl, hh1, hh8⟩, hb6⟩))
    have HL : Hid (AddL w w6 base bm n wt A B w4.heap.size 0 (mkEnt key s g u val) kv vv g5 Ak nk ck s g u Av nv cv) := AddL.below ⟨HA.out, hbx5, hp5⟩ hb6 hbase
    clear HA hb6 hbx5 hp5 HK5 HT5 hB6 hb5 hB5 ok1 ov1 hb4 hbx4 hp4 r0 r1 r2 r3 r4 hB4 HK4 HV4
    generalize w4.heap.size = G at *
    go_loopw [8, 56] (fun x8 i wr => ∃ k, k ≤ h ∧ i = .int .i64 k ∧ AddL w wr base bm n wt A B G k (mkEnt key s g u val) kv vv g5 Ak nk ck s g u Av nv cv) (fun x8 i wr => h - (intOf i).toNat)
    case atStart => exact ⟨0, Nat.zero_le _, rfl, HL.out⟩
    case round =>
      obtain ⟨k, hk, rfl, hL⟩ := hrel
      clear HL
      by_cases hlt : k < h
      · have hk8 : k < 8 := by omega
        have HL2 := hid (hL.step hk8 hbase)
        obtain ⟨c1, c2, c3, c4, c5, c6, c7, c8⟩ := hL.facts hk8
        obtain ⟨p, hp⟩ := firstAt_ptr k B
        rw [hp] at c2 c7 HL2
        clear hL hp
        go_wp2
        go_region
        go_wp2
        go_roundw
        case rel => exact ⟨k + 1, by omega, by go_num, HL2.out.below (below_drew (Below.refl _ _)) hbase⟩
        case measure => simp [intOf]; omega
      · obtain rfl : k = h := by omega
        have hl2 := hL.2.1
        have hl1 := hL.1.1.1
        have hne : bm ≠ w.heap.size := blk_ne hl1 hl2 (by decide)
        have t13 := box_at hl1 13 (.int .i64 n) rfl
        have tf := fun i => frozen_of_row _ bm i _ _ hl1
        have hl3 := heap_setCell_same wr bm 13 _ _ (.int .i64 ((n : Int) + 1)) hl1
        have hl4 := blk_grown' (grown_set wr bm 13 (.int .i64 ((n : Int) + 1))) hl2 (fun e => hne (Option.some.inj e))
        have t14 := box_at hl3 14 (.int .i64 wt) rfl
        have tf2 := fun i => frozen_of_row _ bm i _ _ hl3
        have y0 := box_at hl4 0 (.slice Ak nk ck) rfl
        have y4 := box_at hl4 4 (.slice Av nv cv) rfl
        have HL3 := hid hL
        clear hL hl1 hl2 hl3 hl4 hne
        go_wp2
        go_region
        go_wp2
        go_ret
        exact ⟨rfl, AddC.mk HL3.out.1 hh1 HFr.out nk nv HK.out.1 HV.out.1⟩
end Go.Proofs.YtkkclkknpjapcaaDoor
/-! ### MmB -/
namespace Go.Proofs.YtkkclkknpjapcaaDoor
open Go.RowKit
set_option linter.unusedVariables false
set_option linter.unusedSimpArgs false

set_option maxHeartbeats 8000000 in
set_option maxRecDepth 100000 in
theorem add_none (Ak : Option Addr) (nk ck : Nat) (s : Int) (g : Bool) (u : Int) (Av : Option Addr) (nv cv : Nat) (w : World) :
    Calls Tryd.prog 7 #[.pointer none, .agg #[.slice Ak nk ck, .int .i64 s, .bool g, .int .i64 u, .slice Av nv cv]] w fun r w' => r = .returned (.int .i64 1) ∧ Below w.heap.size w w' := by
  go_enter Tryd.func7, Tryd.ntmps7
  go_wp2
  go_ret
  exact ⟨rfl, below_alloc' (Below.refl _ _) _⟩
set_option maxHeartbeats 8000000 in
set_option maxRecDepth 100000 in
theorem add_bad (bm : Nat) (Ak : Option Addr) (nk ck : Nat) (s : Int) (g : Bool) (u : Int) (Av : Option Addr) (nv cv : Nat) (w : World) (hk : nk ≤ 9223372036854775807) (hv : nv ≤ 9223372036854775807) (hm : mayN nk s g u nv = false) :
    Calls Tryd.prog 7 #[.pointer (some ⟨bm, 0, none⟩), .agg #[.slice Ak nk ck, .int .i64 s, .bool g, .int .i64 u, .slice Av nv cv]] w fun r w' => r = .returned (.int .i64 1) ∧ Below w.heap.size w w' := by
  have HM := hid hm
  clear hm
  go_enter Tryd.func7, Tryd.ntmps7
  have hB0 : Below w.heap.size w (w.alloc (.cells #[.slice Ak nk ck, .int .i64 s, .bool g, .int .i64 u, .slice Av nv cv] 29)) := below_alloc' (Below.refl _ _) _
  go_wp2_with (go_at_call 22; (with_reducible refine (may_any Ak nk ck s g u Av nv cv _ hk hv).mono ?_); rintro r w1 ⟨rfl, hb1⟩; rw [HM.out]; have hB1 := below_then hB0 hb1)
  go_ret
  exact ⟨rfl, hB1⟩
set_option maxHeartbeats 32000000 in
set_option maxRecDepth 100000 in
theorem add_old (base bm n : Nat) (wt : Int) (A m : List NodeR) (x : NodeR) (Ak : Option Addr) (nk ck : Nat) (key : List UInt8) (s : Int) (g : Bool) (u : Int) (Av : Option Addr) (nv cv : Nat) (w : World)
    (hS : SL w base bm (A ++ x :: m) n wt) (hk : RB w Ak nk key) (hvm : nv ≤ 9223372036854775807) (hm : mayN nk s g u nv = true) (hx1 : 1 ≤ nHt x)
    (hA : ∀ x ∈ A, aheadK (nEnt x) key s = true) (hB : ∀ y ∈ x :: m, aheadK (nEnt y) key s = false) (hs : eSeq (nEnt x) = s) (hke : eKey (nEnt x) = key) :
    Calls Tryd.prog 7 #[.pointer (some ⟨bm, 0, none⟩), .agg #[.slice Ak nk ck, .int .i64 s, .bool g, .int .i64 u, .slice Av nv cv]] w fun r w' => r = .returned (.int .i64 6) ∧ Below w.heap.size w w' := by
  have hkm := hk.2.1
  have HP := hid (fun (w' : World) (hb : Below w.heap.size w w') => seek_lit base bm n wt A (x :: m) Ak nk ck key s w' (hS.below hb) (hk.below hb) hA hB)
  have HM : Hid (mayN nk s g u nv = true) := hm
  have HS := hid hS
  have HK := hid hk
  clear hS hk hm hA hB
  go_enter Tryd.func7, Tryd.ntmps7
  have hbx := heap_alloc_new w (.cells #[.slice Ak nk ck, .int .i64 s, .bool g, .int .i64 u, .slice Av nv cv] 29)
  have hB0 : Below w.heap.size w (w.alloc (.cells #[.slice Ak nk ck, .int .i64 s, .bool g, .int .i64 u, .slice Av nv cv] 29)) := below_alloc' (Below.refl _ _) _
  go_upto_region 4 with (first
    | (go_at_call 22; (with_reducible refine (may_any Ak nk ck s g u Av nv cv _ hkm hvm).mono ?_); rintro r w1 ⟨rfl, hb1⟩; rw [HM.out]; have hB1 := below_then hB0 hb1; have hbx1 := blk_below hb1 hbx; have p0 := box_at hbx1 0 _ rfl; have p1 := box_at hbx1 1 _ rfl)
    | (go_at_call 23; (with_reducible refine (HP.out _ hB1).mono ?_); rintro r w2 ⟨rfl, hb2⟩; have hB2 := below_then hB1 hb2; have hbx2 := blk_below hb2 hbx1))
  have hp3 := heap_alloc_new w2 (.cells #[.pointer (some ⟨lastAt 0 bm A, 0, none⟩), .pointer (some ⟨lastAt 1 bm A, 0, none⟩), .pointer (some ⟨lastAt 2 bm A, 0, none⟩), .pointer (some ⟨lastAt 3 bm A, 0, none⟩), .pointer (some ⟨lastAt 4 bm A, 0, none⟩), .pointer (some ⟨lastAt 5 bm A, 0, none⟩), .pointer (some ⟨lastAt 6 bm A, 0, none⟩), .pointer (some ⟨lastAt 7 bm A, 0, none⟩)] 50)
  have hB23 : Below w2.heap.size w2 (w2.alloc (.cells #[.pointer (some ⟨lastAt 0 bm A, 0, none⟩), .pointer (some ⟨lastAt 1 bm A, 0, none⟩), .pointer (some ⟨lastAt 2 bm A, 0, none⟩), .pointer (some ⟨lastAt 3 bm A, 0, none⟩), .pointer (some ⟨lastAt 4 bm A, 0, none⟩), .pointer (some ⟨lastAt 5 bm A, 0, none⟩), .pointer (some ⟨lastAt 6 bm A, 0, none⟩), .pointer (some ⟨lastAt 7 bm A, 0, none⟩)] 50)) := below_alloc' (Below.refl _ _) _
  have hB3 := below_then hB2 hB23
  have hbx3 := blk_below hB23 hbx2
  have hg5 : w.heap.size < w2.heap.size := lt_of_blk hbx2
  generalize w2.alloc (.cells #[.pointer (some ⟨lastAt 0 bm A, 0, none⟩), .pointer (some ⟨lastAt 1 bm A, 0, none⟩), .pointer (some ⟨lastAt 2 bm A, 0, none⟩), .pointer (some ⟨lastAt 3 bm A, 0, none⟩), .pointer (some ⟨lastAt 4 bm A, 0, none⟩), .pointer (some ⟨lastAt 5 bm A, 0, none⟩), .pointer (some ⟨lastAt 6 bm A, 0, none⟩), .pointer (some ⟨lastAt 7 bm A, 0, none⟩)] 50) = W3 at *
  generalize w2.heap.size = g5 at *
  clear hb1 hb2 hB1 hB2 hbx1 hbx2 hB23 p0 p1 hbx hB0 HP
  have HS3 := hid (HS.out.below hB3)
  have q5 := box_at hp3 0 _ rfl
  have q6 := HS3.out.at_last (k := 0) (by decide)
  rw [Nat.add_zero] at q6
  have hnx : firstAt 0 (x :: m) = .pointer (some ⟨nBlk x, 0, none⟩) := by
    unfold firstAt
    rw [if_pos (by omega)]
    rfl
  rw [hnx] at q6
  go_upto_region 5 with fail
  have r0 := box_at hbx3 0 _ rfl
  have r1 := box_at hbx3 1 _ rfl
  obtain ⟨hxb, hxk, hxv, _⟩ := HS3.out.2.get
  obtain ⟨Ax, cx, hxe, hxr, _⟩ := OB.open_ hxk
  have x0 := box_at hxb 0 (nKv x) rfl
  have x1 := box_at hxb 1 (.int .i64 (eSeq (nEnt x))) rfl
  rw [hxe] at x0
  have HXR := hid hxr
  have HK3 := hid (HK.out.below hB3)
  clear hxr hxk hxv hxe hxb
  generalize nEnt x = ex at *
  have hd : (eSeq ex == s) = true := by simpa using hs
  have HNE : Hid (decide (eKey ex = key) = true) := by unfold Hid; simpa using hke
  clear hs hke
  go_quiet (first | (go_at_call 24; refine Calls.quiet_of_same (v := .bool true) ((equal_any Ax (eKey ex).length cx (eKey ex) Ak nk ck key _ (HXR.out.drewN _) (HK3.out.drewN _)).mono ?_); rintro r w1 ⟨rfl, rfl⟩; exact ⟨(by rw [HNE.out]), rfl⟩))
  go_wp2
  go_ret
  exact ⟨rfl, below_drewN hB3 _⟩
end Go.Proofs.YtkkclkknpjapcaaDoor
