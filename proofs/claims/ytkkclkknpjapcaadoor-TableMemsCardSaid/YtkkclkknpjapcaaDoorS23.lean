/- Shared texts, part S23: BkN. -/
import Derived.Deep.Cut
import Derived.Test.YtkkclkknpjapcaaDoorS22
/-! ### BkN -/
namespace Go.Proofs.YtkkclkknpjapcaaDoor
open Go.RowKit
set_option linter.unusedVariables false
set_option linter.unusedSimpArgs false

/-- What entry holds: the reader's box b, its own box, the result's box. -/
def StE (wb w wx : World) (b : Nat) (xs last : List UInt8) (kv : Value) (key : List UInt8) (s : Int) (g : Bool) (t : Int) (vv : Value) (val : List UInt8) : Prop :=
  (∃ A n c L m d, RdB wb wx b A n c xs L m d last) ∧ wx.heap[w.heap.size + 1]? = some (.cells #[kv, .int .i64 s, .bool g, .int .i64 t, vv] 29 (0, 0)) ∧ OB wx w.heap.size kv key ∧ OB wx w.heap.size vv val ∧
  wx.heap[w.heap.size]? = some (.cells #[.slice none 0 0, .int .i64 0, .bool false, .int .i64 0, .slice none 0 0] 29 (0, 0)) ∧ w.grownBy wx (some b) ∧ b < w.heap.size
theorem addr_zero (a : Addr) : a.add 0 = a := by simp [Addr.add]
theorem grown_own {w wx : World} {row : Option Nat} (h : w.grownBy wx row) {b : Nat} (hb : w.heap.size ≤ b) (i : Nat) (v : Value) : w.grownBy (wx.setCell ⟨b, i, none⟩ v) row := by
  have g := grown_set wx b i v
  exact ⟨g.os.trans h.os, g.tape.trans h.tape, g.output.trans h.output, Nat.le_trans h.size g.size, fun k hk hne => (g.block k (Nat.lt_of_lt_of_le hk h.size) (by intro e; have := Option.some.inj e; omega)).trans (h.block k hk hne)⟩
theorem OB.setE {w : World} {e base : Nat} {v0 : Value} {xs : List UInt8} {cs : Array Value} (h : OB w base v0 xs) (hb : w.heap[e]? = some (.cells cs 29 (0, 0))) (i : Nat) (v : Value) : OB (w.setCell ⟨e, i, none⟩ v) base v0 xs := h.other (grown_set w e i v) (.inr (h.ne_blk hb (by decide)))
section
variable {wb w wx w' : World} {b : Nat} {xs last : List UInt8} {kv : Value} {key : List UInt8} {s : Int} {g : Bool} {t : Int} {vv : Value} {val : List UInt8}
theorem StE.rest (h : StE wb w wx b xs last kv key s g t vv val) (i : Nat) (v : Value) : (∃ A n c L m d, RdB wb (wx.setCell ⟨w.heap.size + 1, i, none⟩ v) b A n c xs L m d last) ∧ OB (wx.setCell ⟨w.heap.size + 1, i, none⟩ v) w.heap.size kv key ∧ OB (wx.setCell ⟨w.heap.size + 1, i, none⟩ v) w.heap.size vv val ∧
    (wx.setCell ⟨w.heap.size + 1, i, none⟩ v).heap[w.heap.size]? = some (.cells #[.slice none 0 0, .int .i64 0, .bool false, .int .i64 0, .slice none 0 0] 29 (0, 0)) ∧ w.grownBy (wx.setCell ⟨w.heap.size + 1, i, none⟩ v) (some b) ∧ b < w.heap.size := by
  obtain ⟨⟨A, n, c, L, m, d, h1⟩, h2, h3, h4, h5, h6, h7⟩ := h
  exact ⟨⟨A, n, c, L, m, d, h1.other (grown_set _ _ i v) h2 (by decide) (by decide) (by have := h1.2.2.2.2.2.2.2; omega)⟩, h3.setE h2 i v, h4.setE h2 i v, blk_grown' (grown_set _ _ i v) h5 (by intro e; have := Option.some.inj e; omega), grown_own h6 (by omega) i v, h7⟩
theorem StE.setS (h : StE wb w wx b xs last kv key s g t vv val) (s2 : Int) : StE wb w (wx.setCell ⟨w.heap.size + 1, 1, none⟩ (.int .i64 s2)) b xs last kv key s2 g t vv val := by
  obtain ⟨r1, r2, r3, r4, r5, r6⟩ := h.rest 1 (.int .i64 s2)
  exact ⟨r1, heap_setCell_same _ _ 1 _ _ _ h.2.1, r2, r3, r4, r5, r6⟩
theorem StE.setG (h : StE wb w wx b xs last kv key s g t vv val) (s2 : Bool) : StE wb w (wx.setCell ⟨w.heap.size + 1, 2, none⟩ (.bool s2)) b xs last kv key s s2 t vv val := by
  obtain ⟨r1, r2, r3, r4, r5, r6⟩ := h.rest 2 (.bool s2)
  exact ⟨r1, heap_setCell_same _ _ 2 _ _ _ h.2.1, r2, r3, r4, r5, r6⟩
theorem StE.setT (h : StE wb w wx b xs last kv key s g t vv val) (s2 : Int) : StE wb w (wx.setCell ⟨w.heap.size + 1, 3, none⟩ (.int .i64 s2)) b xs last kv key s g s2 vv val := by
  obtain ⟨r1, r2, r3, r4, r5, r6⟩ := h.rest 3 (.int .i64 s2)
  exact ⟨r1, heap_setCell_same _ _ 3 _ _ _ h.2.1, r2, r3, r4, r5, r6⟩
theorem StE.setK (h : StE wb w wx b xs last kv key s g t vv val) {v2 : Value} {k2 : List UInt8} (ho : OB wx w.heap.size v2 k2) : StE wb w (wx.setCell ⟨w.heap.size + 1, 0, none⟩ v2) b xs last v2 k2 s g t vv val := by
  obtain ⟨r1, r2, r3, r4, r5, r6⟩ := h.rest 0 v2
  exact ⟨r1, heap_setCell_same _ _ 0 _ _ _ h.2.1, ho.setE h.2.1 0 v2, r3, r4, r5, r6⟩
theorem StE.setV (h : StE wb w wx b xs last kv key s g t vv val) {v2 : Value} {k2 : List UInt8} (ho : OB wx w.heap.size v2 k2) : StE wb w (wx.setCell ⟨w.heap.size + 1, 4, none⟩ v2) b xs last kv key s g t v2 k2 := by
  obtain ⟨r1, r2, r3, r4, r5, r6⟩ := h.rest 4 v2
  exact ⟨r1, heap_setCell_same _ _ 4 _ _ _ h.2.1, r2, ho.setE h.2.1 4 v2, r4, r5, r6⟩
theorem StE.below (h : StE wb w wx b xs last kv key s g t vv val) (hb : Below wx.heap.size wx w') : StE wb w w' b xs last kv key s g t vv val := by
  obtain ⟨⟨A, n, c, L, m, d, h1⟩, h2, h3, h4, h5, h6, h7⟩ := h
  exact ⟨⟨A, n, c, L, m, d, h1.below hb⟩, blk_below hb h2, h3.below hb, h4.below hb, blk_below hb h5, grown_trans h6 (below_grown hb _), h7⟩
/-- The reader has gone on. -/
theorem StE.on (h : StE wb w wx b xs last kv key s g t vv val) (hg : wx.grownBy w' (some b)) {ys l2 : List UInt8} {A : Option Addr} {n c : Nat} {L : Option Addr} {m d : Nat} (hr : RdB wb w' b A n c ys L m d l2) : StE wb w w' b ys l2 kv key s g t vv val := by
  obtain ⟨⟨A0, n0, c0, L0, m0, d0, h1⟩, h2, h3, h4, h5, h6, h7⟩ := h
  exact ⟨⟨A, n, c, L, m, d, hr⟩, blk_grown' hg h2 (by intro e; have := Option.some.inj e; omega), h3.other hg (.inr (h3.ne_blk h1.1 (by decide))), h4.other hg (.inr (h4.ne_blk h1.1 (by decide))), blk_grown' hg h5 (by intro e; have := Option.some.inj e; omega), grown_trans h6 hg, h7⟩
theorem StE.boxes (h : StE wb w wx b xs last kv key s g t vv val) : (wx.cell? ⟨w.heap.size + 1, 0, none⟩ = some kv ∧ wx.cell? ⟨w.heap.size + 1, 1, none⟩ = some (.int .i64 s) ∧ wx.cell? ⟨w.heap.size + 1, 2, none⟩ = some (.bool g) ∧ wx.cell? ⟨w.heap.size + 1, 3, none⟩ = some (.int .i64 t) ∧ wx.cell? ⟨w.heap.size + 1, 4, none⟩ = some vv) ∧ (∀ i, wx.frozen? ⟨w.heap.size + 1, i, none⟩ = false) ∧ (∀ i, wx.frozen? ⟨w.heap.size, i, none⟩ = false) :=
  ⟨⟨box_at h.2.1 0 _ rfl, box_at h.2.1 1 _ rfl, box_at h.2.1 2 _ rfl, box_at h.2.1 3 _ rfl, box_at h.2.1 4 _ rfl⟩, fun i => frozen_of_row _ _ i _ _ h.2.1, fun i => frozen_of_row _ _ i _ _ h.2.2.2.2.1⟩
theorem StE.zero (h : StE wb w wx b xs last kv key s g t vv val) : wx.cell? ⟨w.heap.size, 0, none⟩ = some (.slice none 0 0) ∧ wx.cell? ⟨w.heap.size, 1, none⟩ = some (.int .i64 0) ∧ wx.cell? ⟨w.heap.size, 2, none⟩ = some (.bool false) ∧ wx.cell? ⟨w.heap.size, 3, none⟩ = some (.int .i64 0) ∧ wx.cell? ⟨w.heap.size, 4, none⟩ = some (.slice none 0 0) :=
  ⟨box_at h.2.2.2.2.1 0 _ rfl, box_at h.2.2.2.2.1 1 _ rfl, box_at h.2.2.2.2.1 2 _ rfl, box_at h.2.2.2.2.1 3 _ rfl, box_at h.2.2.2.2.1 4 _ rfl⟩
end
theorem takeB_le (l : List UInt8) : (takeB l 2048).2.1 ≤ l.length := by
  have := (takeU_lt l).2.1
  unfold takeB
  split
  · exact Nat.zero_le _
  · split
    · exact Nat.zero_le _
    · split
      · exact Nat.zero_le _
      · show (takeU l).2.1 + (takeU l).1 ≤ l.length
        omega
theorem takeB_er' (l : List UInt8) (most : Int) : (takeB l most).2.2 ≤ 5 := by
  have := (takeU_lt l).2.2.2
  unfold takeB
  split
  · exact this
  · split
    · exact show 2 ≤ 5 by decide
    · split
      · exact show 5 ≤ 5 by decide
      · exact show 0 ≤ 5 by decide
theorem own5 {w wx : World} {row : Option Nat} (h : w.grownBy wx row) (c0 c1 c2 c3 c4 : Value) : w.grownBy (((((wx.setCell ⟨w.heap.size, 0, none⟩ c0).setCell ⟨w.heap.size, 1, none⟩ c1).setCell ⟨w.heap.size, 2, none⟩ c2).setCell ⟨w.heap.size, 3, none⟩ c3).setCell ⟨w.heap.size, 4, none⟩ c4) row :=
  grown_own (grown_own (grown_own (grown_own (grown_own h (Nat.le_refl _) 0 c0) (Nat.le_refl _) 1 c1) (Nat.le_refl _) 2 c2) (Nat.le_refl _) 3 c3) (Nat.le_refl _) 4 c4
theorem StE.fin {wb w wx : World} {b : Nat} {xs last : List UInt8} {kv : Value} {key : List UInt8} {s : Int} {g : Bool} {t : Int} {vv : Value} {val : List UInt8} (h : StE wb w wx b xs last kv key s g t vv val) (c0 c1 c2 c3 c4 : Value) :
    OB (((((wx.setCell ⟨w.heap.size, 0, none⟩ c0).setCell ⟨w.heap.size, 1, none⟩ c1).setCell ⟨w.heap.size, 2, none⟩ c2).setCell ⟨w.heap.size, 3, none⟩ c3).setCell ⟨w.heap.size, 4, none⟩ c4) w.heap.size kv key ∧
    OB (((((wx.setCell ⟨w.heap.size, 0, none⟩ c0).setCell ⟨w.heap.size, 1, none⟩ c1).setCell ⟨w.heap.size, 2, none⟩ c2).setCell ⟨w.heap.size, 3, none⟩ c3).setCell ⟨w.heap.size, 4, none⟩ c4) w.heap.size vv val ∧
    (∃ A n c L m d, RdB wb (((((wx.setCell ⟨w.heap.size, 0, none⟩ c0).setCell ⟨w.heap.size, 1, none⟩ c1).setCell ⟨w.heap.size, 2, none⟩ c2).setCell ⟨w.heap.size, 3, none⟩ c3).setCell ⟨w.heap.size, 4, none⟩ c4) b A n c xs L m d last) ∧
    w.grownBy (((((wx.setCell ⟨w.heap.size, 0, none⟩ c0).setCell ⟨w.heap.size, 1, none⟩ c1).setCell ⟨w.heap.size, 2, none⟩ c2).setCell ⟨w.heap.size, 3, none⟩ c3).setCell ⟨w.heap.size, 4, none⟩ c4) (some b) := by
  obtain ⟨⟨A, n, c, L, m, d, h1⟩, h2, h3, h4, h5, h6, h7⟩ := h
  have hgf := grown_set5 wx w.heap.size c0 c1 c2 c3 c4
  exact ⟨h3.other hgf (.inr (h3.ne_blk h5 (by decide))), h4.other hgf (.inr (h4.ne_blk h5 (by decide))), ⟨A, n, c, L, m, d, h1.other hgf h5 (by decide) (by decide) (by have := h1.2.2.2.2.2.2.2; omega)⟩, own5 h6 _ _ _ _ _⟩
/-- What entry leaves. -/
def EntyC (wb w w' : World) (b : Nat) (xs last : List UInt8) (r : Ending) : Prop :=
  match entK xs last with
  | none => (∃ e : Int, e ≠ 0 ∧ r = .returned (.tuple #[.agg #[.slice none 0 0, .int .i64 0, .bool false, .int .i64 0, .slice none 0 0], .int .i64 e])) ∧ w.grownBy w' (some b)
  | some (x, ys) => ∃ kv vv, r = .returned (.tuple #[.agg #[kv, .int .i64 (eSeq x), .bool (eGone x), .int .i64 (eTil x), vv], .int .i64 0]) ∧ OB w' w.heap.size kv (eKey x) ∧ OB w' w.heap.size vv (eVal x) ∧ (∃ A n c L m d, RdB wb w' b A n c ys L m d (eKey x)) ∧ w.grownBy w' (some b)
theorem EntyC.yes {wb w w' : World} {b : Nat} {xs last ys : List UInt8} {kv vv : Value} {key val : List UInt8} {s t : Int} {g : Bool} (h : entK xs last = some (mkEnt key s g t val, ys)) (h1 : OB w' w.heap.size kv key) (h2 : OB w' w.heap.size vv val) (h3 : ∃ A n c L m d, RdB wb w' b A n c ys L m d key) (h4 : w.grownBy w' (some b)) :
    EntyC wb w w' b xs last (.returned (.tuple #[.agg #[kv, .int .i64 s, .bool g, .int .i64 t, vv], .int .i64 0])) := by
  unfold EntyC
  rw [h]
  exact ⟨kv, vv, rfl, h1, h2, h3, h4⟩
/-- What is held at the label. -/
def EZ (w : World) (b : Nat) (EE : Option (EntR × List UInt8)) (a' : Act) (w' : World) : Prop := ∃ (er : Int) (u1 u3 u4 u5 u6 u8 u9 u10 u11 u12 u13 u14 u15 u16 u17 u18 u19 u20 u21 u22 u23 u24 u25 u26 u27 u28 u29 u30 u31 u32 u33 u34 u35 u36 u37 u38 u39 u40 u41 u42 u43 u44 u45 u46 u47 u48 u49 u50 u51 u52 u53 u54 u55 u56 u57 u58 u59 u60 u61 u62 u63 u64 u65 u66 u67 u68 u69 u70 u71 u72 u73 u74 u75 u76 u77 u78 u79 u80 u81 u82 u83 u84 u85 u86 u87 u88 u89 u90 u91 u92 u93 : Value), a' = { tmps := #[.pointer (some ⟨b, 0, none⟩), u1, .pointer (some ⟨w.heap.size, 0, none⟩), u3, u4, u5, u6, .int .i64 er, u8, u9, u10, u11, u12, u13, u14, u15, u16, u17, u18, u19, u20, u21, u22, u23, u24, u25, u26, u27, u28, u29, u30, u31, u32, u33, u34, u35, u36, u37, u38, u39, u40, u41, u42, u43, u44, u45, u46, u47, u48, u49, u50, u51, u52, u53, u54, u55, u56, u57, u58, u59, u60, u61, u62, u63, u64, u65, u66, u67, u68, u69, u70, u71, u72, u73, u74, u75, u76, u77, u78, u79, u80, u81, u82, u83, u84, u85, u86, u87, u88, u89, u90, u91, u92, u93], defers := [] } ∧ er ≠ 0 ∧ EE = none ∧ w'.heap[w.heap.size]? = some (.cells #[.slice none 0 0, .int .i64 0, .bool false, .int .i64 0, .slice none 0 0] 29 (0, 0)) ∧ w.grownBy w' (some b)
theorem StE.gone_ {wb w wx : World} {b : Nat} {xs last : List UInt8} {kv : Value} {key : List UInt8} {s : Int} {g : Bool} {t : Int} {vv : Value} {val : List UInt8} (h : StE wb w wx b xs last kv key s g t vv val) : wx.heap[w.heap.size]? = some (.cells #[.slice none 0 0, .int .i64 0, .bool false, .int .i64 0, .slice none 0 0] 29 (0, 0)) ∧ w.grownBy wx (some b) := ⟨h.2.2.2.2.1, h.2.2.2.2.2.1⟩
set_option maxHeartbeats 64000000 in
set_option maxRecDepth 200000 in
theorem entry_any (b : Nat) (A : Option Addr) (n c : Nat) (xs : List UInt8) (L : Option Addr) (m d : Nat) (last : List UInt8) (wb w : World) (h : RdB wb w b A n c xs L m d last) :
    Calls Tryd.prog 65 #[.pointer (some ⟨b, 0, none⟩)] w fun r w' => EntyC wb w w' b xs last r := by
  have hbw := h.lt
  have HLe : Hid (wb.heap.size ≤ w.heap.size + 1) := hid (by have := h.2.2.2.2.2.2.2; omega)
  have e1 : (w.alloc (.cells #[.slice none 0 0, .int .i64 0, .bool false, .int .i64 0, .slice none 0 0] 29)).heap.size = w.heap.size + 1 := by simp
  have hzR := blk_below (below_alloc' (Below.refl _ _) (.cells #[.slice none 0 0, .int .i64 0, .bool false, .int .i64 0, .slice none 0 0] 29)) (heap_alloc_new w (.cells #[.slice none 0 0, .int .i64 0, .bool false, .int .i64 0, .slice none 0 0] 29))
  have hzO := heap_alloc_new (w.alloc (.cells #[.slice none 0 0, .int .i64 0, .bool false, .int .i64 0, .slice none 0 0] 29)) (.cells #[.slice none 0 0, .int .i64 0, .bool false, .int .i64 0, .slice none 0 0] 29)
  rw [e1] at hzO
  have hB0 := below_alloc' (below_alloc' (Below.refl w.heap.size w) (.cells #[.slice none 0 0, .int .i64 0, .bool false, .int .i64 0, .slice none 0 0] 29)) (.cells #[.slice none 0 0, .int .i64 0, .bool false, .int .i64 0, .slice none 0 0] 29)
  have hS0 : StE wb w ((w.alloc (.cells #[.slice none 0 0, .int .i64 0, .bool false, .int .i64 0, .slice none 0 0] 29)).alloc (.cells #[.slice none 0 0, .int .i64 0, .bool false, .int .i64 0, .slice none 0 0] 29)) b xs last (.slice none 0 0) [] 0 false 0 (.slice none 0 0) [] := ⟨⟨A, n, c, L, m, d, h.below hB0⟩, hzO, OB.nil _ _, OB.nil _ _, hzR, below_grown hB0 _, hbw⟩
  have HK := hid (key_any b A n c xs L m d last wb _ (h.below hB0))
  have e0 : ((w.alloc (.cells #[.slice none 0 0, .int .i64 0, .bool false, .int .i64 0, .slice none 0 0] 29)).alloc (.cells #[.slice none 0 0, .int .i64 0, .bool false, .int .i64 0, .slice none 0 0] 29)).heap.size = w.heap.size + 1 + 1 := by simp
  have HS0 := hid hS0
  have HE0 := hid e0
  clear h hzR hzO hB0 e1 e0 hS0
  obtain ⟨EE, hEE⟩ : ∃ EE, EE = entK xs last := ⟨_, rfl⟩
  have HEE := hid hEE
  unfold entK at hEE
  go_enter Tryd.func65, Tryd.ntmps65
  go_wp2
  refine wp_scope_ghost 0 (fun _ => EZ w b EE) rfl ?_ ?_
  · rintro k a' w' hz
    unfold EZ at hz
    obtain ⟨er, u1, u3, u4, u5, u6, u8, u9, u10, u11, u12, u13, u14, u15, u16, u17, u18, u19, u20, u21, u22, u23, u24, u25, u26, u27, u28, u29, u30, u31, u32, u33, u34, u35, u36, u37, u38, u39, u40, u41, u42, u43, u44, u45, u46, u47, u48, u49, u50, u51, u52, u53, u54, u55, u56, u57, u58, u59, u60, u61, u62, u63, u64, u65, u66, u67, u68, u69, u70, u71, u72, u73, u74, u75, u76, u77, u78, u79, u80, u81, u82, u83, u84, u85, u86, u87, u88, u89, u90, u91, u92, u93, rfl, her, hno, hzr, hgr⟩ := hz
    have HNo := hid hno
    clear hno
    have z0 := box_at hzr 0 _ rfl
    have z1 := box_at hzr 1 _ rfl
    have z2 := box_at hzr 2 _ rfl
    have z3 := box_at hzr 3 _ rfl
    have z4 := box_at hzr 4 _ rfl
    have f4 := fun i => frozen_of_row w' w.heap.size i _ _ hzr
    have hfin := set5 (.slice none 0 0) (.int .i64 0) (.bool false) (.int .i64 0) (.slice none 0 0) hzr
    have hgf := grown_own (grown_own (grown_own (grown_own (grown_own hgr (Nat.le_refl _) 0 (.slice none 0 0)) (Nat.le_refl _) 1 (.int .i64 0)) (Nat.le_refl _) 2 (.bool false)) (Nat.le_refl _) 3 (.int .i64 0)) (Nat.le_refl _) 4 (.slice none 0 0)
    clear hzr hgr
    go_wp2
    simp only [Exit.jump]
    exact bodyPost_ret (results_box2 (fn := Tryd.f65) (p := 2) (u := 3) (ty := 29) rfl _ _ w.heap.size 29 _ (0, 0) _ rfl hfin Tryd.underlying29 rfl entry5) rfl (by unfold EntyC; rw [← HEE.out, HNo.out]; exact ⟨⟨er, her, rfl⟩, hgf⟩)
  intro hpass
  cases hkk : keyK xs last with
  | none =>
    rw [hkk] at hEE
    have HKK := hid hkk
    have HE : Hid (EE = none) := hid hEE
    clear hEE hkk
    go_wp2_with (go_at_call 67; refine (HK.out).mono ?_; intro r w1 hkc; unfold KeyC at hkc; rw [HKK.out] at hkc; obtain ⟨⟨er, her, rfl⟩, hg1, hB1⟩ := hkc; have hO1 := blk_grown' hg1 HS0.out.2.1 (by intro e; have := Option.some.inj e; omega); have hZ1 := blk_grown' hg1 HS0.out.gone_.1 (by intro e; have := Option.some.inj e; omega); have c0 := box_at hO1 0 _ rfl; have fO := fun i => frozen_of_row w1 (w.heap.size + 1) i _ _ hO1; have hzb : (er != 0) = true := by simpa using her)
    refine wp_goto ⟨rfl, 0, ?_⟩
    unfold EZ
    exact ⟨er, _, _, _, _, _, _, _, _, _, _, _, _, _, _, _, _, _, _, _, _, _, _, _, _, _, _, _, _, _, _, _, _, _, _, _, _, _, _, _, _, _, _, _, _, _, _, _, _, _, _, _, _, _, _, _, _, _, _, _, _, _, _, _, _, _, _, _, _, _, _, _, _, _, _, _, _, _, _, _, _, _, _, _, _, _, _, _, _, _, _, _, rfl, her, HE.out, (blk_grown' (grown_set _ _ 0 _) hZ1 (by intro e; have := Option.some.inj e; omega)), (grown_own (grown_trans HS0.out.gone_.2 hg1) (by omega) _ _)⟩
  | some p =>
    obtain ⟨key, rr⟩ := p
    rw [hkk] at hEE
    have hE2 : EE = seqK key rr := hEE
    clear hEE
    have HKK := hid hkk
    clear hkk
    go_upto_region 7 with (go_at_call 67; refine (HK.out).mono ?_; intro r w1 hkc; unfold KeyC at hkc; rw [HKK.out] at hkc; obtain ⟨v1, A1, n1, c1, L1, m1, d1, rfl, ho1, hr1, hg1, hB1⟩ := hkc; obtain ⟨Ak1, ck1, rfl, _, _⟩ := ho1.open_; have ho1 := ho1.mono (show w.heap.size ≤ _ by rw [HE0.out]; omega); have hx1 := HS0.out.on hg1 hr1; obtain ⟨⟨j0, j1, j2, j3, j4⟩, fO1, fR1⟩ := hx1.boxes; have HX1 := hid (hx1.setK ho1); clear hx1 hr1 ho1 hB1)
    generalize w1.setCell ⟨w.heap.size + 1, 0, none⟩ (.slice Ak1 key.length ck1) = wA at *
    clear j0 j1 j2 j3 j4 fO1 fR1 hg1 HK HS0 HE0 HKK
    unfold seqK at hE2
    obtain ⟨hu1, hk1, _, he1⟩ := takeU_lt rr
    have HN1 : Hid (∃ A2 n2 c2 L2 m2 d2, RdB wb wA b A2 n2 c2 rr L2 m2 d2 key ∧ Calls Tryd.prog 68 #[.pointer (some ⟨b, 0, none⟩)] wA fun r w' => NumC wb wA w' b A2 n2 c2 rr L2 m2 d2 key r) := by
      obtain ⟨A2, n2, c2, L2, m2, d2, hr2⟩ := HX1.out.1
      exact ⟨A2, n2, c2, L2, m2, d2, hr2, number_any b A2 n2 c2 _ L2 m2 d2 _ wb _ hr2⟩
    unfold NumC at HN1
    generalize (takeU rr).1 = u1 at *
    generalize rr.drop (takeU rr).2.1 = r3 at *
    generalize (takeU rr).2.2 = e1 at *
    clear hk1
    obtain ⟨A2, n2, c2, L2, m2, d2, hr2, hn2⟩ := HN1.out
    have HNc := hid hn2
    clear hr2 hn2 HN1
    by_cases h1 : e1 = 0
    · subst h1
      rw [if_neg (by omega)] at hE2
      go_upto_region 10 with (go_at_call 68; refine (HNc.out).mono ?_; rintro r w2 ⟨A3, c3, rfl, hr3, hg3, hB3⟩; have hx2 := HX1.out.on hg3 hr3; have l1 := hx2.boxes.1.2.1; have fO2 := hx2.boxes.2.1; have HX3 := hid (hx2.setS (wrap64 (u1 : Int))); clear hx2 hr3 hB3 hg3)
      generalize w2.setCell ⟨w.heap.size + 1, 1, none⟩ (.int .i64 (wrap64 (u1 : Int))) = wB at *
      clear l1 fO2 HNc HX1
      obtain ⟨A4, n4, c4, L4, m4, d4, hr4⟩ := HX3.out.1
      obtain ⟨q0, q1, qf⟩ := hr4.at_
      have hn4 := hr4.2.1.1
      have hc4 := hr4.2.2.1
      have hm4 := hr4.2.2.2.1
      have x2 := HX3.out.boxes.1.2.2.1
      have fO3 := HX3.out.boxes.2.1
      have HR4 := hid hr4
      clear hr4
      cases r3 with
      | nil =>
        have HE : Hid (EE = none) := hid hE2
        clear hE2
        simp only [List.length_nil] at hn4
        subst hn4
        go_wp2
        refine wp_goto ⟨rfl, 0, ?_⟩
        unfold EZ
        exact ⟨5, _, _, _, _, _, _, _, _, _, _, _, _, _, _, _, _, _, _, _, _, _, _, _, _, _, _, _, _, _, _, _, _, _, _, _, _, _, _, _, _, _, _, _, _, _, _, _, _, _, _, _, _, _, _, _, _, _, _, _, _, _, _, _, _, _, _, _, _, _, _, _, _, _, _, _, _, _, _, _, _, _, _, _, _, _, _, _, _, _, _, _, rfl, (by omega), HE.out, HX3.out.gone_.1, HX3.out.gone_.2⟩
      | cons f r4 =>
        have hE3 : EE = if 1 < f.toNat then none else if f.toNat = 1 then some (mkEnt key (wrap64 u1) true 0 [], r4) else valK key (wrap64 u1) r4 := hE2
        clear hE2
        have hn5 : n4 = r4.length + 1 := by rw [← hn4]; rfl
        subst hn5
        obtain ⟨ad, hA4, hc0⟩ := HR4.out.rb.at_ (show 0 < r4.length + 1 by omega)
        subst hA4
        have hcc : wB.cell? ad = some (.int .u8 (f.toNat : Int)) := by rw [← addr_zero ad]; exact hc0
        clear hc0 hn4
        by_cases h2 : 1 < f.toNat
        · rw [if_pos h2] at hE3
          have HE : Hid (EE = none) := hid hE3
          have hd2 : decide ((1 : Int) < (f.toNat : Int)) = true := decide_eq_true (by omega)
          clear hE3
          go_wp2
          refine wp_goto ⟨rfl, 0, ?_⟩
          unfold EZ
          exact ⟨3, _, _, _, _, _, _, _, _, _, _, _, _, _, _, _, _, _, _, _, _, _, _, _, _, _, _, _, _, _, _, _, _, _, _, _, _, _, _, _, _, _, _, _, _, _, _, _, _, _, _, _, _, _, _, _, _, _, _, _, _, _, _, _, _, _, _, _, _, _, _, _, _, _, _, _, _, _, _, _, _, _, _, _, _, _, _, _, _, _, _, _, rfl, (by omega), HE.out, HX3.out.gone_.1, HX3.out.gone_.2⟩
        · rw [if_neg h2] at hE3
          have hd2 : decide ((1 : Int) < (f.toNat : Int)) = false := decide_eq_false (by omega)
          obtain ⟨A5, c5, hcut0, hrb0, hc50⟩ := cutB_lo (A := some ad) hc4 (lo := 1) (by omega) (1 : Int) rfl
          have hcut : ∀ w, (Instr.slice 23 (.slice (some ad) (r4.length + 1) c4) (some (.int .i64 1)) none none).run Tryd.prog w = .ok (.slice A5 r4.length c5) w := hcut0
          have hrb : ∀ w xs, RB w (some ad) (r4.length + 1) xs → RB w A5 r4.length (xs.drop 1) := hrb0
          have hc5 : r4.length ≤ c5 := hc50
          have HX5 : Hid (∀ g, StE wb w ((wB.setCell ⟨w.heap.size + 1, 2, none⟩ (.bool g)).setCell ⟨b, 0, none⟩ (.slice A5 r4.length c5)) b r4 key (.slice Ak1 key.length ck1) key (wrap64 (u1 : Int)) g 0 (.slice none 0 0) []) := hid (fun g => (HX3.out.setG g).on (grown_set _ b 0 _) ((HR4.out.other (grown_set _ _ 2 (.bool g)) HX3.out.2.1 (by decide) (by decide) HLe.out).cut (hrb _ _ HR4.out.2.1) hc5 (by omega)))
          clear hcut0 hrb0 hc50 hrb h2
          by_cases h3 : f.toNat = 1
          · rw [if_pos h3] at hE3
            have HE := hid hE3
            have hd3 : ((f.toNat : Int) == 1) = true := by rw [beq_iff_eq]; omega
            clear hE3 h3
            go_upto_region 16 with fail
            generalize hwC : (wB.setCell ⟨w.heap.size + 1, 2, none⟩ (.bool true)).setCell ⟨b, 0, none⟩ (.slice A5 r4.length c5) = wC at *
            have HX5 : Hid (StE wb w wC b r4 key (.slice Ak1 key.length ck1) key (wrap64 (u1 : Int)) true 0 (.slice none 0 0) []) := hid (by rw [← hwC]; exact HX5.out true)
            clear hwC HX3 HR4 q0 q1 qf x2 fO3 hcc hcut hd3 hd2 hc4 hc5
            obtain ⟨y0, y1, y2, y3, y4⟩ := HX5.out.boxes.1
            obtain ⟨z0, z1, z2, z3, z4⟩ := HX5.out.zero
            have f5 := HX5.out.boxes.2.2
            go_wp2
            simp only [Exit.jump]
            have hz5 := HX5.out.gone_.1
            have hfin := set5 (.slice Ak1 key.length ck1) (.int .i64 (wrap64 (u1 : Int))) (.bool true) (.int .i64 0) (.slice none 0 0) hz5
            exact bodyPost_ret (results_box2 (fn := Tryd.f65) (p := 2) (u := 3) (ty := 29) rfl _ _ w.heap.size 29 _ (0, 0) _ rfl hfin Tryd.underlying29 rfl entry5) rfl (EntyC.yes (HEE.out.symm.trans HE.out) (HX5.out.fin _ _ _ _ _).1 (HX5.out.fin _ _ _ _ _).2.1 (HX5.out.fin _ _ _ _ _).2.2.1 (HX5.out.fin _ _ _ _ _).2.2.2)
          · rw [if_neg h3] at hE3
            have hd3 : ((f.toNat : Int) == 1) = false := by rw [beq_eq_false_iff_ne]; omega
            clear h3
            go_upto_region 18 with fail
            generalize hwC : (wB.setCell ⟨w.heap.size + 1, 2, none⟩ (.bool false)).setCell ⟨b, 0, none⟩ (.slice A5 r4.length c5) = wC at *
            have HX5 : Hid (StE wb w wC b r4 key (.slice Ak1 key.length ck1) key (wrap64 (u1 : Int)) false 0 (.slice none 0 0) []) := hid (by rw [← hwC]; exact HX5.out false)
            clear hwC HX3 HR4 q0 q1 qf x2 fO3 hcc hcut hd3 hd2 hc4 hc5
            unfold valK at hE3
            obtain ⟨hu2, hk2, _, he2⟩ := takeU_lt r4
            have HN2 : Hid (∃ A2 n2 c2 L2 m2 d2, RdB wb wC b A2 n2 c2 r4 L2 m2 d2 key ∧ Calls Tryd.prog 68 #[.pointer (some ⟨b, 0, none⟩)] wC fun r w' => NumC wb wC w' b A2 n2 c2 r4 L2 m2 d2 key r) := by
              obtain ⟨A2, n2, c2, L2, m2, d2, hr2⟩ := HX5.out.1
              exact ⟨A2, n2, c2, L2, m2, d2, hr2, number_any b A2 n2 c2 _ L2 m2 d2 _ wb _ hr2⟩
            unfold NumC at HN2
            generalize (takeU r4).1 = u2 at *
            generalize r4.drop (takeU r4).2.1 = r5 at *
            generalize (takeU r4).2.2 = e2 at *
            clear hk2
            obtain ⟨A6, n6, c6, L6, m6, d6, hr6, hn6⟩ := HN2.out
            have HNd := hid hn6
            clear hr6 hn6 HN2
            by_cases h4 : e2 = 0
            · subst h4
              rw [if_neg (by omega)] at hE3
              go_upto_region 21 with (go_at_call 68; refine (HNd.out).mono ?_; rintro r w3 ⟨A7, c7, rfl, hr7, hg7, hB7⟩; have hx6 := HX5.out.on hg7 hr7; have o6 := hx6.boxes.1.2.2.2.1; have fO6 := hx6.boxes.2.1; have HX7 := hid (hx6.setT (wrap64 (u2 : Int))); clear hx6 hr7 hB7 hg7)
              generalize w3.setCell ⟨w.heap.size + 1, 3, none⟩ (.int .i64 (wrap64 (u2 : Int))) = wD at *
              clear o6 fO6 HNd HX5
              have hker := takeB_le r5
              have hke := takeB_er' r5 2048
              obtain ⟨A8, n8, c8, L8, m8, d8, hr8⟩ := HX7.out.1
              obtain ⟨p0, p1, pf⟩ := hr8.at_
              have HR8 := hid hr8
              have hn8 := hr8.2.1.1
              subst hn8
              have HTB := hid (takebytes_any A8 r5.length c8 r5 2048 wD hr8.rb hr8.2.2.1 (by omega) hr8.2.2.2.1)
              clear hr8
              generalize (takeB r5 2048).1 = vb at *
              generalize (takeB r5 2048).2.1 = kk at *
              generalize (takeB r5 2048).2.2 = e3 at *
              by_cases h5 : e3 = 0
              · subst h5
                rw [if_neg (by omega)] at hE3
                have HE := hid hE3
                clear hE3
                go_upto_region 23 with (go_at_call 54; refine (HTB.out).mono ?_; rintro r w4 ⟨v4, rfl, ho4, hb4⟩; obtain ⟨Av4, cv4, rfl, _, _⟩ := ho4.open_; have ho4 := ho4.mono (HX7.out.2.2.2.2.2.1.size); have hx8 := HX7.out.below hb4; have fO8 := hx8.boxes.2.1; have ov4 := hx8.boxes.1.2.2.2.2; have HR9 := hid ((HR8.out.below hb4).other (grown_set _ _ 4 (.slice Av4 vb.length cv4)) hx8.2.1 (by decide) (by decide) HLe.out); have HX9 := hid (hx8.setV ho4); clear hx8 ho4 hb4)
                generalize w4.setCell ⟨w.heap.size + 1, 4, none⟩ (.slice Av4 vb.length cv4) = wE at *
                clear fO8 ov4 HTB HR8 HX7 p0 p1 pf
                obtain ⟨t0, t1, tf⟩ := HR9.out.at_
                obtain ⟨A10, c10, hcut10, hrb10, hc10⟩ := cutB_lo (A := A8) HR9.out.2.2.1 (lo := kk) hker (kk : Int) rfl
                have HXa := hid (HX9.out.on (grown_set _ b 0 (.slice A10 (r5.length - kk) c10)) (HR9.out.cut (hrb10 _ _ HR9.out.2.1) hc10 (by omega)))
                clear hrb10
                go_upto_region 24 with fail
                generalize wE.setCell ⟨b, 0, none⟩ (.slice A10 (r5.length - kk) c10) = wF at *
                clear t0 t1 tf hcut10 HR9 HX9 hc10
                have HX5 := HXa
                obtain ⟨y0, y1, y2, y3, y4⟩ := HX5.out.boxes.1
                obtain ⟨z0, z1, z2, z3, z4⟩ := HX5.out.zero
                have f5 := HX5.out.boxes.2.2
                go_wp2
                simp only [Exit.jump]
                have hz5 := HX5.out.gone_.1
                have hfin := set5 (.slice Ak1 key.length ck1) (.int .i64 (wrap64 (u1 : Int))) (.bool false) (.int .i64 (wrap64 (u2 : Int))) (.slice Av4 vb.length cv4) hz5
                exact bodyPost_ret (results_box2 (fn := Tryd.f65) (p := 2) (u := 3) (ty := 29) rfl _ _ w.heap.size 29 _ (0, 0) _ rfl hfin Tryd.underlying29 rfl entry5) rfl (EntyC.yes (HEE.out.symm.trans HE.out) (HX5.out.fin _ _ _ _ _).1 (HX5.out.fin _ _ _ _ _).2.1 (HX5.out.fin _ _ _ _ _).2.2.1 (HX5.out.fin _ _ _ _ _).2.2.2)
              · rw [if_pos h5] at hE3
                have HE : Hid (EE = none) := hid hE3
                have hz : ((e3 : Int) != 0) = true := by simp; omega
                have hz2 : (e3 : Int) ≠ 0 := by omega
                clear hE3 h5
                go_wp2_with (go_at_call 54; refine (HTB.out).mono ?_; rintro r w4 ⟨v4, rfl, ho4, hb4⟩; obtain ⟨Av4, cv4, rfl, _, _⟩ := ho4.open_; have ho4 := ho4.mono (HX7.out.2.2.2.2.2.1.size); have hx8 := HX7.out.below hb4; have fO8 := hx8.boxes.2.1; have ov4 := hx8.boxes.1.2.2.2.2; have HR9 := hid ((HR8.out.below hb4).other (grown_set _ _ 4 (.slice Av4 vb.length cv4)) hx8.2.1 (by decide) (by decide) HLe.out); have HX9 := hid (hx8.setV ho4); clear hx8 ho4 hb4)
                refine wp_goto ⟨rfl, 0, ?_⟩
                unfold EZ
                exact ⟨_, _, _, _, _, _, _, _, _, _, _, _, _, _, _, _, _, _, _, _, _, _, _, _, _, _, _, _, _, _, _, _, _, _, _, _, _, _, _, _, _, _, _, _, _, _, _, _, _, _, _, _, _, _, _, _, _, _, _, _, _, _, _, _, _, _, _, _, _, _, _, _, _, _, _, _, _, _, _, _, _, _, _, _, _, _, _, _, _, _, _, _, rfl, hz2, HE.out, HX9.out.gone_.1, HX9.out.gone_.2⟩
            · rw [if_pos h4] at hE3
              have HE : Hid (EE = none) := hid hE3
              have hz : ((e2 : Int) != 0) = true := by simp; omega
              have hz2 : (e2 : Int) ≠ 0 := by omega
              clear hE3 h4
              go_wp2_with (go_at_call 68; refine (HNd.out).mono ?_; rintro r w3 ⟨A7, c7, rfl, hr7, hg7, hB7⟩; have hx6 := HX5.out.on hg7 hr7; have o6 := hx6.boxes.1.2.2.2.1; have fO6 := hx6.boxes.2.1; have HX6 := hid hx6.gone_; clear hx6 hr7 hB7)
              refine wp_goto ⟨rfl, 0, ?_⟩
              unfold EZ
              exact ⟨_, _, _, _, _, _, _, _, _, _, _, _, _, _, _, _, _, _, _, _, _, _, _, _, _, _, _, _, _, _, _, _, _, _, _, _, _, _, _, _, _, _, _, _, _, _, _, _, _, _, _, _, _, _, _, _, _, _, _, _, _, _, _, _, _, _, _, _, _, _, _, _, _, _, _, _, _, _, _, _, _, _, _, _, _, _, _, _, _, _, _, _, rfl, hz2, HE.out, HX6.out.1, HX6.out.2⟩
    · rw [if_pos h1] at hE2
      have HE : Hid (EE = none) := hid hE2
      have hz : ((e1 : Int) != 0) = true := by simp; omega
      have hz2 : (e1 : Int) ≠ 0 := by omega
      clear hE2 h1
      go_wp2_with (go_at_call 68; refine (HNc.out).mono ?_; rintro r w2 ⟨A3, c3, rfl, hr3, hg3, hB3⟩; have hx2 := HX1.out.on hg3 hr3; have l1 := hx2.boxes.1.2.1; have fO2 := hx2.boxes.2.1; have HX2 := hid hx2.gone_; clear hx2 hr3)
      refine wp_goto ⟨rfl, 0, ?_⟩
      unfold EZ
      exact ⟨_, _, _, _, _, _, _, _, _, _, _, _, _, _, _, _, _, _, _, _, _, _, _, _, _, _, _, _, _, _, _, _, _, _, _, _, _, _, _, _, _, _, _, _, _, _, _, _, _, _, _, _, _, _, _, _, _, _, _, _, _, _, _, _, _, _, _, _, _, _, _, _, _, _, _, _, _, _, _, _, _, _, _, _, _, _, _, _, _, _, _, _, rfl, hz2, HE.out, HX2.out.1, HX2.out.2⟩
end Go.Proofs.YtkkclkknpjapcaaDoor
