/- Layer 9's laws: awake, light, filled. -/
import Derived.Test.YtlfjbklagljdlaaDoorMmSe
import Derived.Test.YtlfjbklagljdlaaDoorMmQ
import Derived.Lib.SmallJoins
namespace Go.Proofs.YtlfjbklagljdlaaDoor
open Go.RowKit
set_option linter.unusedVariables false
set_option linter.unusedSimpArgs false

theorem box5 {w : World} {b : Nat} {c0 c1 c2 c3 c4 : Value} {T : TypeId} {fr : Nat × Nat} (h : w.heap[b]? = some (.cells #[c0, c1, c2, c3, c4] T fr)) : w.cell? ⟨b, 0, none⟩ = some c0 ∧ w.cell? ⟨b, 1, none⟩ = some c1 ∧ w.cell? ⟨b, 2, none⟩ = some c2 ∧ w.cell? ⟨b, 3, none⟩ = some c3 ∧ w.cell? ⟨b, 4, none⟩ = some c4 :=
  ⟨box_at h 0 _ rfl, box_at h 1 _ rfl, box_at h 2 _ rfl, box_at h 3 _ rfl, box_at h 4 _ rfl⟩
theorem rb_lit1 (w : World) (y : UInt8) (z : Int) (hz : z = y.toNat) (T : TypeId) (fr : Nat × Nat) (g : Nat) (hg : g = w.heap.size) : RB (w.alloc (.cells #[.int .u8 z] T fr)) (some ⟨g, 0, none⟩) 1 [y] := by
  subst hz hg
  exact RB.lit w [y] _ _ _ rfl (by simp)
theorem light_any (Ak : Option Addr) (nk ck : Nat) (s : Int) (g : Bool) (u : Int) (Av : Option Addr) (nv cv : Nat) (w : World) :
    Calls Tryd.prog 17 #[.agg #[.slice Ak nk ck, .int .i64 s, .bool g, .int .i64 u, .slice Av nv cv]] w fun e w' => e = .returned (.bool (decide (nk ≤ 3000 ∧ nv ≤ 3000))) ∧ Below w.heap.size w w' := by
  go_enter Tryd.func17, Tryd.ntmps17
  go_wp2
  all_goals
    go_ret
    refine ⟨ret_bool ?_, below_alloc' (Below.refl _ _) _⟩
    first
    | (rw [decide_eq_decide]; omega)
    | (simp; omega)
def ent1 : EntR := mkEnt [97] 5 false 0 [120]
def ent2 : EntR := mkEnt [97] 7 true 0 []
theorem add_lit1 (base bm : Nat) (l : List NodeR) (Ak : Option Addr) (ck : Nat) (Av : Option Addr) (cv : Nat) (w : World) (h : MemL w base bm l) (hT : TabOK w) (hk : RB w Ak 1 [97]) (hv : RB w Av 1 [120]) (hl : l.map nEnt = []) :
    Calls Tryd.prog 18 #[.pointer (some ⟨bm, 0, none⟩), .agg #[.slice Ak 1 ck, .int .i64 5, .bool false, .int .i64 0, .slice Av 1 cv]] w fun r w' => r = .returned (.int .i64 0) ∧ Below base w w' ∧ ∃ l', MemL w' base bm l' ∧ l'.map nEnt = [ent1] := by
  have hlen : l.length ≤ 1000 := by rw [← List.length_map (f := nEnt), hl]; simp
  refine (add_any base bm l Ak 1 ck Av 1 cv ent1 w h hT hk hv hlen).mono ?_
  rintro r w' ⟨rfl, l', h1, h2, h3, h4, h5⟩
  rw [hl] at h2 ⊢
  exact ⟨by rfl, h4, l', h1, h2.trans (by rfl)⟩
theorem add_lit2 (base bm : Nat) (l : List NodeR) (Ak : Option Addr) (ck : Nat) (w : World) (h : MemL w base bm l) (hT : TabOK w) (hk : RB w Ak 1 [97]) (hl : l.map nEnt = [ent1]) :
    Calls Tryd.prog 18 #[.pointer (some ⟨bm, 0, none⟩), .agg #[.slice Ak 1 ck, .int .i64 7, .bool true, .int .i64 0, .slice none 0 0]] w fun r w' => r = .returned (.int .i64 0) ∧ Below base w w' ∧ ∃ l', MemL w' base bm l' ∧ l'.map nEnt = [ent2, ent1] := by
  have hlen : l.length ≤ 1000 := by rw [← List.length_map (f := nEnt), hl]; simp
  refine (add_any base bm l Ak 1 ck none 0 0 ent2 w h hT hk (RB.nil _) hlen).mono ?_
  rintro r w' ⟨rfl, l', h1, h2, h3, h4, h5⟩
  rw [hl] at h2 ⊢
  exact ⟨by rfl, h4, l', h1, h2.trans (by rfl)⟩
theorem get_lit (base bm : Nat) (l : List NodeR) (Ak : Option Addr) (ck : Nat) (w : World) (h : MemL w base bm l) (hk : RB w Ak 1 [97]) (hl : l.map nEnt = [ent2, ent1]) :
    Calls Tryd.prog 12 #[.pointer (some ⟨bm, 0, none⟩), .slice Ak 1 ck, .int .i64 6] w fun r w' => Below w.heap.size w w' ∧ ∃ Bk mk dk Bv mv dv, r = .returned (.tuple #[.agg #[.slice Bk mk dk, .int .i64 5, .bool false, .int .i64 0, .slice Bv mv dv], .bool true]) ∧ RB w' Bv mv [120] := by
  refine (get_any base bm l Ak 1 ck [97] 6 w h hk).mono ?_
  rintro r w' ⟨kv, vv, rfl, h1, h2, h3⟩
  rw [hl] at h1 h2 ⊢
  obtain ⟨Bk, dk, rfl, _, _⟩ := OB.open_ h1
  obtain ⟨Bv, dv, rfl, hr, _⟩ := OB.open_ h2
  exact ⟨h3, Bk, _, dk, Bv, _, dv, by rfl, hr⟩
set_option maxHeartbeats 16000000 in
set_option maxRecDepth 100000 in
theorem awake_any (w : World) (hT : TabOK w) : Calls Tryd.prog 15 #[] w fun e w' => e = .returned (.bool true) ∧ Below w.heap.size w w' := by
  have HT := hid hT
  have kc := fun (w : World) (C : Array Value) (n c : Nat) => Lib.run_convert_bytes_const (P := Tryd.prog) w 23 5 C n c Tryd.underlying23 Tryd.underlying5
  have kc2 := fun (w : World) (o : Obj) (C : Array Value) (n c : Nat) => Go.Joins.run_convert_bytes_const_at (P := Tryd.prog) (w.alloc o) 23 5 C n c (w.heap.size + 1) (by simp) Tryd.underlying23 Tryd.underlying5
  clear hT
  go_enter Tryd.func15, Tryd.ntmps15
  go_wp2_with (first
    | (go_at_call 16; (with_reducible refine (new_any w.heap.size w (Nat.le_refl _)).mono ?_); rintro r w1 ⟨rfl, hm1, hb1⟩; have HM1 := hid hm1; clear hm1)
    | (go_at_call 18; (with_reducible refine (add_lit1 w.heap.size w.heap.size [] _ 1 _ 1 _ (MemL.below HM1.out (below_alloc' (below_alloc' (Below.refl _ _) _) _)) (HT.out.below (below_alloc' (below_alloc' hb1 _) _)) ((rb_lit1 w1 97 97 rfl _ _ _ rfl).alloc _) (rb_lit1 _ 120 120 rfl _ _ _ (by simp)) rfl).mono ?_); rintro r w2 ⟨rfl, hb2, l2, hm2, hl2⟩; have hB2 : Below w.heap.size w w2 := (below_alloc' (below_alloc' hb1 _) _).trans hb2; have HM2 := hid hm2; have HL2 := hid hl2; clear hm2 hl2)
    | (go_at_call 18; (with_reducible refine (add_lit2 w.heap.size w.heap.size l2 _ 1 _ (MemL.below HM2.out (below_alloc' (Below.refl _ _) _)) (HT.out.below (below_alloc' hB2 _)) (rb_lit1 w2 97 97 rfl _ _ _ rfl) HL2.out).mono ?_); rintro r w3 ⟨rfl, hb3, l3, hm3, hl3⟩; have hB3 : Below w.heap.size w w3 := (below_alloc' hB2 _).trans hb3; have HM3 := hid hm3; have HL3 := hid hl3; clear hm3 hl3)
    | (go_at_call 12; (with_reducible refine (get_lit w.heap.size w.heap.size l3 _ 1 _ (MemL.below HM3.out (below_alloc' (Below.refl _ _) _)) (rb_lit1 w3 97 97 rfl _ _ _ rfl) HL3.out).mono ?_); rintro r w4 ⟨hb4, Bk, mk, dk, Bv, mv, dv, rfl, hr4⟩; have hB4 : Below w.heap.size w w4 := below_then (below_alloc' hB3 _) hb4; have hcv := fun ob => RB.conv (hr4.alloc ob) dv; have HR4 := hid hr4; clear hr4))
  all_goals
    go_ret
    exact ⟨ret_bool (show ((bstr [120]).toList == [120]) = true by decide +kernel), below_alloc' hB4 _⟩
end Go.Proofs.YtlfjbklagljdlaaDoor
