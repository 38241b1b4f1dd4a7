/- Layer 9: Get. -/
import Derived.Test.YtlfjbklagljdlaaDoorMmC
import Derived.Laws.ResultCell
namespace Go.Proofs.YtlfjbklagljdlaaDoor
open Go.RowKit
set_option linter.unusedVariables false
set_option linter.unusedSimpArgs false

theorem results_box2 {P : Program} {fn : Func} {p u : Tmp} {ty : TypeId} (h : fn.results = #[.cell p ty, .tmp u]) (tmps : Array Value) (w : World) (g : Nat) (t : TypeId) (cs : Array Value) (fr : Nat × Nat) (d : TypeDesc)
    (hp : tmps.getD p undef = .pointer (some ⟨g, 0, none⟩)) (hg : w.heap[g]? = some (.cells cs t fr))
    (hu : P.underlying ty = some d) (hd : (match d with | .struct _ | .array _ _ => true | _ => false) = true) (hi : (P.info? ty).map (·.size) = some cs.size) :
    (results fn tmps).run P w = .ok (.tuple #[.agg cs, tmps.getD u undef]) w := by
  rw [results_cell_tmp h, hp]
  simp [asAddr, run_loadVar_row w g t ty cs fr d hg hu hd hi]
/-- What Get tells. -/
def getE (es : List EntR) (key : List UInt8) (s : Int) : EntR × Bool :=
  match sufK key s es with
  | [] => (noEnt, false)
  | x :: _ => if eKey x = key then (x, true) else (noEnt, false)
def GetC (w w' : World) (x : EntR) (b : Bool) (r : Ending) : Prop :=
  ∃ kv vv, r = .returned (.tuple #[.agg #[kv, .int .i64 (eSeq x), .bool (eGone x), .int .i64 (eTil x), vv], .bool b]) ∧ OB w' w.heap.size kv (eKey x) ∧ OB w' w.heap.size vv (eVal x) ∧ Below w.heap.size w w'
theorem GetC.none {w w' : World} (hb : Below w.heap.size w w') : GetC w w' noEnt false (.returned (.tuple #[.agg #[.slice none 0 0, .int .i64 0, .bool false, .int .i64 0, .slice none 0 0], .bool false])) := ⟨_, _, rfl, OB.nil _ _, OB.nil _ _, hb⟩
set_option maxHeartbeats 8000000 in
set_option maxRecDepth 100000 in
theorem get_none (Ak : Option Addr) (nk ck : Nat) (s : Int) (w : World) : Calls Tryd.prog 12 #[.pointer none, .slice Ak nk ck, .int .i64 s] w fun r w' => GetC w w' noEnt false r := by
  have hrx := heap_alloc_new w (.cells #[.slice none 0 0, .int .i64 0, .bool false, .int .i64 0, .slice none 0 0] 28)
  have hB : Below w.heap.size w (w.alloc (.cells #[.slice none 0 0, .int .i64 0, .bool false, .int .i64 0, .slice none 0 0] 28)) := below_alloc' (Below.refl _ _) _
  go_enter Tryd.func12, Tryd.ntmps12
  go_wp2_with (go_at_call 32; (with_reducible refine (from_none Ak nk ck s _).mono ?_); rintro r w2 ⟨rfl, rfl⟩)
  exact bodyPost_ret (results_box2 (fn := Tryd.f12) (p := 6) (u := 7) (ty := 28) rfl _ _ w.heap.size 28 #[.slice none 0 0, .int .i64 0, .bool false, .int .i64 0, .slice none 0 0] (0, 0) _ rfl hrx Tryd.underlying28 rfl entry5) rfl (GetC.none hB)
set_option maxHeartbeats 16000000 in
set_option maxRecDepth 100000 in
theorem get_any (base bm : Nat) (l : List NodeR) (Ak : Option Addr) (nk ck : Nat) (key : List UInt8) (s : Int) (w : World) (h : MemL w base bm l) (hk : RB w Ak nk key) :
    Calls Tryd.prog 12 #[.pointer (some ⟨bm, 0, none⟩), .slice Ak nk ck, .int .i64 s] w fun r w' => GetC w w' (getE (l.map nEnt) key s).1 (getE (l.map nEnt) key s).2 r := by
  obtain ⟨A, B, hAB, hAe, hBe, hA, hB⟩ := split_map key s h.srt
  subst hAB
  have HF := hid (fun (w' : World) (hb : Below w.heap.size w w') => from_any base bm _ _ A B Ak nk ck key s w' (h.sl.below hb) (hk.below hb) hA hB)
  have HS := hid h.sl
  have HK := hid hk
  have hrx := heap_alloc_new w (.cells #[.slice none 0 0, .int .i64 0, .bool false, .int .i64 0, .slice none 0 0] 28)
  have hB0 : Below w.heap.size w (w.alloc (.cells #[.slice none 0 0, .int .i64 0, .bool false, .int .i64 0, .slice none 0 0] 28)) := below_alloc' (Below.refl _ _) _
  cases B with
  | nil =>
    have hg : getE ((A ++ []).map nEnt) key s = (noEnt, false) := by unfold getE; rw [← hBe]; rfl
    rw [hg]
    clear h hk hAe hBe hA hB hg
    go_enter Tryd.func12, Tryd.ntmps12
    go_wp2_with (go_at_call 32; (with_reducible refine (HF.out _ hB0).mono ?_); rintro r w2 ⟨rfl, hb2⟩; have hB2 := below_then hB0 hb2; have hrx2 := blk_below hb2 hrx; have hz0 := box_at hrx2 0 (.slice none 0 0) rfl; have hz1 := box_at hrx2 1 (.int .i64 0) rfl; have hz2 := box_at hrx2 2 (.bool false) rfl; have hz3 := box_at hrx2 3 (.int .i64 0) rfl; have hz4 := box_at hrx2 4 (.slice none 0 0) rfl; have fz := fun i => frozen_of_row _ w.heap.size i _ _ hrx2; rw [show firstAt 0 ([] : List NodeR) = .pointer none from rfl])
    have hfin := set5 (.slice none 0 0) (.int .i64 0) (.bool false) (.int .i64 0) (.slice none 0 0) hrx2
    have hgf := grown_set5 w2 w.heap.size (.slice none 0 0) (.int .i64 0) (.bool false) (.int .i64 0) (.slice none 0 0)
    exact bodyPost_ret (results_box2 (fn := Tryd.f12) (p := 6) (u := 7) (ty := 28) rfl _ _ w.heap.size 28 #[.slice none 0 0, .int .i64 0, .bool false, .int .i64 0, .slice none 0 0] (0, 0) _ rfl hfin Tryd.underlying28 rfl entry5) rfl (GetC.none (hB2.grown hgf hB2.size (fun k hk => by cases hk; omega)))
  | cons x m =>
    have hx1 := h.tall x (by simp)
    have hmx := mayN_cases (h.may x (by simp))
    have hnx : firstAt 0 (x :: m) = .pointer (some ⟨nBlk x, 0, none⟩) := by
      unfold firstAt
      rw [if_pos (by omega)]
      rfl
    have HX := hid HS.out.2.get
    have hg : getE ((A ++ x :: m).map nEnt) key s = if eKey (nEnt x) = key then (nEnt x, true) else (noEnt, false) := by unfold getE; rw [← hBe]; rfl
    rw [hg]
    clear h hk hAe hBe hA hB hg hx1
    by_cases hke : eKey (nEnt x) = key
    · rw [if_pos hke]
      have HE := hid (decide_eq_true hke)
      clear hke
      go_enter Tryd.func12, Tryd.ntmps12
      go_wp2_with (first
        | (go_at_call 32; (with_reducible refine (HF.out _ hB0).mono ?_); rintro r w2 ⟨rfl, hb2⟩; have hB2 := below_then hB0 hb2; have hrx2 := blk_below hb2 hrx; have fz := fun i => frozen_of_row _ w.heap.size i _ _ hrx2; rw [hnx]; have hxb := blk_below hB2 HX.out.1; have HXK := hid (OB.below HX.out.2.1 hB2); have HXV := hid (OB.below HX.out.2.2.1 hB2); obtain ⟨Ax, cx, hxe, hxr, _⟩ := OB.open_ HXK.out; obtain ⟨Av, cv, hve, hvr, _⟩ := OB.open_ HXV.out; have x0 := box_at hxb 0 (nKv x) rfl; have x1 := box_at hxb 1 (.int .i64 (eSeq (nEnt x))) rfl; have x2 := box_at hxb 2 (.bool (eGone (nEnt x))) rfl; have x3 := box_at hxb 3 (.int .i64 (eTil (nEnt x))) rfl; have x4 := box_at hxb 4 (nVv x) rfl; rw [hxe] at x0; rw [hve] at x4; have HXR := hid hxr; have HVR := hid hvr; have HK2 := hid (HK.out.below hB2); clear hxr hvr hxe hve)
        | (go_at_call 33; (with_reducible refine (equal_any Ax (eKey (nEnt x)).length cx (eKey (nEnt x)) Ak nk ck key _ HXR.out HK2.out).mono ?_); rintro r w3 ⟨rfl, rfl⟩; rw [HE.out])
        | (go_at_call 34; (with_reducible refine (own_any Ax (eKey (nEnt x)).length cx (eKey (nEnt x)) (eSeq (nEnt x)) (eGone (nEnt x)) (eTil (nEnt x)) Av (eVal (nEnt x)).length cv (eVal (nEnt x)) _ HXR.out HVR.out (by omega) (by omega)).mono ?_); rintro r w4 ⟨kv, vv, rfl, ok1, ov1, hb4⟩; have hB4 := below_then hB2 hb4; have hrx4 := blk_below hb4 hrx2; have hz0 := box_at hrx4 0 (.slice none 0 0) rfl; have hz1 := box_at hrx4 1 (.int .i64 0) rfl; have hz2 := box_at hrx4 2 (.bool false) rfl; have hz3 := box_at hrx4 3 (.int .i64 0) rfl; have hz4 := box_at hrx4 4 (.slice none 0 0) rfl; have f4 := fun i => frozen_of_row _ w.heap.size i _ _ hrx4; obtain ⟨A1, c1, hkv, _, _⟩ := OB.open_ ok1; obtain ⟨A2, c2, hvv, _, _⟩ := OB.open_ ov1; subst hkv hvv))
      have hfin := set5 (.slice A1 (eKey (nEnt x)).length c1) (.int .i64 (eSeq (nEnt x))) (.bool (eGone (nEnt x))) (.int .i64 (eTil (nEnt x))) (.slice A2 (eVal (nEnt x)).length c2) hrx4
      have hgf := grown_set5 w4 w.heap.size (.slice A1 (eKey (nEnt x)).length c1) (.int .i64 (eSeq (nEnt x))) (.bool (eGone (nEnt x))) (.int .i64 (eTil (nEnt x))) (.slice A2 (eVal (nEnt x)).length c2)
      refine bodyPost_ret (results_box2 (fn := Tryd.f12) (p := 6) (u := 7) (ty := 28) rfl _ _ w.heap.size 28 #[.slice A1 (eKey (nEnt x)).length c1, .int .i64 (eSeq (nEnt x)), .bool (eGone (nEnt x)), .int .i64 (eTil (nEnt x)), .slice A2 (eVal (nEnt x)).length c2] (0, 0) _ rfl hfin Tryd.underlying28 rfl entry5) rfl ⟨_, _, rfl, ?_, ?_, hB4.grown hgf hB4.size (fun k hk => by cases hk; omega)⟩
      · exact OB.mono (ok1.other hgf (.inr (ok1.ne_blk hrx4 (by decide)))) hB2.size
      · exact OB.mono (ov1.other hgf (.inr (ov1.ne_blk hrx4 (by decide)))) hB2.size
    · rw [if_neg hke]
      have HE := hid (decide_eq_false hke)
      clear hke
      go_enter Tryd.func12, Tryd.ntmps12
      go_wp2_with (first
        | (go_at_call 32; (with_reducible refine (HF.out _ hB0).mono ?_); rintro r w2 ⟨rfl, hb2⟩; have hB2 := below_then hB0 hb2; have hrx2 := blk_below hb2 hrx; have hz0 := box_at hrx2 0 (.slice none 0 0) rfl; have hz1 := box_at hrx2 1 (.int .i64 0) rfl; have hz2 := box_at hrx2 2 (.bool false) rfl; have hz3 := box_at hrx2 3 (.int .i64 0) rfl; have hz4 := box_at hrx2 4 (.slice none 0 0) rfl; have fz := fun i => frozen_of_row _ w.heap.size i _ _ hrx2; rw [hnx]; have hxb := blk_below hB2 HX.out.1; have HXK := hid (OB.below HX.out.2.1 hB2); obtain ⟨Ax, cx, hxe, hxr, _⟩ := OB.open_ HXK.out; have x0 := box_at hxb 0 (nKv x) rfl; rw [hxe] at x0; have HXR := hid hxr; have HK2 := hid (HK.out.below hB2); clear hxr hxe)
        | (go_at_call 33; (with_reducible refine (equal_any Ax (eKey (nEnt x)).length cx (eKey (nEnt x)) Ak nk ck key _ HXR.out HK2.out).mono ?_); rintro r w3 ⟨rfl, rfl⟩; rw [HE.out]))
      have hfin := set5 (.slice none 0 0) (.int .i64 0) (.bool false) (.int .i64 0) (.slice none 0 0) hrx2
      have hgf := grown_set5 w2 w.heap.size (.slice none 0 0) (.int .i64 0) (.bool false) (.int .i64 0) (.slice none 0 0)
      exact bodyPost_ret (results_box2 (fn := Tryd.f12) (p := 6) (u := 7) (ty := 28) rfl _ _ w.heap.size 28 #[.slice none 0 0, .int .i64 0, .bool false, .int .i64 0, .slice none 0 0] (0, 0) _ rfl hfin Tryd.underlying28 rfl entry5) rfl (GetC.none (hB2.grown hgf hB2.size (fun k hk => by cases hk; omega)))
end Go.Proofs.YtlfjbklagljdlaaDoor
