/- Shared texts, part S11: MmC, MmD, MmE. -/
import Derived.Laws.ResultCell
import Derived.Test.YtkkclkknpjapcaaDoorS10
import Derived.Test.YtkkclkknpjapcaaDoorS02
import Derived.Test.YtkkclkknpjapcaaDoorS03
/-! ### MmC -/
namespace Go.Proofs.YtkkclkknpjapcaaDoor
open Go.RowKit
set_option linter.unusedVariables false
set_option linter.unusedSimpArgs false

def wtE (e : EntR) : Int := ((eKey e).length : Int) + ((eVal e).length : Int) + 16
def wtL : List EntR → Int
  | [] => 0
  | x :: l => wtE x + wtL l
theorem wtL_app (l m : List EntR) : wtL (l ++ m) = wtL l + wtL m := by
  induction l with
  | nil => simp [wtL]
  | cons x l ih => rw [List.cons_append, wtL, wtL, ih]; omega
theorem wtL_bound {l : List EntR} (h : ∀ x ∈ l, mayE x = true) : 0 ≤ wtL l ∧ wtL l ≤ 2576 * l.length := by
  induction l with
  | nil => simp [wtL]
  | cons x l ih =>
    obtain ⟨h1, h2⟩ := ih fun y hy => h y (by simp [hy])
    obtain ⟨m1, m2, m3, _, _⟩ := mayN_cases (h x (by simp))
    simp only [wtL, wtE, List.length_cons]
    omega
/-- A mem as the memory has it: its nodes; in order; each may be. -/
structure MemL (w : World) (base bm : Nat) (l : List NodeR) : Prop where
  sl : SL w base bm l l.length (wtL (l.map nEnt))
  tall : ∀ x ∈ l, 1 ≤ nHt x
  srt : Srt (l.map nEnt)
  may : ∀ x ∈ l, mayE (nEnt x) = true
  base_ : base ≤ bm
theorem MemL.size {w : World} {base bm : Nat} {l : List NodeR} (h : MemL w base bm l) : bm < w.heap.size := lt_of_blk h.sl.1
theorem MemL.below {w w' : World} {base bm : Nat} {l : List NodeR} (h : MemL w base bm l) (hb : Below w.heap.size w w') : MemL w' base bm l := ⟨h.sl.below hb, h.tall, h.srt, h.may, h.base_⟩
theorem MemL.mayE {w : World} {base bm : Nat} {l : List NodeR} (h : MemL w base bm l) : ∀ x ∈ l.map nEnt, Go.Proofs.YtkkclkknpjapcaaDoor.mayE x = true := by
  intro x hx
  obtain ⟨y, hy, rfl⟩ := List.mem_map.1 hx
  exact h.may y hy
def addR (es : List EntR) (e : EntR) : Int := if mayE e = true then (if hasE es e = true then 6 else 0) else 1
def addE (es : List EntR) (e : EntR) : List EntR := if mayE e = true then putE es e else es
/-- What Add leaves. -/
def AddO (w w' : World) (base bm : Nat) (l : List NodeR) (e : EntR) : Prop :=
  ∃ l', MemL w' base bm l' ∧ l'.map nEnt = addE (l.map nEnt) e ∧ KB bm l w w' ∧ Below base w w' ∧ (∀ i, inM bm l' i → inM bm l i ∨ w.heap.size ≤ i) ∧ (∀ x ∈ l', x ∈ l ∨ (FreshV w (nKv x) ∧ FreshV w (nVv x)))
theorem AddO.same {w w' : World} {base bm : Nat} {l : List NodeR} {e : EntR} (h : MemL w base bm l) (hb : Below w.heap.size w w') (he : addE (l.map nEnt) e = l.map nEnt) : AddO w w' base bm l e :=
  ⟨l, h.below hb, he.symm, KB.of_below hb, hb.mono (by have := h.size; have := h.base_; omega), fun i hi => .inl hi, fun x hx => .inl hx⟩
theorem add_any (base bm : Nat) (l : List NodeR) (Ak : Option Addr) (nk ck : Nat) (Av : Option Addr) (nv cv : Nat) (e : EntR) (w : World)
    (h : MemL w base bm l) (hT : TabOK w) (hk : RB w Ak nk (eKey e)) (hv : RB w Av nv (eVal e)) (hl : l.length ≤ 1000) :
    Calls Tryd.prog 7 #[.pointer (some ⟨bm, 0, none⟩), .agg #[.slice Ak nk ck, .int .i64 (eSeq e), .bool (eGone e), .int .i64 (eTil e), .slice Av nv cv]] w fun r w' => r = .returned (.int .i64 (addR (l.map nEnt) e)) ∧ AddO w w' base bm l e := by
  have hkl := hk.1
  have hvl := hv.1
  have hbm := h.size
  have hb0 := h.base_
  have hme : mayE e = mayN nk (eSeq e) (eGone e) (eTil e) nv := by unfold mayE; rw [hkl, hvl]
  by_cases hm : mayE e = true
  · have hm' := hm
    rw [hme] at hm'
    obtain ⟨A, B, hAB, hAe, hBe, hA, hB⟩ := split_map (eKey e) (eSeq e) h.srt
    subst hAB
    cases hh : hasE ((A ++ B).map nEnt) e
    · have hnb : noneB B (eKey e) (eSeq e) := by
        intro x m hx hs hke
        subst hx
        unfold hasE at hh
        rw [← hBe, List.map_cons] at hh
        simp [hs, hke] at hh
      have hwt := wtL_bound h.mayE
      refine (add_new base bm (A ++ B).length (wtL ((A ++ B).map nEnt)) A B Ak nk ck (eKey e) (eSeq e) (eGone e) (eTil e) Av nv cv (eVal e) w h.sl hT hk hv hm' (fun x hx => h.tall x (List.mem_append_right _ hx)) hA hB hnb (by omega) hb0 (by omega) ⟨hwt.1, by rw [List.length_map] at hwt; omega⟩).mono ?_
      rintro r w' ⟨rfl, G, ht, kv, vv, a1, a2, a3, a4, a5, a6⟩
      have hmap : (A ++ mkNode G ht (mkEnt (eKey e) (eSeq e) (eGone e) (eTil e) (eVal e)) kv vv :: B).map nEnt = insE ((A ++ B).map nEnt) e := by
        rw [List.map_append, List.map_cons, hAe, hBe]
        rfl
      have hlen : (A ++ mkNode G ht (mkEnt (eKey e) (eSeq e) (eGone e) (eTil e) (eVal e)) kv vv :: B).length = (A ++ B).length + 1 := by simp; omega
      have hadd : addE ((A ++ B).map nEnt) e = insE ((A ++ B).map nEnt) e := by unfold addE putE; rw [if_pos hm, hh]; simp
      refine ⟨by unfold addR; rw [if_pos hm, hh]; rfl, _, ⟨?_, ?_, ?_, ?_, hb0⟩, by rw [hadd]; exact hmap, a3, a4, ?_, ?_⟩
      · rw [hlen, List.map_append, List.map_cons, wtL_app, wtL]
        rw [List.map_append, wtL_app] at a2
        have e1 : wtL (A.map nEnt) + (wtE (nEnt (mkNode G ht (mkEnt (eKey e) (eSeq e) (eGone e) (eTil e) (eVal e)) kv vv)) + wtL (B.map nEnt)) = wtL (A.map nEnt) + wtL (B.map nEnt) + (((eKey e).length : Int) + ((eVal e).length : Int) + 16) := by
          show wtL (A.map nEnt) + (((eKey e).length : Int) + ((eVal e).length : Int) + 16 + wtL (B.map nEnt)) = _
          omega
        rw [e1]
        exact a2
      · intro x hx
        rcases List.mem_append.1 hx with hx | hx
        · exact h.tall x (List.mem_append_left _ hx)
        · rcases List.mem_cons.1 hx with rfl | hx
          · exact a1
          · exact h.tall x (List.mem_append_right _ hx)
      · rw [hmap]
        exact ins_srt h.srt hh
      · intro x hx
        rcases List.mem_append.1 hx with hx | hx
        · exact h.may x (List.mem_append_left _ hx)
        · rcases List.mem_cons.1 hx with rfl | hx
          · exact hm
          · exact h.may x (List.mem_append_right _ hx)
      · rintro i (hi | ⟨x, hx, hi⟩)
        · exact .inl (.inl hi)
        · rcases List.mem_append.1 hx with hx | hx
          · exact .inl (.inr ⟨x, List.mem_append_left _ hx, hi⟩)
          · rcases List.mem_cons.1 hx with rfl | hx
            · exact .inr (by rw [← hi]; exact a5)
            · exact .inl (.inr ⟨x, List.mem_append_right _ hx, hi⟩)
      · intro x hx
        rcases List.mem_append.1 hx with hx | hx
        · exact .inl (List.mem_append_left _ hx)
        · rcases List.mem_cons.1 hx with rfl | hx
          · exact .inr a6
          · exact .inl (List.mem_append_right _ hx)
    · obtain ⟨x, m, rfl⟩ : ∃ x m, B = x :: m := by
        cases B with
        | nil => unfold hasE at hh; rw [← hBe] at hh; simp at hh
        | cons x m => exact ⟨x, m, rfl⟩
      have hxe : eSeq (nEnt x) = eSeq e ∧ eKey (nEnt x) = eKey e := by
        unfold hasE at hh
        rw [← hBe, List.map_cons] at hh
        simpa using hh
      refine (add_old base bm (A ++ x :: m).length (wtL ((A ++ x :: m).map nEnt)) A m x Ak nk ck (eKey e) (eSeq e) (eGone e) (eTil e) Av nv cv w h.sl hk hv.2.1 hm' (h.tall x (by simp)) hA hB hxe.1 hxe.2).mono ?_
      rintro r w' ⟨rfl, hb⟩
      exact ⟨by unfold addR; rw [if_pos hm, if_pos hh], AddO.same h hb (by unfold addE putE; rw [if_pos hm, if_pos hh])⟩
  · have hm' : mayN nk (eSeq e) (eGone e) (eTil e) nv = false := by rw [← hme]; simpa using hm
    refine (add_bad bm Ak nk ck (eSeq e) (eGone e) (eTil e) Av nv cv w hk.2.1 hv.2.1 hm').mono ?_
    rintro r w' ⟨rfl, hb⟩
    exact ⟨by unfold addR; rw [if_neg hm], AddO.same h hb (by unfold addE; rw [if_neg hm])⟩
theorem new_any (base : Nat) (w : World) (hbase : base ≤ w.heap.size) : Calls Tryd.prog 6 #[] w fun r w' => r = .returned (.pointer (some ⟨w.heap.size, 0, none⟩)) ∧ MemL w' base w.heap.size [] ∧ Below w.heap.size w w' := by
  go_enter Tryd.func6, Tryd.ntmps6
  go_wp2
  go_ret
  refine ⟨rfl, ⟨⟨?_, trivial⟩, fun x hx => (by cases hx), trivial, fun x hx => (by cases hx), hbase⟩, below_alloc' (Below.refl _ _) _⟩
  exact heap_alloc_new w _
set_option maxHeartbeats 8000000 in
theorem from_none (Ak : Option Addr) (nk ck : Nat) (s : Int) (w : World) : Calls Tryd.prog 43 #[.pointer none, .slice Ak nk ck, .int .i64 s] w fun r w' => r = .returned (.pointer none) ∧ w = w' := by
  go_enter Tryd.func43, Tryd.ntmps43
  go_wp2
  go_ret
  exact ⟨rfl, rfl⟩
set_option maxHeartbeats 8000000 in
set_option maxRecDepth 100000 in
theorem from_any (base bm n : Nat) (wt : Int) (A B : List NodeR) (Ak : Option Addr) (nk ck : Nat) (key : List UInt8) (s : Int) (w : World) (hS : SL w base bm (A ++ B) n wt) (hk : RB w Ak nk key)
    (hA : ∀ x ∈ A, aheadK (nEnt x) key s = true) (hB : ∀ x ∈ B, aheadK (nEnt x) key s = false) :
    Calls Tryd.prog 43 #[.pointer (some ⟨bm, 0, none⟩), .slice Ak nk ck, .int .i64 s] w fun r w' => r = .returned (firstAt 0 B) ∧ Below w.heap.size w w' := by
  have HP := hid (seek_lit base bm n wt A B Ak nk ck key s w hS hk hA hB)
  have HS := hid hS
  obtain ⟨p, hp⟩ := firstAt_ptr 0 B
  have HPP := hid hp
  clear hS hk hA hB hp
  go_enter Tryd.func43, Tryd.ntmps43
  go_wp2_with (go_at_call 23; (with_reducible refine HP.out.mono ?_); rintro r w2 ⟨rfl, hb2⟩; have hp3 := heap_alloc_new w2 (.cells #[.pointer (some ⟨lastAt 0 bm A, 0, none⟩), .pointer (some ⟨lastAt 1 bm A, 0, none⟩), .pointer (some ⟨lastAt 2 bm A, 0, none⟩), .pointer (some ⟨lastAt 3 bm A, 0, none⟩), .pointer (some ⟨lastAt 4 bm A, 0, none⟩), .pointer (some ⟨lastAt 5 bm A, 0, none⟩), .pointer (some ⟨lastAt 6 bm A, 0, none⟩), .pointer (some ⟨lastAt 7 bm A, 0, none⟩)] 50); have hB3 := below_then hb2 (below_alloc' (Below.refl _ _) (.cells #[.pointer (some ⟨lastAt 0 bm A, 0, none⟩), .pointer (some ⟨lastAt 1 bm A, 0, none⟩), .pointer (some ⟨lastAt 2 bm A, 0, none⟩), .pointer (some ⟨lastAt 3 bm A, 0, none⟩), .pointer (some ⟨lastAt 4 bm A, 0, none⟩), .pointer (some ⟨lastAt 5 bm A, 0, none⟩), .pointer (some ⟨lastAt 6 bm A, 0, none⟩), .pointer (some ⟨lastAt 7 bm A, 0, none⟩)] 50)); have q5 := box_at hp3 0 (.pointer (some ⟨lastAt 0 bm A, 0, none⟩)) rfl; have q6 := (HS.out.below hB3).at_last (k := 0) (by decide); rw [Nat.add_zero, HPP.out] at q6)
  go_ret
  exact ⟨by rw [HPP.out]; rfl, hB3⟩
end Go.Proofs.YtkkclkknpjapcaaDoor
/-! ### MmD -/
namespace Go.Proofs.YtkkclkknpjapcaaDoor
open Go.RowKit
set_option linter.unusedVariables false
set_option linter.unusedSimpArgs false

/-- What Get tells. -/
def getE (es : List EntR) (key : List UInt8) (s : Int) : EntR × Bool :=
  match sufK key s es with
  | [] => (noEnt, false)
  | x :: _ => if eKey x = key then (x, true) else (noEnt, false)
def GetC (w w' : World) (x : EntR) (b : Bool) (r : Ending) : Prop :=
  ∃ kv vv, r = .returned (.tuple #[.agg #[kv, .int .i64 (eSeq x), .bool (eGone x), .int .i64 (eTil x), vv], .bool b]) ∧ OB w' w.heap.size kv (eKey x) ∧ OB w' w.heap.size vv (eVal x) ∧ Below w.heap.size w w'
theorem GetC.none {w w' : World} (hb : Below w.heap.size w w') : GetC w w' noEnt false (.returned (.tuple #[.agg #[.slice none 0 0, .int .i64 0, .bool false, .int .i64 0, .slice none 0 0], .bool false])) := ⟨_, _, rfl, OB.nil _ _, OB.nil _ _, hb⟩
set_option maxHeartbeats 8000000 in
set_option maxRecDepth 100000 in
theorem get_none (Ak : Option Addr) (nk ck : Nat) (s : Int) (w : World) : Calls Tryd.prog 11 #[.pointer none, .slice Ak nk ck, .int .i64 s] w fun r w' => GetC w w' noEnt false r := by
  have hrx := heap_alloc_new w (.cells #[.slice none 0 0, .int .i64 0, .bool false, .int .i64 0, .slice none 0 0] 29)
  have hB : Below w.heap.size w (w.alloc (.cells #[.slice none 0 0, .int .i64 0, .bool false, .int .i64 0, .slice none 0 0] 29)) := below_alloc' (Below.refl _ _) _
  go_enter Tryd.func11, Tryd.ntmps11
  go_wp2_with (go_at_call 43; (with_reducible refine (from_none Ak nk ck s _).mono ?_); rintro r w2 ⟨rfl, rfl⟩)
  exact bodyPost_ret (results_box2 (fn := Tryd.f11) (p := 6) (u := 7) (ty := 29) rfl _ _ w.heap.size 29 #[.slice none 0 0, .int .i64 0, .bool false, .int .i64 0, .slice none 0 0] (0, 0) _ rfl hrx Tryd.underlying29 rfl entry5) rfl (GetC.none hB)
set_option maxHeartbeats 16000000 in
set_option maxRecDepth 100000 in
theorem get_any (base bm : Nat) (l : List NodeR) (Ak : Option Addr) (nk ck : Nat) (key : List UInt8) (s : Int) (w : World) (h : MemL w base bm l) (hk : RB w Ak nk key) :
    Calls Tryd.prog 11 #[.pointer (some ⟨bm, 0, none⟩), .slice Ak nk ck, .int .i64 s] w fun r w' => GetC w w' (getE (l.map nEnt) key s).1 (getE (l.map nEnt) key s).2 r := by
  obtain ⟨A, B, hAB, hAe, hBe, hA, hB⟩ := split_map key s h.srt
  subst hAB
  have HF := hid (fun (w' : World) (hb : Below w.heap.size w w') => from_any base bm _ _ A B Ak nk ck key s w' (h.sl.below hb) (hk.below hb) hA hB)
  have HS := hid h.sl
  have HK := hid hk
  have hrx := heap_alloc_new w (.cells #[.slice none 0 0, .int .i64 0, .bool false, .int .i64 0, .slice none 0 0] 29)
  have hB0 : Below w.heap.size w (w.alloc (.cells #[.slice none 0 0, .int .i64 0, .bool false, .int .i64 0, .slice none 0 0] 29)) := below_alloc' (Below.refl _ _) _
  cases B with
  | nil =>
    have hg : getE ((A ++ []).map nEnt) key s = (noEnt, false) := by unfold getE; rw [← hBe]; rfl
    rw [hg]
    clear h hk hAe hBe hA hB hg
    go_enter Tryd.func11, Tryd.ntmps11
    go_wp2_with (go_at_call 43; (with_reducible refine (HF.out _ hB0).mono ?_); rintro r w2 ⟨rfl, hb2⟩; have hB2 := below_then hB0 hb2; have hrx2 := blk_below hb2 hrx; have hz0 := box_at hrx2 0 (.slice none 0 0) rfl; have hz1 := box_at hrx2 1 (.int .i64 0) rfl; have hz2 := box_at hrx2 2 (.bool false) rfl; have hz3 := box_at hrx2 3 (.int .i64 0) rfl; have hz4 := box_at hrx2 4 (.slice none 0 0) rfl; have fz := fun i => frozen_of_row _ w.heap.size i _ _ hrx2; rw [show firstAt 0 ([] : List NodeR) = .pointer none from rfl])
    have hfin := set5 (.slice none 0 0) (.int .i64 0) (.bool false) (.int .i64 0) (.slice none 0 0) hrx2
    have hgf := grown_set5 w2 w.heap.size (.slice none 0 0) (.int .i64 0) (.bool false) (.int .i64 0) (.slice none 0 0)
    exact bodyPost_ret (results_box2 (fn := Tryd.f11) (p := 6) (u := 7) (ty := 29) rfl _ _ w.heap.size 29 #[.slice none 0 0, .int .i64 0, .bool false, .int .i64 0, .slice none 0 0] (0, 0) _ rfl hfin Tryd.underlying29 rfl entry5) rfl (GetC.none (hB2.grown hgf hB2.size (fun k hk => by cases hk; omega)))
  | cons x m =>
    have hx1 := h.tall x (by simp)
    have hmx := mayN_cases (h.may x (by simp))
    have hnx : firstAt 0 (x :: m) = .pointer (some ⟨nBlk x, 0, none⟩) := by
      unfold firstAt
      rw [if_pos (by omega)]
      rfl
    have HX := hid HS.out.2.get
    have hg : getE ((A ++ x :: m).map nEnt) key s = if eKey (nEnt x) = key then (nEnt x, true) else (noEnt, false) := by unfold getE; rw [← hBe]; rfl
    rw [hg]
    clear h hk hAe hBe hA hB hg hx1
    by_cases hke : eKey (nEnt x) = key
    · rw [if_pos hke]
      have HE := hid (decide_eq_true hke)
      clear hke
      go_enter Tryd.func11, Tryd.ntmps11
      go_wp2_with (first
        | (go_at_call 43; (with_reducible refine (HF.out _ hB0).mono ?_); rintro r w2 ⟨rfl, hb2⟩; have hB2 := below_then hB0 hb2; have hrx2 := blk_below hb2 hrx; have fz := fun i => frozen_of_row _ w.heap.size i _ _ hrx2; rw [hnx]; have hxb := blk_below hB2 HX.out.1; have HXK := hid (OB.below HX.out.2.1 hB2); have HXV := hid (OB.below HX.out.2.2.1 hB2); obtain ⟨Ax, cx, hxe, hxr, _⟩ := OB.open_ HXK.out; obtain ⟨Av, cv, hve, hvr, _⟩ := OB.open_ HXV.out; have x0 := box_at hxb 0 (nKv x) rfl; have x1 := box_at hxb 1 (.int .i64 (eSeq (nEnt x))) rfl; have x2 := box_at hxb 2 (.bool (eGone (nEnt x))) rfl; have x3 := box_at hxb 3 (.int .i64 (eTil (nEnt x))) rfl; have x4 := box_at hxb 4 (nVv x) rfl; rw [hxe] at x0; rw [hve] at x4; have HXR := hid hxr; have HVR := hid hvr; have HK2 := hid (HK.out.below hB2); clear hxr hvr hxe hve)
        | (go_at_call 24; (with_reducible refine (equal_any Ax (eKey (nEnt x)).length cx (eKey (nEnt x)) Ak nk ck key _ HXR.out HK2.out).mono ?_); rintro r w3 ⟨rfl, rfl⟩; rw [HE.out])
        | (go_at_call 25; (with_reducible refine (own_any Ax (eKey (nEnt x)).length cx (eKey (nEnt x)) (eSeq (nEnt x)) (eGone (nEnt x)) (eTil (nEnt x)) Av (eVal (nEnt x)).length cv (eVal (nEnt x)) _ HXR.out HVR.out (by omega) (by omega)).mono ?_); rintro r w4 ⟨kv, vv, rfl, ok1, ov1, hb4⟩; have hB4 := below_then hB2 hb4; have hrx4 := blk_below hb4 hrx2; have hz0 := box_at hrx4 0 (.slice none 0 0) rfl; have hz1 := box_at hrx4 1 (.int .i64 0) rfl; have hz2 := box_at hrx4 2 (.bool false) rfl; have hz3 := box_at hrx4 3 (.int .i64 0) rfl; have hz4 := box_at hrx4 4 (.slice none 0 0) rfl; have f4 := fun i => frozen_of_row _ w.heap.size i _ _ hrx4; obtain ⟨A1, c1, hkv, _, _⟩ := OB.open_ ok1; obtain ⟨A2, c2, hvv, _, _⟩ := OB.open_ ov1; subst hkv hvv))
      have hfin := set5 (.slice A1 (eKey (nEnt x)).length c1) (.int .i64 (eSeq (nEnt x))) (.bool (eGone (nEnt x))) (.int .i64 (eTil (nEnt x))) (.slice A2 (eVal (nEnt x)).length c2) hrx4
      have hgf := grown_set5 w4 w.heap.size (.slice A1 (eKey (nEnt x)).length c1) (.int .i64 (eSeq (nEnt x))) (.bool (eGone (nEnt x))) (.int .i64 (eTil (nEnt x))) (.slice A2 (eVal (nEnt x)).length c2)
      refine bodyPost_ret (results_box2 (fn := Tryd.f11) (p := 6) (u := 7) (ty := 29) rfl _ _ w.heap.size 29 #[.slice A1 (eKey (nEnt x)).length c1, .int .i64 (eSeq (nEnt x)), .bool (eGone (nEnt x)), .int .i64 (eTil (nEnt x)), .slice A2 (eVal (nEnt x)).length c2] (0, 0) _ rfl hfin Tryd.underlying29 rfl entry5) rfl ⟨_, _, rfl, ?_, ?_, hB4.grown hgf hB4.size (fun k hk => by cases hk; omega)⟩
      · exact OB.mono (ok1.other hgf (.inr (ok1.ne_blk hrx4 (by decide)))) hB2.size
      · exact OB.mono (ov1.other hgf (.inr (ov1.ne_blk hrx4 (by decide)))) hB2.size
    · rw [if_neg hke]
      have HE := hid (decide_eq_false hke)
      clear hke
      go_enter Tryd.func11, Tryd.ntmps11
      go_wp2_with (first
        | (go_at_call 43; (with_reducible refine (HF.out _ hB0).mono ?_); rintro r w2 ⟨rfl, hb2⟩; have hB2 := below_then hB0 hb2; have hrx2 := blk_below hb2 hrx; have hz0 := box_at hrx2 0 (.slice none 0 0) rfl; have hz1 := box_at hrx2 1 (.int .i64 0) rfl; have hz2 := box_at hrx2 2 (.bool false) rfl; have hz3 := box_at hrx2 3 (.int .i64 0) rfl; have hz4 := box_at hrx2 4 (.slice none 0 0) rfl; have fz := fun i => frozen_of_row _ w.heap.size i _ _ hrx2; rw [hnx]; have hxb := blk_below hB2 HX.out.1; have HXK := hid (OB.below HX.out.2.1 hB2); obtain ⟨Ax, cx, hxe, hxr, _⟩ := OB.open_ HXK.out; have x0 := box_at hxb 0 (nKv x) rfl; rw [hxe] at x0; have HXR := hid hxr; have HK2 := hid (HK.out.below hB2); clear hxr hxe)
        | (go_at_call 24; (with_reducible refine (equal_any Ax (eKey (nEnt x)).length cx (eKey (nEnt x)) Ak nk ck key _ HXR.out HK2.out).mono ?_); rintro r w3 ⟨rfl, rfl⟩; rw [HE.out]))
      have hfin := set5 (.slice none 0 0) (.int .i64 0) (.bool false) (.int .i64 0) (.slice none 0 0) hrx2
      have hgf := grown_set5 w2 w.heap.size (.slice none 0 0) (.int .i64 0) (.bool false) (.int .i64 0) (.slice none 0 0)
      exact bodyPost_ret (results_box2 (fn := Tryd.f11) (p := 6) (u := 7) (ty := 29) rfl _ _ w.heap.size 29 #[.slice none 0 0, .int .i64 0, .bool false, .int .i64 0, .slice none 0 0] (0, 0) _ rfl hfin Tryd.underlying29 rfl entry5) rfl (GetC.none (hB2.grown hgf hB2.size (fun k hk => by cases hk; omega)))
end Go.Proofs.YtkkclkknpjapcaaDoor
/-! ### MmE -/
namespace Go.Proofs.YtkkclkknpjapcaaDoor
open Go.RowKit
set_option linter.unusedVariables false
set_option linter.unusedSimpArgs false

def ListC (w w' : World) (es : List EntR) (r : Ending) : Prop := ∃ v, r = .returned v ∧ ROw w' w.heap.size v es ∧ Below w.heap.size w w'
/-- The entries ahead of a key; all where there is none. -/
def cutTo (tk : List UInt8) : List EntR → List EntR
  | [] => []
  | x :: l => if tk = [] ∨ cmpB (eKey x) tk < 0 then x :: cutTo tk l else []
def topS : Int := 9223372036854775807
def listE (es : List EntR) (frm tk : List UInt8) : List EntR := cutTo tk (sufK frm topS es)
theorem cutTo_cons {tk : List UInt8} {x : EntR} {l : List EntR} (h : tk = [] ∨ cmpB (eKey x) tk < 0) : cutTo tk (x :: l) = x :: cutTo tk l := by rw [cutTo, if_pos h]
theorem cutTo_stop {tk : List UInt8} {x : EntR} {l : List EntR} (h : ¬ (tk = [] ∨ cmpB (eKey x) tk < 0)) : cutTo tk (x :: l) = [] := by rw [cutTo, if_neg h]
theorem first_cons {x : NodeR} {m : List NodeR} (h : 1 ≤ nHt x) : firstAt 0 (x :: m) = .pointer (some ⟨nBlk x, 0, none⟩) := by
  unfold firstAt
  rw [if_pos (by omega)]
  rfl
/-- Where List's loop stands. -/
def ListJ (w wr : World) (B : List NodeR) (tk : List UInt8) (v p : Value) (g : Nat) : Prop :=
  ∃ B1 B2, B = B1 ++ B2 ∧ p = firstAt 0 B2 ∧ g = B2.length ∧ cutTo tk (B.map nEnt) = B1.map nEnt ++ cutTo tk (B2.map nEnt) ∧ ROw wr w.heap.size v (B1.map nEnt) ∧ Below w.heap.size w wr
theorem list_none (Ak : Option Addr) (nk ck : Nat) (Ar : Option Addr) (nr cr : Nat) (w : World) : Calls Tryd.prog 15 #[.pointer none, .slice Ak nk ck, .slice Ar nr cr] w fun r w' => r = .returned (.slice none 0 0) ∧ w = w' := by
  go_enter Tryd.func15, Tryd.ntmps15
  go_wp2_with (go_at_call 43; (with_reducible refine (from_none Ak nk ck 9223372036854775807 _).mono ?_); rintro r w2 ⟨rfl, rfl⟩)
  go_loopg [7, 8] 0 (fun g v p wr => v = .slice none 0 0 ∧ p = .pointer none ∧ wr = w)
  case atStart => exact ⟨rfl, rfl, rfl⟩
  case round =>
    obtain ⟨rfl, rfl, rfl⟩ := hrel
    go_wp2
    go_ret
    exact ⟨rfl, rfl⟩
set_option maxHeartbeats 32000000 in
set_option maxRecDepth 100000 in
theorem list_any (base bm : Nat) (l : List NodeR) (Ak : Option Addr) (nk ck : Nat) (key : List UInt8) (Ar : Option Addr) (nr cr : Nat) (tk : List UInt8) (w : World) (h : MemL w base bm l) (hk : RB w Ak nk key) (hr : RB w Ar nr tk) (hl : l.length ≤ 1000) :
    Calls Tryd.prog 15 #[.pointer (some ⟨bm, 0, none⟩), .slice Ak nk ck, .slice Ar nr cr] w fun r w' => ListC w w' (listE (l.map nEnt) key tk) r := by
  have hrl := hr.1
  have hrm := hr.2.1
  obtain ⟨A, B, hAB, hAe, hBe, hA, hB⟩ := split_map key topS h.srt
  subst hAB
  have HF := hid (fun (w' : World) (hb : Below w.heap.size w w') => from_any base bm _ _ A B Ak nk ck key 9223372036854775807 w' (h.sl.below hb) (hk.below hb) hA hB)
  have HH := hid h
  have HR := hid hr
  have HL := hid hl
  have HE : Hid (listE ((A ++ B).map nEnt) key tk = cutTo tk (B.map nEnt)) := by unfold Hid listE; rw [hBe]
  clear h hk hr hl hA hB hAe hBe
  go_enter Tryd.func15, Tryd.ntmps15
  go_wp2_with (go_at_call 43; (with_reducible refine (HF.out _ (Below.refl _ _)).mono ?_); rintro r w2 ⟨rfl, hb2⟩)
  have HJ0 : Hid (ListJ w w2 B tk (.slice none 0 0) (firstAt 0 B) B.length) := ⟨[], B, rfl, rfl, rfl, rfl, ROw.nil _ _, hb2⟩
  clear hb2 HF
  go_loopg [7, 8] (B.length) (fun g v p wr => ListJ w wr B tk v p g)
  case atStart => exact HJ0.out
  case round =>
    clear HJ0
    obtain ⟨B1, B2, hB, rfl, rfl, hcut, ⟨V, hown, hrelv⟩, hBw⟩ := hrel
    cases B2 with
    | nil =>
      rw [show firstAt 0 ([] : List NodeR) = .pointer none from rfl]
      have HC := hid hcut
      clear hcut
      go_wp2
      go_ret
      exact ⟨_, rfl, ⟨V, hown, by rw [HE.out, HC.out]; simpa [cutTo] using hrelv⟩, hBw⟩
    | cons x m =>
      subst hB
      have hx1 := HH.out.tall x (by simp)
      have hmx := mayN_cases (HH.out.may x (by simp))
      have hVl : V.length ≤ 1000 := by
        have := hrelv.1
        have h2 := HL.out
        rw [List.length_map] at this
        simp at h2
        omega
      have HX := HH.out.sl.2
      rw [← List.append_assoc] at HX
      obtain ⟨hxb, hxk, hxv, _⟩ := HX.get
      have hxb := blk_below hBw hxb
      have HXK := hid (OB.below hxk hBw)
      have HXV := hid (OB.below hxv hBw)
      obtain ⟨Ax, cx, hxe, hxr, _⟩ := OB.open_ HXK.out
      obtain ⟨Av, cv, hve, hvr, _⟩ := OB.open_ HXV.out
      have x0 := box_at hxb 0 (nKv x) rfl
      have x1 := box_at hxb 1 (.int .i64 (eSeq (nEnt x))) rfl
      have x2 := box_at hxb 2 (.bool (eGone (nEnt x))) rfl
      have x3 := box_at hxb 3 (.int .i64 (eTil (nEnt x))) rfl
      have x4 := box_at hxb 4 (nVv x) rfl
      have hnt : nextAt x m 0 = firstAt 0 m := by unfold nextAt; rw [if_pos (by omega)]
      rw [hxe] at x0
      rw [hve] at x4
      rw [first_cons hx1]
      have HXR := hid hxr
      have HVR := hid hvr
      have HR2 := hid (HR.out.below hBw)
      have HC := hid hcut
      have HV := hid hVl
      have HRel := hid hrelv
      clear hxr hvr hxe hve hxk hxv HX hcut hVl hrelv
      by_cases hpass : tk = [] ∨ cmpB (eKey (nEnt x)) tk < 0
      · obtain ⟨p, hp⟩ := firstAt_ptr 0 m
        have HNext : Hid (∀ (V' : List (List Value)) (v' : Value) (w' : World), OV w' w.heap.size 29 5 v' V' → RelV noEnt (PEo w' w.heap.size) V' (B1.map nEnt ++ [nEnt x]) → Below w.heap.size w w' → ListJ w w' (B1 ++ x :: m) tk v' (.pointer p) m.length) := by
          intro V' v' w' h1 h2 h3
          refine ⟨B1 ++ [x], m, by simp, hp.symm, rfl, ?_, ⟨V', h1, by rw [List.map_append]; exact h2⟩, h3⟩
          rw [HC.out, List.map_cons, cutTo_cons hpass, List.map_append]
          simp
        have hgo : ∀ (w3 : World), wr.grownBy w3 u7.ownBlock → w3.cell? ⟨nBlk x, 5, none⟩ = some (.pointer p) := by
          intro w3 hg3
          have hxb3 := blk_grown' hg3 hxb (OV.ne_blk hown hxb (by decide))
          rw [← hp, ← hnt]
          exact box_at hxb3 5 _ rfl
        have HGo := hid hgo
        clear hgo
        rcases Nat.eq_zero_or_pos nr with hn0 | hn0
        · have hb0 : ((nr : Int) == 0) = true := by rw [beq_iff_eq]; omega
          clear hpass hn0
          go_wp2_with (first | (go_at_call 25; (with_reducible refine (own_any Ax (eKey (nEnt x)).length cx (eKey (nEnt x)) (eSeq (nEnt x)) (eGone (nEnt x)) (eTil (nEnt x)) Av (eVal (nEnt x)).length cv (eVal (nEnt x)) _ HXR.out HVR.out (by omega) (by omega)).mono ?_); rintro r w4 ⟨kv, vv, rfl, ok1, ov1, hb4⟩; have hB4 := below_then hBw hb4; have hown4 := hown.below hb4; obtain ⟨A1, c1, hkv, _, _⟩ := OB.open_ ok1; obtain ⟨A2, c2, hvv, _, _⟩ := OB.open_ ov1; subst hkv hvv) | (at_builtin; refine wpV_append1 22 29 _ 5 72 Tryd.underlying22 eninfo rfl (by omega) w w4 w.heap.size rfl (.tmp 34) (.tmp 40) rfl u7 V rfl hown4 #[.slice A1 (eKey (nEnt x)).length c1, .int .i64 (eSeq (nEnt x)), .bool (eGone (nEnt x)), .int .i64 (eTil (nEnt x)), .slice A2 (eVal (nEnt x)).length c2] rfl (ones5 rfl rfl rfl rfl rfl) 1 _ rfl rfl (by have := HV.out; simp only [maxLen]; omega) (by have := HV.out; omega) hB4 hB4.size ?_; intro v3 w3 hown3 hB3 hg3 _; have hgo := HGo.out w3 (grown_trans (below_grown hb4 _) hg3); have HRel3 := hid (row_step (e := nEnt x) hb4 hown HRel.out hBw.size ok1 ov1 hg3)))
          go_roundg m.length
          case measure => simp
          case rel => exact HNext.out _ _ _ hown3 HRel3.out hB3
        · have hne : tk ≠ [] := by intro e; subst e; simp at hrl; omega
          have hcl : cmpB (eKey (nEnt x)) tk < 0 := by rcases hpass with h | h; exact absurd h hne; exact h
          have hb0 : ((nr : Int) == 0) = false := by rw [beq_eq_false_iff_ne]; omega
          obtain ⟨C, hC⟩ : ∃ C, cmpB (eKey (nEnt x)) tk = C := ⟨_, rfl⟩
          rw [hC] at hcl
          have HCm := hid hC
          clear hne hpass hC hn0
          go_wp2_with (first | (go_at_call 44; (with_reducible refine (compare_any Ax (eKey (nEnt x)).length cx (eKey (nEnt x)) Ar nr cr tk _ HXR.out HR2.out).mono ?_); rintro r w1 ⟨rfl, rfl⟩; rw [HCm.out]) | (go_at_call 25; (with_reducible refine (own_any Ax (eKey (nEnt x)).length cx (eKey (nEnt x)) (eSeq (nEnt x)) (eGone (nEnt x)) (eTil (nEnt x)) Av (eVal (nEnt x)).length cv (eVal (nEnt x)) _ HXR.out HVR.out (by omega) (by omega)).mono ?_); rintro r w4 ⟨kv, vv, rfl, ok1, ov1, hb4⟩; have hB4 := below_then hBw hb4; have hown4 := hown.below hb4; obtain ⟨A1, c1, hkv, _, _⟩ := OB.open_ ok1; obtain ⟨A2, c2, hvv, _, _⟩ := OB.open_ ov1; subst hkv hvv) | (at_builtin; refine wpV_append1 22 29 _ 5 72 Tryd.underlying22 eninfo rfl (by omega) w w4 w.heap.size rfl (.tmp 34) (.tmp 40) rfl u7 V rfl hown4 #[.slice A1 (eKey (nEnt x)).length c1, .int .i64 (eSeq (nEnt x)), .bool (eGone (nEnt x)), .int .i64 (eTil (nEnt x)), .slice A2 (eVal (nEnt x)).length c2] rfl (ones5 rfl rfl rfl rfl rfl) 1 _ rfl rfl (by have := HV.out; simp only [maxLen]; omega) (by have := HV.out; omega) hB4 hB4.size ?_; intro v3 w3 hown3 hB3 hg3 _; have hgo := HGo.out w3 (grown_trans (below_grown hb4 _) hg3); have HRel3 := hid (row_step (e := nEnt x) hb4 hown HRel.out hBw.size ok1 ov1 hg3)))
          go_roundg m.length
          case measure => simp
          case rel => exact HNext.out _ _ _ hown3 HRel3.out hB3
      · have hne : tk ≠ [] := fun e => hpass (.inl e)
        have hcl : ¬ cmpB (eKey (nEnt x)) tk < 0 := fun e => hpass (.inr e)
        have hn0 : nr ≠ 0 := by intro e; rw [e] at hrl; exact hne (List.eq_nil_of_length_eq_zero hrl)
        have hb0 : ((nr : Int) == 0) = false := by rw [beq_eq_false_iff_ne]; omega
        have hend : cutTo tk ((B1 ++ x :: m).map nEnt) = B1.map nEnt := by rw [HC.out, List.map_cons, cutTo_stop hpass, List.append_nil]
        obtain ⟨C, hC⟩ : ∃ C, cmpB (eKey (nEnt x)) tk = C := ⟨_, rfl⟩
        rw [hC] at hcl
        have hcd : decide (C < 0) = false := decide_eq_false hcl
        have HCm := hid hC
        have HEnd := hid hend
        clear hne hpass hC hn0 hend
        go_wp2_with (first | (go_at_call 44; (with_reducible refine (compare_any Ax (eKey (nEnt x)).length cx (eKey (nEnt x)) Ar nr cr tk _ HXR.out HR2.out).mono ?_); rintro r w1 ⟨rfl, rfl⟩; rw [HCm.out]))
        go_ret
        exact ⟨_, rfl, ⟨V, hown, by rw [HE.out, HEnd.out]; exact HRel.out⟩, hBw⟩
end Go.Proofs.YtkkclkknpjapcaaDoor
