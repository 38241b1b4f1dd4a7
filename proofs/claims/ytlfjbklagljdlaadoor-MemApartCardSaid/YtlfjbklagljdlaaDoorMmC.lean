/- Layer 9: Add, whole; New, Len, Weight, from. -/
import Derived.Test.YtlfjbklagljdlaaDoorMmB
namespace Go.Proofs.YtlfjbklagljdlaaDoor
open Go.RowKit
set_option linter.unusedVariables false
set_option linter.unusedSimpArgs false

def wtE (e : EntR) : Int := ((eKey e).length : Int) + ((eVal e).length : Int) + 16
def wtL : List EntR → Int
  | [] => 0
  | x :: l => wtE x + wtL l
theorem wtL_app (l m : List EntR) : wtL (l ++ m) = wtL l + wtL m := by
  induction l with
  | nil => simp [wtL]
  | cons x l ih => rw [List.cons_append, wtL, wtL, ih]; omega
theorem wtL_bound {l : List EntR} (h : ∀ x ∈ l, mayE x = true) : 0 ≤ wtL l ∧ wtL l ≤ 2576 * l.length := by
  induction l with
  | nil => simp [wtL]
  | cons x l ih =>
    obtain ⟨h1, h2⟩ := ih fun y hy => h y (by simp [hy])
    obtain ⟨m1, m2, m3, _, _⟩ := mayN_cases (h x (by simp))
    simp only [wtL, wtE, List.length_cons]
    omega
/-- A mem as the memory has it: its nodes; in order; each may be. -/
structure MemL (w : World) (base bm : Nat) (l : List NodeR) : Prop where
  sl : SL w base bm l l.length (wtL (l.map nEnt))
  tall : ∀ x ∈ l, 1 ≤ nHt x
  srt : Srt (l.map nEnt)
  may : ∀ x ∈ l, mayE (nEnt x) = true
  base_ : base ≤ bm
theorem MemL.size {w : World} {base bm : Nat} {l : List NodeR} (h : MemL w base bm l) : bm < w.heap.size := lt_of_blk h.sl.1
theorem MemL.below {w w' : World} {base bm : Nat} {l : List NodeR} (h : MemL w base bm l) (hb : Below w.heap.size w w') : MemL w' base bm l := ⟨h.sl.below hb, h.tall, h.srt, h.may, h.base_⟩
theorem MemL.mayE {w : World} {base bm : Nat} {l : List NodeR} (h : MemL w base bm l) : ∀ x ∈ l.map nEnt, Go.Proofs.YtlfjbklagljdlaaDoor.mayE x = true := by
  intro x hx
  obtain ⟨y, hy, rfl⟩ := List.mem_map.1 hx
  exact h.may y hy
def addR (es : List EntR) (e : EntR) : Int := if mayE e = true then (if hasE es e = true then 6 else 0) else 1
def addE (es : List EntR) (e : EntR) : List EntR := if mayE e = true then putE es e else es
/-- What Add leaves. -/
def AddO (w w' : World) (base bm : Nat) (l : List NodeR) (e : EntR) : Prop :=
  ∃ l', MemL w' base bm l' ∧ l'.map nEnt = addE (l.map nEnt) e ∧ KB bm l w w' ∧ Below base w w' ∧ (∀ i, inM bm l' i → inM bm l i ∨ w.heap.size ≤ i) ∧ (∀ x ∈ l', x ∈ l ∨ (FreshV w (nKv x) ∧ FreshV w (nVv x)))
theorem AddO.same {w w' : World} {base bm : Nat} {l : List NodeR} {e : EntR} (h : MemL w base bm l) (hb : Below w.heap.size w w') (he : addE (l.map nEnt) e = l.map nEnt) : AddO w w' base bm l e :=
  ⟨l, h.below hb, he.symm, KB.of_below hb, hb.mono (by have := h.size; have := h.base_; omega), fun i hi => .inl hi, fun x hx => .inl hx⟩
theorem add_any (base bm : Nat) (l : List NodeR) (Ak : Option Addr) (nk ck : Nat) (Av : Option Addr) (nv cv : Nat) (e : EntR) (w : World)
    (h : MemL w base bm l) (hT : TabOK w) (hk : RB w Ak nk (eKey e)) (hv : RB w Av nv (eVal e)) (hl : l.length ≤ 1000) :
    Calls Tryd.prog 18 #[.pointer (some ⟨bm, 0, none⟩), .agg #[.slice Ak nk ck, .int .i64 (eSeq e), .bool (eGone e), .int .i64 (eTil e), .slice Av nv cv]] w fun r w' => r = .returned (.int .i64 (addR (l.map nEnt) e)) ∧ AddO w w' base bm l e := by
  have hkl := hk.1
  have hvl := hv.1
  have hbm := h.size
  have hb0 := h.base_
  have hme : mayE e = mayN nk (eSeq e) (eGone e) (eTil e) nv := by unfold mayE; rw [hkl, hvl]
  by_cases hm : mayE e = true
  · have hm' := hm
    rw [hme] at hm'
    obtain ⟨A, B, hAB, hAe, hBe, hA, hB⟩ := split_map (eKey e) (eSeq e) h.srt
    subst hAB
    cases hh : hasE ((A ++ B).map nEnt) e
    · have hnb : noneB B (eKey e) (eSeq e) := by
        intro x m hx hs hke
        subst hx
        unfold hasE at hh
        rw [← hBe, List.map_cons] at hh
        simp [hs, hke] at hh
      have hwt := wtL_bound h.mayE
      refine (add_new base bm (A ++ B).length (wtL ((A ++ B).map nEnt)) A B Ak nk ck (eKey e) (eSeq e) (eGone e) (eTil e) Av nv cv (eVal e) w h.sl hT hk hv hm' (fun x hx => h.tall x (List.mem_append_right _ hx)) hA hB hnb (by omega) hb0 (by omega) ⟨hwt.1, by rw [List.length_map] at hwt; omega⟩).mono ?_
      rintro r w' ⟨rfl, G, ht, kv, vv, a1, a2, a3, a4, a5, a6⟩
      have hmap : (A ++ mkNode G ht (mkEnt (eKey e) (eSeq e) (eGone e) (eTil e) (eVal e)) kv vv :: B).map nEnt = insE ((A ++ B).map nEnt) e := by
        rw [List.map_append, List.map_cons, hAe, hBe]
        rfl
      have hlen : (A ++ mkNode G ht (mkEnt (eKey e) (eSeq e) (eGone e) (eTil e) (eVal e)) kv vv :: B).length = (A ++ B).length + 1 := by simp; omega
      have hadd : addE ((A ++ B).map nEnt) e = insE ((A ++ B).map nEnt) e := by unfold addE putE; rw [if_pos hm, hh]; simp
      refine ⟨by unfold addR; rw [if_pos hm, hh]; rfl, _, ⟨?_, ?_, ?_, ?_, hb0⟩, by rw [hadd]; exact hmap, a3, a4, ?_, ?_⟩
      · rw [hlen, List.map_append, List.map_cons, wtL_app, wtL]
        rw [List.map_append, wtL_app] at a2
        have e1 : wtL (A.map nEnt) + (wtE (nEnt (mkNode G ht (mkEnt (eKey e) (eSeq e) (eGone e) (eTil e) (eVal e)) kv vv)) + wtL (B.map nEnt)) = wtL (A.map nEnt) + wtL (B.map nEnt) + (((eKey e).length : Int) + ((eVal e).length : Int) + 16) := by
          show wtL (A.map nEnt) + (((eKey e).length : Int) + ((eVal e).length : Int) + 16 + wtL (B.map nEnt)) = _
          omega
        rw [e1]
        exact a2
      · intro x hx
        rcases List.mem_append.1 hx with hx | hx
        · exact h.tall x (List.mem_append_left _ hx)
        · rcases List.mem_cons.1 hx with rfl | hx
          · exact a1
          · exact h.tall x (List.mem_append_right _ hx)
      · rw [hmap]
        exact ins_srt h.srt hh
      · intro x hx
        rcases List.mem_append.1 hx with hx | hx
        · exact h.may x (List.mem_append_left _ hx)
        · rcases List.mem_cons.1 hx with rfl | hx
          · exact hm
          · exact h.may x (List.mem_append_right _ hx)
      · rintro i (hi | ⟨x, hx, hi⟩)
        · exact .inl (.inl hi)
        · rcases List.mem_append.1 hx with hx | hx
          · exact .inl (.inr ⟨x, List.mem_append_left _ hx, hi⟩)
          · rcases List.mem_cons.1 hx with rfl | hx
            · exact .inr (by rw [← hi]; exact a5)
            · exact .inl (.inr ⟨x, List.mem_append_right _ hx, hi⟩)
      · intro x hx
        rcases List.mem_append.1 hx with hx | hx
        · exact .inl (List.mem_append_left _ hx)
        · rcases List.mem_cons.1 hx with rfl | hx
          · exact .inr a6
          · exact .inl (List.mem_append_right _ hx)
    · obtain ⟨x, m, rfl⟩ : ∃ x m, B = x :: m := by
        cases B with
        | nil => unfold hasE at hh; rw [← hBe] at hh; simp at hh
        | cons x m => exact ⟨x, m, rfl⟩
      have hxe : eSeq (nEnt x) = eSeq e ∧ eKey (nEnt x) = eKey e := by
        unfold hasE at hh
        rw [← hBe, List.map_cons] at hh
        simpa using hh
      refine (add_old base bm (A ++ x :: m).length (wtL ((A ++ x :: m).map nEnt)) A m x Ak nk ck (eKey e) (eSeq e) (eGone e) (eTil e) Av nv cv w h.sl hk hv.2.1 hm' (h.tall x (by simp)) hA hB hxe.1 hxe.2).mono ?_
      rintro r w' ⟨rfl, hb⟩
      exact ⟨by unfold addR; rw [if_pos hm, if_pos hh], AddO.same h hb (by unfold addE putE; rw [if_pos hm, if_pos hh])⟩
  · have hm' : mayN nk (eSeq e) (eGone e) (eTil e) nv = false := by rw [← hme]; simpa using hm
    refine (add_bad bm Ak nk ck (eSeq e) (eGone e) (eTil e) Av nv cv w hk.2.1 hv.2.1 hm').mono ?_
    rintro r w' ⟨rfl, hb⟩
    exact ⟨by unfold addR; rw [if_neg hm], AddO.same h hb (by unfold addE; rw [if_neg hm])⟩
theorem new_any (base : Nat) (w : World) (hbase : base ≤ w.heap.size) : Calls Tryd.prog 16 #[] w fun r w' => r = .returned (.pointer (some ⟨w.heap.size, 0, none⟩)) ∧ MemL w' base w.heap.size [] ∧ Below w.heap.size w w' := by
  go_enter Tryd.func16, Tryd.ntmps16
  go_wp2
  go_ret
  refine ⟨rfl, ⟨⟨?_, trivial⟩, fun x hx => (by cases hx), trivial, fun x hx => (by cases hx), hbase⟩, below_alloc' (Below.refl _ _) _⟩
  exact heap_alloc_new w _
theorem len_any (base bm : Nat) (l : List NodeR) (w : World) (h : MemL w base bm l) : Calls Tryd.prog 25 #[.pointer (some ⟨bm, 0, none⟩)] w fun r w' => r = .returned (.int .i64 (l.length : Int)) ∧ w = w' := by
  have q := box_at h.sl.1 13 (.int .i64 (l.length : Int)) rfl
  clear h
  go_enter Tryd.func25, Tryd.ntmps25
  go_wp2
  go_ret
  exact ⟨rfl, rfl⟩
theorem weight_any (base bm : Nat) (l : List NodeR) (w : World) (h : MemL w base bm l) : Calls Tryd.prog 22 #[.pointer (some ⟨bm, 0, none⟩)] w fun r w' => r = .returned (.int .i64 (wtL (l.map nEnt))) ∧ w = w' := by
  have q := box_at h.sl.1 14 (.int .i64 (wtL (l.map nEnt))) rfl
  clear h
  generalize wtL (l.map nEnt) = x at *
  go_enter Tryd.func22, Tryd.ntmps22
  go_wp2
  go_ret
  exact ⟨rfl, rfl⟩
theorem len_none (w : World) : Calls Tryd.prog 25 #[.pointer none] w fun r w' => r = .returned (.int .i64 0) ∧ w = w' := by
  go_enter Tryd.func25, Tryd.ntmps25
  go_wp2
  go_ret
  exact ⟨rfl, rfl⟩
theorem weight_none (w : World) : Calls Tryd.prog 22 #[.pointer none] w fun r w' => r = .returned (.int .i64 0) ∧ w = w' := by
  go_enter Tryd.func22, Tryd.ntmps22
  go_wp2
  go_ret
  exact ⟨rfl, rfl⟩
set_option maxHeartbeats 8000000 in
theorem from_none (Ak : Option Addr) (nk ck : Nat) (s : Int) (w : World) : Calls Tryd.prog 32 #[.pointer none, .slice Ak nk ck, .int .i64 s] w fun r w' => r = .returned (.pointer none) ∧ w = w' := by
  go_enter Tryd.func32, Tryd.ntmps32
  go_wp2
  go_ret
  exact ⟨rfl, rfl⟩
set_option maxHeartbeats 8000000 in
set_option maxRecDepth 100000 in
theorem from_any (base bm n : Nat) (wt : Int) (A B : List NodeR) (Ak : Option Addr) (nk ck : Nat) (key : List UInt8) (s : Int) (w : World) (hS : SL w base bm (A ++ B) n wt) (hk : RB w Ak nk key)
    (hA : ∀ x ∈ A, aheadK (nEnt x) key s = true) (hB : ∀ x ∈ B, aheadK (nEnt x) key s = false) :
    Calls Tryd.prog 32 #[.pointer (some ⟨bm, 0, none⟩), .slice Ak nk ck, .int .i64 s] w fun r w' => r = .returned (firstAt 0 B) ∧ Below w.heap.size w w' := by
  have HP := hid (seek_lit base bm n wt A B Ak nk ck key s w hS hk hA hB)
  have HS := hid hS
  obtain ⟨p, hp⟩ := firstAt_ptr 0 B
  have HPP := hid hp
  clear hS hk hA hB hp
  go_enter Tryd.func32, Tryd.ntmps32
  go_wp2_with (go_at_call 36; (with_reducible refine HP.out.mono ?_); rintro r w2 ⟨rfl, hb2⟩; have hp3 := heap_alloc_new w2 (.cells #[.pointer (some ⟨lastAt 0 bm A, 0, none⟩), .pointer (some ⟨lastAt 1 bm A, 0, none⟩), .pointer (some ⟨lastAt 2 bm A, 0, none⟩), .pointer (some ⟨lastAt 3 bm A, 0, none⟩), .pointer (some ⟨lastAt 4 bm A, 0, none⟩), .pointer (some ⟨lastAt 5 bm A, 0, none⟩), .pointer (some ⟨lastAt 6 bm A, 0, none⟩), .pointer (some ⟨lastAt 7 bm A, 0, none⟩)] 57); have hB3 := below_then hb2 (below_alloc' (Below.refl _ _) (.cells #[.pointer (some ⟨lastAt 0 bm A, 0, none⟩), .pointer (some ⟨lastAt 1 bm A, 0, none⟩), .pointer (some ⟨lastAt 2 bm A, 0, none⟩), .pointer (some ⟨lastAt 3 bm A, 0, none⟩), .pointer (some ⟨lastAt 4 bm A, 0, none⟩), .pointer (some ⟨lastAt 5 bm A, 0, none⟩), .pointer (some ⟨lastAt 6 bm A, 0, none⟩), .pointer (some ⟨lastAt 7 bm A, 0, none⟩)] 57)); have q5 := box_at hp3 0 (.pointer (some ⟨lastAt 0 bm A, 0, none⟩)) rfl; have q6 := (HS.out.below hB3).at_last (k := 0) (by decide); rw [Nat.add_zero, HPP.out] at q6)
  go_ret
  exact ⟨by rw [HPP.out]; rfl, hB3⟩
end Go.Proofs.YtlfjbklagljdlaaDoor
