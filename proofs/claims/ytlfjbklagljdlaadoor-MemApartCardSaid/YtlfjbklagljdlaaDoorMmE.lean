/- Layer 9: List, All. -/
import Derived.Test.YtlfjbklagljdlaaDoorMmD
import Derived.Test.YtlfjbklagljdlaaDoorOV
namespace Go.Proofs.YtlfjbklagljdlaaDoor
open Go.RowKit
set_option linter.unusedVariables false
set_option linter.unusedSimpArgs false

theorem eninfo : (Tryd.prog.info? 28).map (fun i => (i.zero, i.size, i.bytes)) = some (some (.agg #[.slice none 0 0, .int .i64 0, .bool false, .int .i64 0, .slice none 0 0]), 5, 72) := by kernel_rfl
theorem ones5 {a b c d f : Value} (ha : a.oneCell' = true) (hb : b.oneCell' = true) (hc : c.oneCell' = true) (hd : d.oneCell' = true) (hf : f.oneCell' = true) : ∀ u ∈ (#[a, b, c, d, f] : Array Value).toList, u.oneCell' = true := by
  intro u hu
  simp only [List.mem_cons, List.not_mem_nil, or_false] at hu
  rcases hu with rfl | rfl | rfl | rfl | rfl <;> assumption
/-- An entry's cells, its bytes one's own. -/
def PEo (w : World) (base : Nat) (x : List Value) (e : EntR) : Prop :=
  ∃ kv vv, x = [kv, .int .i64 (eSeq e), .bool (eGone e), .int .i64 (eTil e), vv] ∧ OB w base kv (eKey e) ∧ OB w base vv (eVal e)
theorem PEo.grown {w w' : World} {base base' : Nat} {v : Value} {V : List (List Value)} {x : List Value} {e : EntR} (h : PEo w base x e) (hg : w.grownBy w' v.ownBlock) (hv : OV w base' 28 5 v V) : PEo w' base x e := by
  obtain ⟨kv, vv, hx, h1, h2⟩ := h
  exact ⟨kv, vv, hx, h1.other hg (h1.apart_row hv (by decide)), h2.other hg (h2.apart_row hv (by decide))⟩
theorem PEo.below {w w' : World} {base : Nat} {x : List Value} {e : EntR} (h : PEo w base x e) (hb : Below w.heap.size w w') : PEo w' base x e := by
  obtain ⟨kv, vv, hx, h1, h2⟩ := h
  exact ⟨kv, vv, hx, h1.below hb, h2.below hb⟩
theorem PEo.mono {w : World} {base base' : Nat} {x : List Value} {e : EntR} (h : PEo w base x e) (hb : base' ≤ base) : PEo w base' x e := by
  obtain ⟨kv, vv, hx, h1, h2⟩ := h
  exact ⟨kv, vv, hx, h1.mono hb, h2.mono hb⟩
/-- A row of entries, all of it one's own. -/
def ROw (w : World) (base : Nat) (v : Value) (es : List EntR) : Prop := ∃ V, OV w base 28 5 v V ∧ RelV noEnt (PEo w base) V es
theorem ROw.nil (w : World) (base : Nat) : ROw w base (.slice none 0 0) [] := ⟨[], OV.nil _ _ _ _, RelV.nil⟩
theorem ROw.below {w w' : World} {base : Nat} {v : Value} {es : List EntR} (h : ROw w base v es) (hb : Below w.heap.size w w') : ROw w' base v es := by
  obtain ⟨V, h1, h2⟩ := h
  exact ⟨V, h1.below hb, h2.mono fun x a hx => hx.below hb⟩
def ListC (w w' : World) (es : List EntR) (r : Ending) : Prop := ∃ v, r = .returned v ∧ ROw w' w.heap.size v es ∧ Below w.heap.size w w'
/-- The entries ahead of a key; all where there is none. -/
def cutTo (tk : List UInt8) : List EntR → List EntR
  | [] => []
  | x :: l => if tk = [] ∨ cmpB (eKey x) tk < 0 then x :: cutTo tk l else []
def topS : Int := 9223372036854775807
def listE (es : List EntR) (frm tk : List UInt8) : List EntR := cutTo tk (sufK frm topS es)
theorem cutTo_cons {tk : List UInt8} {x : EntR} {l : List EntR} (h : tk = [] ∨ cmpB (eKey x) tk < 0) : cutTo tk (x :: l) = x :: cutTo tk l := by rw [cutTo, if_pos h]
theorem cutTo_stop {tk : List UInt8} {x : EntR} {l : List EntR} (h : ¬ (tk = [] ∨ cmpB (eKey x) tk < 0)) : cutTo tk (x :: l) = [] := by rw [cutTo, if_neg h]
theorem first_cons {x : NodeR} {m : List NodeR} (h : 1 ≤ nHt x) : firstAt 0 (x :: m) = .pointer (some ⟨nBlk x, 0, none⟩) := by
  unfold firstAt
  rw [if_pos (by omega)]
  rfl
theorem row_step {wr w4 w3 : World} {base : Nat} {v kv vv : Value} {V : List (List Value)} {es : List EntR} {e : EntR} (hb4 : Below wr.heap.size wr w4) (hown : OV wr base 28 5 v V) (hrel : RelV noEnt (PEo wr base) V es) (hbase : base ≤ wr.heap.size)
    (ok : OB w4 wr.heap.size kv (eKey e)) (ov : OB w4 wr.heap.size vv (eVal e)) (hg : w4.grownBy w3 v.ownBlock) : RelV noEnt (PEo w3 base) (V ++ [[kv, .int .i64 (eSeq e), .bool (eGone e), .int .i64 (eTil e), vv]]) (es ++ [e]) :=
  RelV.snoc (hrel.mono fun x a hx => (hx.below hb4).grown hg (hown.below hb4)) ⟨kv, vv, rfl, OB.mono (ok.other hg (ok.apart_row (hown.below hb4) (by decide))) hbase, OB.mono (ov.other hg (ov.apart_row (hown.below hb4) (by decide))) hbase⟩
/-- Where List's loop stands. -/
def ListJ (w wr : World) (B : List NodeR) (tk : List UInt8) (v p : Value) (g : Nat) : Prop :=
  ∃ B1 B2, B = B1 ++ B2 ∧ p = firstAt 0 B2 ∧ g = B2.length ∧ cutTo tk (B.map nEnt) = B1.map nEnt ++ cutTo tk (B2.map nEnt) ∧ ROw wr w.heap.size v (B1.map nEnt) ∧ Below w.heap.size w wr
theorem list_none (Ak : Option Addr) (nk ck : Nat) (Ar : Option Addr) (nr cr : Nat) (w : World) : Calls Tryd.prog 19 #[.pointer none, .slice Ak nk ck, .slice Ar nr cr] w fun r w' => r = .returned (.slice none 0 0) ∧ w = w' := by
  go_enter Tryd.func19, Tryd.ntmps19
  go_wp2_with (go_at_call 32; (with_reducible refine (from_none Ak nk ck 9223372036854775807 _).mono ?_); rintro r w2 ⟨rfl, rfl⟩)
  go_loopg [7, 8] 0 (fun g v p wr => v = .slice none 0 0 ∧ p = .pointer none ∧ wr = w)
  case atStart => exact ⟨rfl, rfl, rfl⟩
  case round =>
    obtain ⟨rfl, rfl, rfl⟩ := hrel
    go_wp2
    go_ret
    exact ⟨rfl, rfl⟩
set_option maxHeartbeats 32000000 in
set_option maxRecDepth 100000 in
theorem list_any (base bm : Nat) (l : List NodeR) (Ak : Option Addr) (nk ck : Nat) (key : List UInt8) (Ar : Option Addr) (nr cr : Nat) (tk : List UInt8) (w : World) (h : MemL w base bm l) (hk : RB w Ak nk key) (hr : RB w Ar nr tk) (hl : l.length ≤ 1000) :
    Calls Tryd.prog 19 #[.pointer (some ⟨bm, 0, none⟩), .slice Ak nk ck, .slice Ar nr cr] w fun r w' => ListC w w' (listE (l.map nEnt) key tk) r := by
  have hrl := hr.1
  have hrm := hr.2.1
  obtain ⟨A, B, hAB, hAe, hBe, hA, hB⟩ := split_map key topS h.srt
  subst hAB
  have HF := hid (fun (w' : World) (hb : Below w.heap.size w w') => from_any base bm _ _ A B Ak nk ck key 9223372036854775807 w' (h.sl.below hb) (hk.below hb) hA hB)
  have HH := hid h
  have HR := hid hr
  have HL := hid hl
  have HE : Hid (listE ((A ++ B).map nEnt) key tk = cutTo tk (B.map nEnt)) := by unfold Hid listE; rw [hBe]
  clear h hk hr hl hA hB hAe hBe
  go_enter Tryd.func19, Tryd.ntmps19
  go_wp2_with (go_at_call 32; (with_reducible refine (HF.out _ (Below.refl _ _)).mono ?_); rintro r w2 ⟨rfl, hb2⟩)
  have HJ0 : Hid (ListJ w w2 B tk (.slice none 0 0) (firstAt 0 B) B.length) := ⟨[], B, rfl, rfl, rfl, rfl, ROw.nil _ _, hb2⟩
  clear hb2 HF
  go_loopg [7, 8] (B.length) (fun g v p wr => ListJ w wr B tk v p g)
  case atStart => exact HJ0.out
  case round =>
    clear HJ0
    obtain ⟨B1, B2, hB, rfl, rfl, hcut, ⟨V, hown, hrelv⟩, hBw⟩ := hrel
    cases B2 with
    | nil =>
      rw [show firstAt 0 ([] : List NodeR) = .pointer none from rfl]
      have HC := hid hcut
      clear hcut
      go_wp2
      go_ret
      exact ⟨_, rfl, ⟨V, hown, by rw [HE.out, HC.out]; simpa [cutTo] using hrelv⟩, hBw⟩
    | cons x m =>
      subst hB
      have hx1 := HH.out.tall x (by simp)
      have hmx := mayN_cases (HH.out.may x (by simp))
      have hVl : V.length ≤ 1000 := by
        have := hrelv.1
        have h2 := HL.out
        rw [List.length_map] at this
        simp at h2
        omega
      have HX := HH.out.sl.2
      rw [← List.append_assoc] at HX
      obtain ⟨hxb, hxk, hxv, _⟩ := HX.get
      have hxb := blk_below hBw hxb
      have HXK := hid (OB.below hxk hBw)
      have HXV := hid (OB.below hxv hBw)
      obtain ⟨Ax, cx, hxe, hxr, _⟩ := OB.open_ HXK.out
      obtain ⟨Av, cv, hve, hvr, _⟩ := OB.open_ HXV.out
      have x0 := box_at hxb 0 (nKv x) rfl
      have x1 := box_at hxb 1 (.int .i64 (eSeq (nEnt x))) rfl
      have x2 := box_at hxb 2 (.bool (eGone (nEnt x))) rfl
      have x3 := box_at hxb 3 (.int .i64 (eTil (nEnt x))) rfl
      have x4 := box_at hxb 4 (nVv x) rfl
      have hnt : nextAt x m 0 = firstAt 0 m := by unfold nextAt; rw [if_pos (by omega)]
      rw [hxe] at x0
      rw [hve] at x4
      rw [first_cons hx1]
      have HXR := hid hxr
      have HVR := hid hvr
      have HR2 := hid (HR.out.below hBw)
      have HC := hid hcut
      have HV := hid hVl
      have HRel := hid hrelv
      clear hxr hvr hxe hve hxk hxv HX hcut hVl hrelv
      by_cases hpass : tk = [] ∨ cmpB (eKey (nEnt x)) tk < 0
      · obtain ⟨p, hp⟩ := firstAt_ptr 0 m
        have HNext : Hid (∀ (V' : List (List Value)) (v' : Value) (w' : World), OV w' w.heap.size 28 5 v' V' → RelV noEnt (PEo w' w.heap.size) V' (B1.map nEnt ++ [nEnt x]) → Below w.heap.size w w' → ListJ w w' (B1 ++ x :: m) tk v' (.pointer p) m.length) := by
          intro V' v' w' h1 h2 h3
          refine ⟨B1 ++ [x], m, by simp, hp.symm, rfl, ?_, ⟨V', h1, by rw [List.map_append]; exact h2⟩, h3⟩
          rw [HC.out, List.map_cons, cutTo_cons hpass, List.map_append]
          simp
        have hgo : ∀ (w3 : World), wr.grownBy w3 u7.ownBlock → w3.cell? ⟨nBlk x, 5, none⟩ = some (.pointer p) := by
          intro w3 hg3
          have hxb3 := blk_grown' hg3 hxb (OV.ne_blk hown hxb (by decide))
          rw [← hp, ← hnt]
          exact box_at hxb3 5 _ rfl
        have HGo := hid hgo
        clear hgo
        rcases Nat.eq_zero_or_pos nr with hn0 | hn0
        · have hb0 : ((nr : Int) == 0) = true := by rw [beq_iff_eq]; omega
          clear hpass hn0
          go_wp2_with (first | (go_at_call 34; (with_reducible refine (own_any Ax (eKey (nEnt x)).length cx (eKey (nEnt x)) (eSeq (nEnt x)) (eGone (nEnt x)) (eTil (nEnt x)) Av (eVal (nEnt x)).length cv (eVal (nEnt x)) _ HXR.out HVR.out (by omega) (by omega)).mono ?_); rintro r w4 ⟨kv, vv, rfl, ok1, ov1, hb4⟩; have hB4 := below_then hBw hb4; have hown4 := hown.below hb4; obtain ⟨A1, c1, hkv, _, _⟩ := OB.open_ ok1; obtain ⟨A2, c2, hvv, _, _⟩ := OB.open_ ov1; subst hkv hvv) | (at_builtin; refine wpV_append1 22 28 _ 5 72 Tryd.underlying22 eninfo rfl (by omega) w w4 w.heap.size rfl (.tmp 34) (.tmp 40) rfl u7 V rfl hown4 #[.slice A1 (eKey (nEnt x)).length c1, .int .i64 (eSeq (nEnt x)), .bool (eGone (nEnt x)), .int .i64 (eTil (nEnt x)), .slice A2 (eVal (nEnt x)).length c2] rfl (ones5 rfl rfl rfl rfl rfl) 1 _ rfl rfl (by have := HV.out; simp only [maxLen]; omega) (by have := HV.out; omega) hB4 hB4.size ?_; intro v3 w3 hown3 hB3 hg3 _; have hgo := HGo.out w3 (grown_trans (below_grown hb4 _) hg3); have HRel3 := hid (row_step (e := nEnt x) hb4 hown HRel.out hBw.size ok1 ov1 hg3)))
          go_roundg m.length
          case measure => simp
          case rel => exact HNext.out _ _ _ hown3 HRel3.out hB3
        · have hne : tk ≠ [] := by intro e; subst e; simp at hrl; omega
          have hcl : cmpB (eKey (nEnt x)) tk < 0 := by rcases hpass with h | h; exact absurd h hne; exact h
          have hb0 : ((nr : Int) == 0) = false := by rw [beq_eq_false_iff_ne]; omega
          obtain ⟨C, hC⟩ : ∃ C, cmpB (eKey (nEnt x)) tk = C := ⟨_, rfl⟩
          rw [hC] at hcl
          have HCm := hid hC
          clear hne hpass hC hn0
          go_wp2_with (first | (go_at_call 38; (with_reducible refine (compare_any Ax (eKey (nEnt x)).length cx (eKey (nEnt x)) Ar nr cr tk _ HXR.out HR2.out).mono ?_); rintro r w1 ⟨rfl, rfl⟩; rw [HCm.out]) | (go_at_call 34; (with_reducible refine (own_any Ax (eKey (nEnt x)).length cx (eKey (nEnt x)) (eSeq (nEnt x)) (eGone (nEnt x)) (eTil (nEnt x)) Av (eVal (nEnt x)).length cv (eVal (nEnt x)) _ HXR.out HVR.out (by omega) (by omega)).mono ?_); rintro r w4 ⟨kv, vv, rfl, ok1, ov1, hb4⟩; have hB4 := below_then hBw hb4; have hown4 := hown.below hb4; obtain ⟨A1, c1, hkv, _, _⟩ := OB.open_ ok1; obtain ⟨A2, c2, hvv, _, _⟩ := OB.open_ ov1; subst hkv hvv) | (at_builtin; refine wpV_append1 22 28 _ 5 72 Tryd.underlying22 eninfo rfl (by omega) w w4 w.heap.size rfl (.tmp 34) (.tmp 40) rfl u7 V rfl hown4 #[.slice A1 (eKey (nEnt x)).length c1, .int .i64 (eSeq (nEnt x)), .bool (eGone (nEnt x)), .int .i64 (eTil (nEnt x)), .slice A2 (eVal (nEnt x)).length c2] rfl (ones5 rfl rfl rfl rfl rfl) 1 _ rfl rfl (by have := HV.out; simp only [maxLen]; omega) (by have := HV.out; omega) hB4 hB4.size ?_; intro v3 w3 hown3 hB3 hg3 _; have hgo := HGo.out w3 (grown_trans (below_grown hb4 _) hg3); have HRel3 := hid (row_step (e := nEnt x) hb4 hown HRel.out hBw.size ok1 ov1 hg3)))
          go_roundg m.length
          case measure => simp
          case rel => exact HNext.out _ _ _ hown3 HRel3.out hB3
      · have hne : tk ≠ [] := fun e => hpass (.inl e)
        have hcl : ¬ cmpB (eKey (nEnt x)) tk < 0 := fun e => hpass (.inr e)
        have hn0 : nr ≠ 0 := by intro e; rw [e] at hrl; exact hne (List.eq_nil_of_length_eq_zero hrl)
        have hb0 : ((nr : Int) == 0) = false := by rw [beq_eq_false_iff_ne]; omega
        have hend : cutTo tk ((B1 ++ x :: m).map nEnt) = B1.map nEnt := by rw [HC.out, List.map_cons, cutTo_stop hpass, List.append_nil]
        obtain ⟨C, hC⟩ : ∃ C, cmpB (eKey (nEnt x)) tk = C := ⟨_, rfl⟩
        rw [hC] at hcl
        have hcd : decide (C < 0) = false := decide_eq_false hcl
        have HCm := hid hC
        have HEnd := hid hend
        clear hne hpass hC hn0 hend
        go_wp2_with (first | (go_at_call 38; (with_reducible refine (compare_any Ax (eKey (nEnt x)).length cx (eKey (nEnt x)) Ar nr cr tk _ HXR.out HR2.out).mono ?_); rintro r w1 ⟨rfl, rfl⟩; rw [HCm.out]))
        go_ret
        exact ⟨_, rfl, ⟨V, hown, by rw [HE.out, HEnd.out]; exact HRel.out⟩, hBw⟩
end Go.Proofs.YtlfjbklagljdlaaDoor
